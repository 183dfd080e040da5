/- bivariate.gather: a range over the map of sums, then the sort. -/
/- bivariate: the closure of plus that adds terms to a map of sums. -/
/- bivariate: plus, Add, Sub. -/
/- slices.Equal at terms of two variables; bivariate's Equal, Big. -/
import Derived.Test.YtnmidhlghhephaaGreatDoorWwBso
import Derived.Test.YtnmidhlghhephaaGreatDoorWwMsp
import Derived.Maps.RangeWalk
import Derived.Deep.LoopGhost
import Derived.Laws.StructEq
namespace Go.Proofs.YtnmidhlghhephaaGreatDoor
open Go.RowKit Go.Maps
set_option linter.unusedVariables false
theorem sortVB_any (v : Value) (base : Nat) (ts : List T2) (w : World) (h : OwnB base w v ts) (hl : ts.length ≤ 1000000) :
    Calls Tryz.prog 63 #[v, .func (.func 64) #[] #[]] w fun e w' => e = .returned (.tuple #[]) ∧ ∃ ts' : List T2, ts'.Perm ts ∧ ts'.Pairwise (fun a b => ¬ kb b.1 a.1) ∧ TmB w' v ts' ∧ Go.RowKit.Below base w w' ∧ ∀ k, v.ownBlock ≠ some k → k < w.heap.size → w'.heap[k]? = w.heap[k]? := by
  obtain ⟨h1, h2⟩ := h
  rcases h2 with ⟨rfl, h0⟩ | ⟨g, cap, cur, rfl, hr⟩
  · have : ts = [] := List.eq_nil_of_length_eq_zero h0
    subst this
    refine Calls.mono (AnyF.slices_SortFunc_none Tryz.sortBT none 0 _ w) ?_
    rintro e w' ⟨rfl, rfl⟩
    exact ⟨rfl, [], List.Perm.refl _, List.Pairwise.nil, TmB.nil _, Go.RowKit.Below.refl _ _, fun _ _ _ => rfl⟩
  · refine Calls.mono (sortB_any g cap base ts w ⟨h1, .inr ⟨g, cap, cur, rfl, hr⟩⟩ hl) ?_
    rintro e w' ⟨rfl, ts', a1, a2, a3, a4, a5⟩
    exact ⟨rfl, ts', a1, a2, a3, a4, fun k hk hl => a5 k (fun e => hk (by simp [Value.ownBlock, e])) hl⟩
/-- what has been gathered -/
structure RgI (done : List T2) (D : DataW Unit) (left : Lit → Bool) (R : List T2) : Prop where
  val : ∀ t ∈ R, t.2 = cg2 done t.1 ∧ t.2 ≠ 0 ∧ inB t.1 t.2 ∧ rkB t.1 ∧ left (keyB t.1) = false
  nod : R.Pairwise fun a b => a.1 ≠ b.1
  all : ∀ e, rkB e → Maps.has D (keyB e) = true → left (keyB e) = false → cg2 done e = 0 ∨ ∃ t ∈ R, t.1 = e
theorem sameKey_iff {a b : K2} (ha : rkB a) (hb : rkB b) : (keyB a).sameKey (keyB b) = true ↔ a = b := by
  constructor
  · intro h; exact keyB_inj ha hb (WideAt.sameKey_eq h)
  · rintro rfl; exact WideAt.sameKey_self trivial
theorem RgI.skip {done : List T2} {D : DataW Unit} {left : Lit → Bool} {R : List T2} (h : RgI done D left R) {x : K2} (hx : rkB x) (h0 : cg2 done x = 0) : RgI done D (fun z => left z && !z.sameKey (keyB x)) R := by
  refine ⟨fun t ht => ?_, h.nod, fun e he hh hl => ?_⟩
  · obtain ⟨a, b, c, d, e⟩ := h.val t ht
    exact ⟨a, b, c, d, by rw [e]; rfl⟩
  · cases hle : left (keyB e) with
    | false => exact h.all e he hh hle
    | true =>
      rw [hle, Bool.true_and] at hl
      have : (keyB e).sameKey (keyB x) = true := by simpa using hl
      rw [(sameKey_iff he hx).1 this]
      exact .inl h0
theorem RgI.app {done : List T2} {D : DataW Unit} {left : Lit → Bool} {R : List T2} (h : RgI done D left R) {x : K2} (hx : rkB x) (hl : left (keyB x) = true) (h0 : cg2 done x ≠ 0) (hi : inB x (cg2 done x)) : RgI done D (fun z => left z && !z.sameKey (keyB x)) (R ++ [(x, cg2 done x)]) := by
  refine ⟨fun t ht => ?_, ?_, fun e he hh hl2 => ?_⟩
  · rcases List.mem_append.1 ht with ht | ht
    · obtain ⟨a, b, c, d, e⟩ := h.val t ht
      exact ⟨a, b, c, d, by rw [e]; rfl⟩
    · rw [List.mem_singleton.1 ht]
      exact ⟨rfl, h0, hi, hx, by rw [(sameKey_iff hx hx).2 rfl]; simp⟩
  · rw [List.pairwise_append]
    refine ⟨h.nod, List.pairwise_singleton _ _, fun a ha b hb => ?_⟩
    rw [List.mem_singleton.1 hb]
    intro e
    have := (h.val a ha).2.2.2.2
    rw [e, hl] at this
    cases this
  · cases hle : left (keyB e) with
    | false =>
      rcases h.all e he hh hle with q | ⟨t, ht, q⟩
      · exact .inl q
      · exact .inr ⟨t, List.mem_append_left _ ht, q⟩
    | true =>
      rw [hle, Bool.true_and] at hl2
      have : (keyB e).sameKey (keyB x) = true := by simpa using hl2
      have := (sameKey_iff he hx).1 this
      exact .inr ⟨(x, cg2 done x), by simp, this.symm⟩
/-- the end: the sorted terms are the polynomial -/
theorem RgI.ends {done : List T2} {D : DataW Unit} {left : Lit → Bool} {R R' : List T2} (h : RgI done D left R) (hD : MDB done D) (hkr : Kr done) (hl : ∀ kl, left kl = false) (hp : R'.Perm R) (hs : R'.Pairwise (fun a b => ¬ kb b.1 a.1)) : Can2 R' ∧ Lim2 R' ∧ ∀ e, cg2 R' e = cg2 done e := by
  have hs2 : Srt2 R' := can_of_sort hp hs h.nod
  have hv : ∀ t ∈ R', t.2 = cg2 done t.1 ∧ t.2 ≠ 0 ∧ inB t.1 t.2 := fun t ht => by
    obtain ⟨a, b, c, _⟩ := h.val t (hp.mem_iff.1 ht)
    exact ⟨a, b, c⟩
  refine ⟨⟨hs2, fun t ht => (hv t ht).2.1⟩, ⟨fun t ht => (hv t ht).2.2.1, fun t ht => (hv t ht).2.2.2.1, fun t ht => (hv t ht).2.2.2.2⟩, ?_⟩
  refine nodup_of_fn (fun t ht => (hv t ht).1) hs2.nodup fun e he => ?_
  obtain ⟨t, ht, rfl⟩ := cg2_ne he
  have hr := hkr t ht
  rcases h.all t.1 hr ((hD.has t.1 hr).2 ⟨t, ht, rfl⟩) (hl _) with q | ⟨s, hs, q⟩
  · exact absurd q he
  · exact ⟨s, hp.mem_iff.2 hs, q⟩
/-- the state of gather's loop -/
structure GSt (w : World) (s : Value) (R : List T2) (W : World) : Prop where
  own : OwnB (w.heap.size + 1) W s R
  rr : Arr W (w.heap.size + 2) 29 [.bool false, s]
  res : Arr W w.heap.size 29 [.bool false, .slice none 0 0]
  bel : Below w.heap.size w W
section
variable {w W W' : World} {s : Value} {R : List T2}
theorem GSt.below (h : GSt w s R W) (hb : Below W.heap.size W W') : GSt w s R W' :=
  ⟨h.own.below hb, h.rr.below hb h.rr.lt, h.res.below hb h.res.lt, h.bel.trans (hb.mono h.bel.size)⟩
theorem GSt.app (h : GSt w s R W) {s' : Value} {m : T2} (ho : OwnB (w.heap.size + 1) W' s' (R ++ [m])) (hb : Below (w.heap.size + 1) W W') (hk : ∀ k, k < W.heap.size → s.ownBlock ≠ some k → W'.heap[k]? = W.heap[k]?) : Arr W' (w.heap.size + 2) 29 [.bool false, s] ∧ GSt w s' (R ++ [m]) (W'.setCell ⟨w.heap.size + 2, 1, none⟩ s') := by
  have a1 := OwnA.apartB h.own h.rr (by decide)
  have a2 := OwnA.apartB h.own h.res (by decide)
  have q1 : Arr W' (w.heap.size + 2) 29 [.bool false, s] := (hk _ h.rr.lt a1).trans h.rr
  have q2 : Arr W' w.heap.size 29 [.bool false, .slice none 0 0] := (hk _ h.res.lt a2).trans h.res
  refine ⟨q1, ho.keepK fun k hk2 => Below.heap_setCell W' ⟨w.heap.size + 2, 1, none⟩ s' k (fun e => ?_), q1.set 1 _, q2.far (p := ⟨w.heap.size + 2, 1, none⟩) (show w.heap.size ≠ w.heap.size + 2 by omega) _, (h.bel.trans (hb.mono (by omega))).setCell (p := ⟨w.heap.size + 2, 1, none⟩) (show w.heap.size ≤ w.heap.size + 2 by omega) _⟩
  rw [e] at hk2
  exact OwnA.apartB ho q1 (by decide) hk2
end
/-- the range over the map goes on -/
def RgB (w : World) (g : Nat) (done : List T2) (R : List T2) (cnt : Nat) (left : Lit → Bool) (W : World) : Prop := ∃ D : DataW Unit, W.ranges Tryz.prog 72 sElem g (w.heap.size + 3) done.length D left cnt ∧ MDB done D ∧ RgI done D left R ∧ R.length + cnt ≤ done.length
theorem RgB.keep {w W W' : World} {g : Nat} {done R : List T2} {cnt : Nat} {left : Lit → Bool} (h : RgB w g done R cnt left W) (hk : ∀ k, k = g ∨ k = w.heap.size + 3 → W'.heap[k]? = W.heap[k]?) : RgB w g done R cnt left W' := by
  obtain ⟨D, ⟨es, clock, since, seen, c0, hb, F, hs, hD, hr, rest⟩, h2⟩ := h
  exact ⟨D, ⟨es, clock, since, seen, c0, (hk _ (.inl rfl)).trans hb, F, hs, hD, (hk _ (.inr rfl)).trans hr, rest⟩, h2⟩
theorem GSt.step {w W W' : World} {s : Value} {R : List T2} {g n cnt : Nat} {D : DataW Unit} {left : Lit → Bool} (h : GSt w s R W) (hg : W.grownBy W' (some (w.heap.size + 3))) (hr : W.ranges Tryz.prog 72 sElem g (w.heap.size + 3) n D left cnt) : GSt w s R W' := by
  obtain ⟨es, clock, since, seen, c0, _, _, _, _, hr, _⟩ := hr
  have l1 := h.rr.lt
  have l2 := h.res.lt
  refine ⟨h.own.keepK fun k hk => hg.block k (h.own.lt k hk) (fun e => ?_), ?_, ?_, h.bel.trans ⟨hg.os, hg.tape, hg.output, hg.size, fun k hk => hg.block k (by have := h.bel.size; omega) (fun e => by injection e with e; omega)⟩⟩
  · injection e with e
    obtain ⟨cs, fr, hh⟩ := OwnA.typB h.own k hk
    rw [e, hr] at hh
    cases hh
  · exact (hg.block _ l1 (fun e => by injection e with e; omega)).trans h.rr
  · exact (hg.block _ l2 (fun e => by injection e with e; omega)).trans h.res
theorem mkK_inj {a b : K2} (h : mkK a = mkK b) : a = b := by
  unfold mkK at h
  injection h with h
  injection h with h
  injection h with h1 h2
  injection h2 with h2 _
  injection h1 with _ h1
  injection h2 with _ h2
  exact Prod.ext h1 h2
/-- one entry has come up -/
theorem RgB.came {w W' : World} {g cnt cnt1 : Nat} {done R : List T2} {left : Lit → Bool} {D : DataW Unit} {a z hi lo : Int} {kl : Lit} {yd : DataW Unit} {ps : List MemPlace} (hD : MDB done D) (hI : RgI done D left R) (hcn : R.length + cnt ≤ done.length) (hkey : keyOf Tryz.prog 72 (mkK (a, z)) = some kl) (hlk : left kl = true) (hv : sElem (mkS (hi, lo)) = some (yd, ps)) (hat : ∀ zd, D.atKey kl zd = yd)
    (hrg1 : W'.ranges Tryz.prog 72 sElem g (w.heap.size + 3) done.length D (fun x => left x && !x.sameKey kl) cnt1) (hlt : cnt1 < cnt) : rkB (a, z) ∧ hi = hiS done (a, z) ∧ lo = loS done (a, z) ∧ (cg2 done (a, z) = 0 → RgB w g done R cnt1 (fun x => left x && !x.sameKey (keyB (a, z))) W') ∧ (cg2 done (a, z) ≠ 0 → inB (a, z) (cg2 done (a, z)) → RgB w g done (R ++ [((a, z), cg2 done (a, z))]) cnt1 (fun x => left x && !x.sameKey (keyB (a, z))) W') := by
  obtain ⟨e, hre, hke, rfl⟩ := key_inv hkey
  have he := mkK_inj hke
  subst he
  have h1 := hat (sD 0 0)
  rw [hD.val _ hre] at h1
  obtain ⟨a', b', h2, h3⟩ := sElem_inv hv
  have h4 : sElem (mkS (hi, lo)) = some (sD hi lo, []) := rfl
  rw [h4] at hv
  injection hv with hv
  injection hv with hv _
  rw [← hv] at h1
  obtain ⟨q1, q2⟩ := sD_inj h1
  exact ⟨hre, q1.symm, q2.symm, fun h0 => ⟨D, hrg1, hD, hI.skip hre h0, by omega⟩, fun h0 hi => ⟨D, hrg1, hD, hI.app hre hlk h0 hi, by simp; omega⟩⟩
theorem RgB.below {w W W' : World} {g : Nat} {done R : List T2} {cnt : Nat} {left : Lit → Bool} (h : RgB w g done R cnt left W) (hb : Below W.heap.size W W') : RgB w g done R cnt left W' := h.keep fun k hk => hb.block k (by
  obtain ⟨D, hr, _⟩ := h
  rcases hk with rfl | rfl
  · exact hr.owns.lt
  · exact hr.lt)
theorem RgB.ltg {w W : World} {g : Nat} {done R : List T2} {cnt : Nat} {left : Lit → Bool} (h : RgB w g done R cnt left W) {k : Nat} (hk : k = g ∨ k = w.heap.size + 3) : k < W.heap.size ∧ ∀ cs t fr, W.heap[k]? ≠ some (.cells cs t fr) := by
  obtain ⟨D, hr, _⟩ := h
  have l1 := hr.owns.lt
  have l2 := hr.lt
  obtain ⟨es, clock, since, seen, c0, hb, F, hs, hD, hr, rest⟩ := hr
  rcases hk with rfl | rfl
  · exact ⟨l1, fun cs t fr ha => by rw [ha] at hb; cases hb⟩
  · exact ⟨l2, fun cs t fr ha => by rw [ha] at hr; cases hr⟩
theorem RgB.app {w W W' : World} {s s' : Value} {g : Nat} {done R R2 : List T2} {cnt : Nat} {left : Lit → Bool} (h : RgB w g done R cnt left W) (hst : GSt w s R2 W) (hk : ∀ k, k < W.heap.size → s.ownBlock ≠ some k → W'.heap[k]? = W.heap[k]?) : RgB w g done R cnt left (W'.setCell ⟨w.heap.size + 2, 1, none⟩ s') := h.keep fun k hk2 => by
  obtain ⟨h1, h2⟩ := h.ltg hk2
  refine (Below.heap_setCell W' ⟨w.heap.size + 2, 1, none⟩ s' k (fun e => ?_)).trans (hk k h1 (fun e => ?_))
  · have := hst.rr
    rw [show w.heap.size + 2 = k from e.symm] at this
    exact h2 _ _ _ this
  · obtain ⟨cs, fr, hh⟩ := OwnA.typB hst.own k e
    exact h2 _ _ _ hh
theorem run_makeB (n : Nat) (hn : n ≤ 10000000) (W : World) : ∃ cs, (Instr.makeSlice 27 (.int .i64 0) (.int .i64 (n : Int))).run Tryz.prog W = .ok (.slice (some ⟨W.heap.size, 0, none⟩) 0 n) (W.alloc (.cells cs 49)) ∧ cs.size = n * 3 := by
  obtain ⟨i, hi, hz, hs, hby⟩ := info_parts info_termB
  have h := run_make (P := Tryz.prog) W 27 49 i _ Tryz.underlying27 hi hz .i64 .i64 0 (n : Int) (Int.le_refl _) (by omega) (by rw [hby]; omega) (by omega)
  refine ⟨_, h, ?_⟩
  rw [size_madeCells, hs]; omega
theorem OwnB.made {w : World} {base n : Nat} {cs : Array Value} (hb : base ≤ w.heap.size) (hn : n ≤ 10000000) (hc : cs.size = n * 3) : OwnB base (w.alloc (.cells cs 49)) (.slice (some ⟨w.heap.size, 0, none⟩) 0 n) [] :=
  ⟨rfl, .inr ⟨w.heap.size, n, cs, rfl, hb, heap_alloc_new w _, Nat.zero_le _, by unfold maxLen; omega, by omega, by simp⟩⟩
def GthR (F : K2 → Int) (w : World) (e : Ending) (w' : World) : Prop := ∃ v r, e = .returned v ∧ PolyB w' v r ∧ GthP F r ∧ Below w.heap.size w w'
theorem len_mapB {g n : Nat} {D : DataW Unit} {W : World} (h : W.ownsMap Tryz.prog 72 sElem g n D) (ty : TypeId) : (Builtin.len_ #[71] ty #[.map (some g)]).run Tryz.prog W = .ok (.int .i64 (Maps.size D)) W := h.len Tryz.underlying71 ty
theorem slB_one (w : World) (a z c : Int) : SlA tB (w.alloc (.cells #[.int .i64 a, .int .i64 z, .int .i64 c] 49)) (.slice (some ⟨w.heap.size, 0, none⟩) 1 1) [((a, z), c)] := (OwnA.lit (w := w) (e := 49) (sz := 3) (enc := tB) (xs := [((a, z), c)]) (fun x _ => rfl) (Nat.le_refl _) (by simp) (by simp)).sl
set_option maxHeartbeats 4000000 in
set_option maxRecDepth 100000 in
theorem gather_any (g : Nat) (done : List T2) (w : World) (hm : MapB g done w) (hcb : Cb done) (hkr : Kr done) (hl : done.length ≤ 1000000) :
    Calls Tryz.prog 39 #[.map (some g)] w (GthR (cg2 done) w) := by
  obtain ⟨F, hF⟩ : ∃ F, F = cg2 done := ⟨_, rfl⟩
  rw [← hF]
  have HF := Lib.hid hF
  have HCK := Lib.hid (And.intro hcb hkr)
  have HGL := Lib.hid hm.lt
  obtain ⟨D, hown, hD⟩ := hm
  have hlen := fun ty (W : World) (h : W.ownsMap Tryz.prog 72 sElem g done.length D) => len_mapB h ty
  have hsz := hown.size_le
  generalize hn : Maps.size D = n at *
  obtain ⟨W1, hW1⟩ : ∃ W1, W1 = w.alloc (.cells #[.bool false, .slice none 0 0] 29) := ⟨_, rfl⟩
  obtain ⟨cs, hmk, hcs⟩ := run_makeB n (by omega) W1
  have hlen1 := fun ty => hlen ty W1 (by rw [hW1]; exact hown.alloc _)
  have hs1 : W1.heap.size = w.heap.size + 1 := by rw [hW1]; simp
  rw [hs1] at hmk
  have hW : ∀ W, W = (W1.alloc (.cells cs 49)).alloc (.cells #[.bool false, .slice (some ⟨w.heap.size + 1, 0, none⟩) 0 n] 29) → GSt w (.slice (some ⟨w.heap.size + 1, 0, none⟩) 0 n) [] W ∧ W.ownsMap Tryz.prog 72 sElem g done.length D ∧ W.heap.size = w.heap.size + 3 := by
    intro W hW
    subst hW hW1
    have h1 := OwnB.made (w := w.alloc (.cells #[.bool false, .slice none 0 0] 29)) (base := w.heap.size + 1) (by simp) (by omega) hcs
    rw [hs1] at h1
    exact ⟨⟨h1.alloc _, Arr.newAt ((w.alloc _).alloc _) _ [_, _] _ (by simp), ((Arr.new _ _ [_, _]).alloc _).alloc _, (((Below.refl _ _).alloc (Nat.le_refl _) _).alloc (by simp) _).alloc (by simp <;> omega) _⟩, ((hown.alloc _).alloc _).alloc _, by simp⟩
  subst hW1
  have HN := Lib.hid hn
  clear hlen hcb hkr hF hcs hs1 hn
  go_enter Tryz.func39, Tryz.ntmps39
  go_upto_region 2 with fail
  generalize ((w.alloc (.cells #[.bool false, .slice none 0 0] 29)).alloc (.cells cs 49)).alloc (.cells #[.bool false, .slice (some ⟨w.heap.size + 1, 0, none⟩) 0 n] 29) = w4 at *
  obtain ⟨hst, hown4, hs4⟩ := hW w4 rfl
  clear hW hmk hlen1 hown
  go_wp2_with (first
    | (at_range; refine wpList_range_own _ rfl _ 71 rfl 72 74 keyed_pair Tryz.underlying71 _ g done.length D rfl hown4 ?_; intro w0 hrg0 hg0 hs0)
    | fail)
  go_frame
  have hst0 : GSt w (.slice (some ⟨w.heap.size + 1, 0, none⟩) 0 n) [] w0 := hst.below ⟨hg0.os, hg0.tape, hg0.output, hg0.size, fun k hk => hg0.block k hk (by simp)⟩
  have HRG := Lib.hid (show RgB w g done [] (Maps.size D) (Maps.has D) w0 from ⟨D, by rw [← hs4]; exact hrg0, hD, ⟨fun t h => (by cases h), List.Pairwise.nil, fun e he h1 h2 => by rw [h1] at h2; cases h2⟩, by rw [HN.out]; simpa using hsz⟩)
  have hsz4 := hs4
  rw [hs4]
  clear hst hown4 hs4 hg0 hs0 hrg0 hsz4 hD hsz
  go_loopg [4, 5, 6, 7] (Maps.size D) (fun gk s4 s5 s6 s7 wr => ∃ (s : Value) (R : List T2) (left : Lit → Bool), GSt w s R wr ∧ Hid (RgB w g done R gk left wr))
  case atStart => exact ⟨_, _, _, hst0, HRG⟩
  case round =>
    clear hst0 HRG
    obtain ⟨s, R, left, hst, HR⟩ := hrel
    have hrr := HR.out
    obtain ⟨D, hrg, hD, hI, hcn⟩ := hrr
    go_wp2_with (first
      | (at_next; refine wpList_next_ranges _ rfl _ rfl 72 keyed_pair sElem mkK mkS (fun key kl h => by obtain ⟨e, _, h2, _⟩ := key_inv h; exact ⟨e, h2⟩) (fun v y h => by obtain ⟨a, b, h2, _⟩ := sElem_inv h; exact ⟨(a, b), h2⟩) g (w.heap.size + 3) done.length D left _ rfl hrg ?_ ?_)
      | fail)
    · intro h0 hl0
      have hRl : R.length ≤ 1000000 := by omega
      have HEN := Lib.hid (fun R' h1 h2 => hI.ends (R' := R') hD HCK.out.2 hl0 h1 h2)
      have HST := Lib.hid hst
      have y0 := hst.rr.cell 0
      have y1 := hst.rr.cell 1
      have HSO := Lib.hid (sortVB_any s (w.heap.size + 1) R wr hst.own hRl)
      obtain ⟨As, cs1, rfl⟩ := hst.own.form
      obtain ⟨rn, hrn⟩ : ∃ rn, rn = R.length := ⟨_, rfl⟩
      rw [← hrn] at HSO HST y1
      have HRN := Lib.hid hrn
      clear hst HR hrg hD hI hcn h0 hl0 hrn
      go_wp2_with fail
      refine HSO.out.mono ?_
      rintro e w5 ⟨rfl, ts, h1, h2, h3, h4, h5⟩
      have HE := Lib.hid (HEN.out ts h1 h2)
      have htl : ts.length = rn := by rw [h1.length_eq, HRN.out]
      have a1 := OwnA.apartB HST.out.own HST.out.rr (by decide)
      have a2 := OwnA.apartB HST.out.own HST.out.res (by decide)
      have q1 : Arr w5 (w.heap.size + 2) 29 [.bool false, .slice As rn cs1] := (h5 _ a1 HST.out.rr.lt).trans HST.out.rr
      have q2 : Arr w5 w.heap.size 29 [.bool false, .slice none 0 0] := (h5 _ a2 HST.out.res.lt).trans HST.out.res
      have hb5 := HST.out.bel.trans (h4.mono (by omega))
      have x0 := q1.cell 0
      have x1 := q1.cell 1
      have r0 := q2.cell 0
      have r1 := q2.cell 1
      have f0 := q2.frozen 0
      have f1 := q2.frozen 1
      have HTM := Lib.hid h3
      have HTL := Lib.hid htl
      have HRS := Lib.hid ((q2.set 0 (.bool false)).set 1 (.slice As rn cs1))
      have HBE := Lib.hid ((hb5.setCell (p := ⟨w.heap.size, 0, none⟩) (Nat.le_refl _) (.bool false)).setCell (p := ⟨w.heap.size, 1, none⟩) (Nat.le_refl _) (.slice As rn cs1))
      have HKP := Lib.hid ((Kp.set q2 (.bool false)).trans (Kp.set (q2.set 0 (.bool false)) (.slice As rn cs1) (i := 1)))
      clear h1 h2 h3 h4 h5 q1 q2 hb5 htl a1 a2 y0 y1 HSO
      go_wp2_with fail
      refine bodyPost_ret (v := .agg #[.bool false, .slice As rn cs1]) (results_c Tryz.results39 _ _ w.heap.size 29 _ _ rfl HRS.out Tryz.underlying29 rfl info_polyB) rfl ?_
      refine ⟨_, some ts, rfl, ?_, .inl ⟨ts, rfl, HE.out.1, HE.out.2.1, fun e => by rw [HE.out.2.2, HF.out]⟩, HBE.out⟩
      have := HTM.out.kp HKP.out (by decide)
      rw [← HTL.out] at this ⊢
      exact PolyB.of_tm this
    · intro a z hi lo kl yd ps w1 cnt1 hkey hlk hv hat hrg1 hlt hg1 hs1 hen
      obtain ⟨hre, h1, h2, h3, h4⟩ := RgB.came (w := w) hD hI hcn hkey hlk hv hat hrg1 hlt
      have hst1 := hst.step hg1 hrg
      have hbh := hiS_bd HCK.out.1 (a, z)
      have hbl := loS_bd done (a, z)
      rw [← h1] at hbh
      rw [← h2] at hbl
      have hsm := hilo done (a, z)
      rw [← h1, ← h2] at hsm
      have HRK := Lib.hid hre
      have HLT := Lib.hid hlt
      have HSK := Lib.hid h3
      have HAP := Lib.hid h4
      have hRl : R.length ≤ 1000000 := by omega
      generalize (fun x => left x && !x.sameKey (keyB (a, z))) = left1 at *
      clear hst HR hrg hD hI hcn hkey hlk hv hat hrg1 hlt hg1 hs1 hre h1 h2 h3 h4
      have hW : ∀ W, W = (w1.alloc (.cells #[.int .i64 a, .int .i64 z] 72)).alloc (.cells #[.int .i64 hi, .int .i64 lo] 74) → Arr W w1.heap.size 72 [.int .i64 a, .int .i64 z] ∧ Arr W (w1.heap.size + 1) 74 [.int .i64 hi, .int .i64 lo] ∧ Below w1.heap.size w1 W := by
        intro W hW
        subst hW
        exact ⟨(Arr.new _ _ [_, _]).alloc _, Arr.newAt (w1.alloc _) _ [_, _] _ (by simp), ((Below.refl _ _).alloc (Nat.le_refl _) _).alloc (by simp) _⟩
      simp only [mkK, mkS] at hen ⊢
      go_upto_region 5 with fail
      generalize (w1.alloc (.cells #[.int .i64 a, .int .i64 z] 72)).alloc (.cells #[.int .i64 hi, .int .i64 lo] 74) = w5 at hW ⊢
      obtain ⟨qp, qs, hb5⟩ := hW w5 rfl
      have hst5 := hst1.below hb5
      have HSK5 := Lib.hid (fun h => (HSK.out h).below hb5)
      have HAP5 := Lib.hid (fun h k => (HAP.out h k).below hb5)
      have hsz5 := hb5.size
      have HSM := Lib.hid (ssmall_any hi lo w5 (by omega) (by omega))
      rw [hsm] at HSM
      have x0 := qs.cell 0
      have x1 := qs.cell 1
      generalize hgp : w1.heap.size = gp at *
      clear hW hen hst1 HSK HAP hb5 hbh hbl hsm qs
      obtain ⟨cc, hcc⟩ : ∃ x, x = cg2 done (a, z) := ⟨_, rfl⟩
      rw [← hcc] at HSK5 HAP5 HSM
      have hccF : F (a, z) = cc := by rw [HF.out, hcc]
      have HFC := Lib.hid hccF
      clear hcc hccF
      go_wp2_with fail
      refine HSM.out.mono ?_
      rintro e w6 ⟨c, rfl, hc, hb6⟩
      have hst6 := hst5.below hb6
      have HSK6 := Lib.hid (fun h => (HSK5.out h).below hb6)
      have HAP6 := Lib.hid (fun h k => (HAP5.out h k).below hb6)
      have qp6 := qp.below hb6 qp.lt
      clear HSM HSK5 HAP5 hst5 qp x0 x1 hb6 hsz5
      have y0 := qp6.cell 0
      have y1 := qp6.cell 1
      obtain ⟨WB, hWB⟩ : ∃ z, z = wiB cc 1125899906842624 := ⟨_, rfl⟩
      rw [← hWB] at hc ⊢
      have HW1 := Lib.hid (fun W => bwithin_any a 1048576 W (by omega) (by omega))
      have HW2 := Lib.hid (fun W => bwithin_any z 1048576 W (by omega) (by omega))
      have hend : ∀ W, Below w6.heap.size w6 W → GSt w s R W := fun W hb => hst6.below hb
      cases WB with
      | false =>
        have HBIG := Lib.hid (show ∃ e, F e ≠ 0 ∧ ¬ inB e (F e) from ⟨(a, z), by
          rw [HFC.out]
          have := of_decide_eq_false hWB.symm
          exact ⟨by omega, fun h => this h.1⟩⟩)
        have qr := hst6.res
        have r0 := qr.cell 0
        have r1 := qr.cell 1
        have f0 := qr.frozen 0
        have f1 := qr.frozen 1
        have HRS := Lib.hid ((qr.set 0 (.bool true)).set 1 (.slice none 0 0))
        have HBE := Lib.hid ((hst6.bel.setCell (p := ⟨w.heap.size, 0, none⟩) (Nat.le_refl _) (.bool true)).setCell (p := ⟨w.heap.size, 1, none⟩) (Nat.le_refl _) (.slice none 0 0))
        clear qr hWB hc hend
        go_wp2_with fail
        refine bodyPost_ret (v := .agg #[.bool true, .slice none 0 0]) (results_c Tryz.results39 _ _ w.heap.size 29 _ _ rfl HRS.out Tryz.underlying29 rfl info_polyB) rfl ?_
        exact ⟨_, none, rfl, PolyB.big _, .inr ⟨rfl, HBIG.out⟩, HBE.out⟩
      | true =>
        have hcx := hc rfl
        subst hcx
        have hb50 := of_decide_eq_true hWB.symm
        clear hWB hc hend
        by_cases hc0 : c = 0
        · have n0 : (c == 0) = true := by simp [hc0]
          have HF6 := Lib.hid (HSK6.out hc0)
          clear hc0 y0 y1 HW1 HW2
          go_wp2_with fail
          go_roundg cnt1
          case measure => exact HLT.out
          case rel => exact ⟨s, R, left1, hst6, HF6⟩
        have n0 : (c == 0) = false := beq_eq_false_iff_ne.2 hc0
        obtain ⟨WA, hWA⟩ : ∃ x, x = wiB a 1048576 := ⟨_, rfl⟩
        obtain ⟨WZ, hWZ⟩ : ∃ x, x = wiB z 1048576 := ⟨_, rfl⟩
        rw [← hWA] at HW1
        rw [← hWZ] at HW2
        have HWA := Lib.hid hWA
        have HWZ := Lib.hid hWZ
        clear hWA hWZ
        cases WA with
        | false =>
          have HBIG := Lib.hid (show ∃ e, F e ≠ 0 ∧ ¬ inB e (F e) from ⟨(a, z), by
            rw [HFC.out]
            have := of_decide_eq_false HWA.out.symm
            exact ⟨hc0, fun h => this h.2.1⟩⟩)
          have qr := hst6.res
          have r0 := qr.cell 0
          have r1 := qr.cell 1
          have f0 := qr.frozen 0
          have f1 := qr.frozen 1
          have HRS := Lib.hid ((qr.set 0 (.bool true)).set 1 (.slice none 0 0))
          have HBE := Lib.hid ((hst6.bel.setCell (p := ⟨w.heap.size, 0, none⟩) (Nat.le_refl _) (.bool true)).setCell (p := ⟨w.heap.size, 1, none⟩) (Nat.le_refl _) (.slice none 0 0))
          clear qr
          go_wp2_with fail
          refine (HW1.out _).mono ?_
          rintro e w7 ⟨rfl, rfl⟩
          go_wp2_with fail
          refine bodyPost_ret (v := .agg #[.bool true, .slice none 0 0]) (results_c Tryz.results39 _ _ w.heap.size 29 _ _ rfl HRS.out Tryz.underlying29 rfl info_polyB) rfl ?_
          exact ⟨_, none, rfl, PolyB.big _, .inr ⟨rfl, HBIG.out⟩, HBE.out⟩
        | true =>
          cases WZ with
          | false =>
            have HBIG := Lib.hid (show ∃ e, F e ≠ 0 ∧ ¬ inB e (F e) from ⟨(a, z), by
              rw [HFC.out]
              have := of_decide_eq_false HWZ.out.symm
              exact ⟨hc0, fun h => this h.2.2⟩⟩)
            have qr := hst6.res
            have r0 := qr.cell 0
            have r1 := qr.cell 1
            have f0 := qr.frozen 0
            have f1 := qr.frozen 1
            have HRS := Lib.hid ((qr.set 0 (.bool true)).set 1 (.slice none 0 0))
            have HBE := Lib.hid ((hst6.bel.setCell (p := ⟨w.heap.size, 0, none⟩) (Nat.le_refl _) (.bool true)).setCell (p := ⟨w.heap.size, 1, none⟩) (Nat.le_refl _) (.slice none 0 0))
            clear qr
            go_wp2_with fail
            refine (HW1.out _).mono ?_
            rintro e w7 ⟨rfl, rfl⟩
            go_wp2_with fail
            refine (HW2.out _).mono ?_
            rintro e w7 ⟨rfl, rfl⟩
            go_wp2_with fail
            refine bodyPost_ret (v := .agg #[.bool true, .slice none 0 0]) (results_c Tryz.results39 _ _ w.heap.size 29 _ _ rfl HRS.out Tryz.underlying29 rfl info_polyB) rfl ?_
            exact ⟨_, none, rfl, PolyB.big _, .inr ⟨rfl, HBIG.out⟩, HBE.out⟩
          | true =>
            have HF6 := Lib.hid (HAP6.out hc0 ⟨hb50, of_decide_eq_true HWA.out.symm, of_decide_eq_true HWZ.out.symm⟩)
            have q1 := hst6.rr
            have z1 := q1.cell 1
            have HSL := Lib.hid (slB_one w6 a z c)
            have HS7 := Lib.hid (hst6.below ((Below.refl _ _).alloc (Nat.le_refl _) (.cells #[.int .i64 a, .int .i64 z, .int .i64 c] 49)))
            have HF7 := Lib.hid (HF6.out.below ((Below.refl _ _).alloc (Nat.le_refl _) (.cells #[.int .i64 a, .int .i64 z, .int .i64 c] 49)))
            have HSZ := Lib.hid (show w.heap.size + 1 ≤ (w6.alloc (.cells #[.int .i64 a, .int .i64 z, .int .i64 c] 49)).heap.size by have := hst6.bel.size; simp; omega)
            have HRL := Lib.hid (show R.length + [((a, z), c)].length ≤ 1000000000 by simp; omega)
            obtain ⟨As, cs1, rfl⟩ := hst6.own.form
            obtain ⟨rn, hrn⟩ : ∃ rn, rn = R.length := ⟨_, rfl⟩
            rw [← hrn] at z1 hst6 HS7
            have HRN := Lib.hid hrn
            clear q1 hst6 hrn HSK6 HAP6 HF6 hb50 hc0
            go_wp2_with fail
            refine (HW1.out _).mono ?_
            rintro e w7 ⟨rfl, rfl⟩
            go_wp2_with fail
            refine (HW2.out _).mono ?_
            rintro e w7 ⟨rfl, rfl⟩
            go_wp2_with (at_builtin; go_loud (refine wpList_appA rfl elB (.tmp 45) (.tmp 52) 27 27 rfl Tryz.underlying27 Tryz.underlying27 rfl HS7.out.own rfl HSL.out HRL.out HSZ.out ?_); go_loud (intro v' w8 h1 h2 h3 h4; obtain ⟨p1, p2⟩ := HS7.out.app h1 h2 h3; have HN := Lib.hid p2; have HK := Lib.hid h3; have HB8 := Lib.hid h2; obtain ⟨Av, cv2, rfl⟩ := h1.form; have f1 := p1.frozen 1; have yq := p1.cell 1; clear h1 h2 h3 h4 p1 p2))
            go_roundg cnt1
            case measure => exact HLT.out
            case rel =>
              have hR1 : (R ++ [((a, z), c)]).length = R.length + 1 := by simp
              have h1 := HN.out
              rw [hR1] at h1
              exact ⟨_, R ++ [((a, z), c)], left1, h1, Lib.hid (HF7.out.app HS7.out HK.out)⟩
end Go.Proofs.YtnmidhlghhephaaGreatDoor

namespace Go.Proofs.YtnmidhlghhephaaGreatDoor
open Go.RowKit Go.Maps
set_option linter.unusedVariables false
/-- a term with its coefficient times a number -/
def tmB (b : Int) (t : T2) : T2 := (t.1, b * t.2)
theorem take_mapB {l : List T2} {i : Nat} (h : i < l.length) (f : T2 → T2) : (l.take (i + 1)).map f = (l.take i).map f ++ [f l[i]] := by
  rw [List.take_add_one, List.getElem?_eq_getElem h, List.map_append]; rfl
theorem TmB.oth {w w' : World} {v : Value} {l : List T2} {base g : Nat} {done : List T2} (h : TmB w v l) (ho : Oth base [g] none w w') (hm : MapB g done w) : TmB w' v l := h.keepT fun b ⟨cs, fr, hh⟩ => ho.keep b (heap_ltB hh) (by
  simp only [List.mem_singleton]
  intro e
  subst e
  obtain ⟨D, ⟨es, clock, hm, _⟩, _⟩ := hm
  rw [hm] at hh
  cases hh) (by simp)
set_option maxHeartbeats 2000000 in
set_option maxRecDepth 100000 in
theorem bclo_any (Mb g base : Nat) (vl : Value) (l done0 : List T2) (by1 : Int) (w : World) (hM : Arr w Mb 71 [.map (some g)]) (hm : MapB g done0 w) (hl : TmB w vl l) (hby : by1 = 1 ∨ by1 = -1) (hkr : Kr l) (hcb : ∀ t ∈ l, -1125899906842624 ≤ t.2 ∧ t.2 ≤ 1125899906842624) (hcd : Cb done0) (hlen : done0.length + l.length ≤ 1000000) (hbg : base ≤ g) (hbs : base ≤ w.heap.size) :
    Calls Tryz.prog 69 #[vl, .int .i64 by1, .pointer (some ⟨Mb, 0, none⟩)] w fun e w' => e = .returned (.tuple #[]) ∧ MapB g (done0 ++ l.map (tmB by1)) w' ∧ Oth base [g] none w w' := by
  have HTL := Lib.hid hl
  have HKR := Lib.hid hkr
  have HCB := Lib.hid (And.intro hcb hcd)
  have HLE := Lib.hid hlen
  have HBG := Lib.hid hbg
  have hll : l.length ≤ 1000000 := by omega
  have HBY := Lib.hid hby
  have HBW := Lib.hid hbs
  have HNE := Lib.hid (show Mb ≠ g from hm.ne hM)
  have HGL := Lib.hid (And.intro hM.lt hm.lt)
  obtain ⟨A, c, rfl, _⟩ := hl
  have HST := Lib.hid (show MapB g (done0 ++ (l.take 0).map (tmB by1)) w ∧ Arr w Mb 71 [.map (some g)] ∧ TmB w (.slice A l.length c) l ∧ Oth base [g] none w w from ⟨by simpa using hm, hM, HTL.out, Oth.refl1 base g w⟩)
  clear hM hm hkr hcb hcd hlen hbg hby hbs
  go_enter Tryz.func69, Tryz.ntmps69
  go_wp2_with fail
  go_loopg [10] l.length (fun gk s10 wr => ∃ (i : Nat), i ≤ l.length ∧ gk = l.length - i ∧ s10 = .int .i64 (i : Int) ∧ Hid (MapB g (done0 ++ (l.take i).map (tmB by1)) wr ∧ Arr wr Mb 71 [.map (some g)] ∧ TmB wr (.slice A l.length c) l ∧ Oth base [g] none w wr))
  case atStart => exact ⟨0, Nat.zero_le _, rfl, rfl, HST⟩
  case round =>
    clear HST HTL
    obtain ⟨i, hi, rfl, rfl, HR⟩ := hrel
    by_cases hlt : i < l.length
    · have z1 : (i : Int) < (l.length : Int) := by omega
      obtain ⟨b, o', rfl, _, hc0, hc1, hc2⟩ := HR.out.2.2.1.at_ hlt
      have HSC := Lib.hid (HCB.out.1 _ (List.getElem_mem hlt))
      have HRK := Lib.hid (show rkB (l[i].1.1, l[i].1.2) from HKR.out _ (List.getElem_mem hlt))
      have HTK := Lib.hid (take_mapB hlt (tmB by1))
      have HEQ := Lib.hid (show tmB by1 l[i] = ((l[i].1.1, l[i].1.2), by1 * l[i].2) from rfl)
      have HCD := Lib.hid (show Cb (done0 ++ (l.take i).map (tmB by1)) from HCB.out.2.append fun t ht => by
        obtain ⟨s, hs, rfl⟩ := List.mem_map.1 ht
        have := HCB.out.1 s (List.mem_of_mem_take hs)
        unfold tmB
        simp only
        rcases HBY.out with h | h <;> rw [h] <;> omega)
      have HLD := Lib.hid (show (done0 ++ (l.take i).map (tmB by1)).length ≤ 1000000 by have := HLE.out; simp; omega)
      generalize hea : l[i].1.1 = ea at *
      generalize hez : l[i].1.2 = ez at *
      generalize hcc : l[i].2 = cc at *
      obtain ⟨bc, hbc⟩ : ∃ bc, bc = by1 * cc := ⟨_, rfl⟩
      have HB2 := Lib.hid (show -1125899906842624 ≤ bc ∧ bc ≤ 1125899906842624 from by
        have := HSC.out
        rcases HBY.out with h | h <;> rw [hbc, h] <;> omega)
      rw [← hbc] at HEQ
      have HBC := Lib.hid (show IntKind.i64.wrap (by1 * cc) = bc from by rw [← hbc]; exact IntWalk.i64_in _ (by have := HB2.out; omega))
      obtain ⟨done, hdone⟩ : ∃ d, d = done0 ++ (l.take i).map (tmB by1) := ⟨_, rfl⟩
      have HNX := Lib.hid (show ∀ W, MapB g (done ++ [((ea, ez), bc)]) W → MapB g (done0 ++ (l.take (i + 1)).map (tmB by1)) W from fun W h => by rw [HTK.out, HEQ.out, ← List.append_assoc, ← hdone]; exact h)
      rw [← hdone] at HCD HLD HR
      have HHB := Lib.hid (show (-1000000000000000000 ≤ hiS done (ea, ez) ∧ hiS done (ea, ez) ≤ 1000000000000000000) ∧ (-1000000000000000000 ≤ loS done (ea, ez) ∧ loS done (ea, ez) ≤ 1000000000000000000) ∧ (-9223372036854775808 ≤ bc ∧ bc ≤ 9223372036854775807) from by
        have h1 := hiS_bd HCD.out (ea, ez)
        have h2 := loS_bd done (ea, ez)
        have h3 := HLD.out
        have h4 := HB2.out
        refine ⟨⟨by omega, by omega⟩, ⟨by omega, by omega⟩, by omega, by omega⟩)
      have HLN := Lib.hid (show done.length ≤ 1000000000000000 by have := HLD.out; omega)
      have HGB := Lib.hid HR.out.2.2.2.below.size
      clear hdone HEQ HTK hbc hea hez hcc HB2 HCD HLD
      obtain ⟨wo, rfl⟩ : ∃ wo, wo = wr := ⟨_, rfl⟩
      have hWo : ∀ W, W = (wo.alloc (.cells #[.int .i64 ea, .int .i64 ez, .int .i64 cc] 49)).alloc (.cells #[.int .i64 ea, .int .i64 ez] 72) → Arr W wo.heap.size 49 [.int .i64 ea, .int .i64 ez, .int .i64 cc] ∧ Arr W (wo.heap.size + 1) 72 [.int .i64 ea, .int .i64 ez] ∧ Below wo.heap.size wo W := by
        intro W hW
        subst hW
        exact ⟨(Arr.new _ _ [_, _, _]).alloc _, Arr.newAt (wo.alloc _) _ [_, _] _ (by simp), ((Below.refl _ _).alloc (Nat.le_refl _) _).alloc (by simp) _⟩
      go_upto_region 4 with fail
      generalize ((wo.alloc (.cells #[.int .i64 ea, .int .i64 ez, .int .i64 cc] 49)).alloc (.cells #[.int .i64 ea, .int .i64 ez] 72)) = w7 at hWo ⊢
      obtain ⟨qt, qp, hb7⟩ := hWo w7 rfl
      have QT := Lib.hid qt
      have QP := Lib.hid qp
      have HM := Lib.hid (HR.out.1.below hb7)
      have QM := Lib.hid (HR.out.2.1.below hb7 HR.out.2.1.lt)
      have HTM := Lib.hid (HR.out.2.2.1.below hb7)
      have HO7 := Lib.hid (HR.out.2.2.2.grow hb7 (by have := HGB.out; have := HBW.out; omega))
      have HBS := Lib.hid (show base ≤ w7.heap.size by have := hb7.size; have := HGB.out; have := HBW.out; omega)
      obtain ⟨Bt, hBt⟩ : ∃ B, B = wo.heap.size := ⟨_, rfl⟩
      obtain ⟨Bp, hBp⟩ : ∃ B, B = wo.heap.size + 1 := ⟨_, rfl⟩
      rw [← hBt] at QT ⊢
      rw [← hBt] at hBp
      rw [show wo.heap.size + 1 = Bp by omega] at QP
      try rw [← hBp]
      clear hc0 hc1 hc2 qt qp hb7 HR hWo hBt hBp
      refine wp_region_phis 10 (by kernel_rfl) (by kernel_rfl) (by kernel_rfl) (by kernel_rfl) (by kernel_rfl) rfl (by kernel_rfl) (phiT (fun i => ([some (.map (some g)), some (.agg #[.int .i64 ea, .int .i64 ez]), some (.map (some g)), some (.agg #[.int .i64 ea, .int .i64 ez]), some (.agg #[.int .i64 (hiS done (ea, ez)), .int .i64 (loS done (ea, ez))]), some (.int .i64 by1), some (.pointer (some ⟨Bt, 2, none⟩)), some (.int .i64 cc), some (.int .i64 bc), some (.agg #[.int .i64 (hiS done (ea, ez) + bc / 33554432), .int .i64 (loS done (ea, ez) + bc % 33554432)]), some (undef)] : List (Option Value)).getD i none) (fun i v w => True)) (fun i v w w' h hb => ?_) (fun i => false) (fun i v w hi h k hk => ?_) (fun _ W => MapB g (done ++ [((ea, ez), bc)]) W ∧ Oth base [g] none w7 W) ⟨?_, ?_, ?_, ?_, ?_, ?_, ?_, ?_, ?_, ?_, ?_, trivial⟩ ?_
      · unfold phiT at h ⊢
        split
        · next u hu => rw [hu] at h; exact h
        · next hu =>
          rw [hu] at h
          exact True.intro
      · simp only [Bool.or_eq_true, decide_eq_true_eq, Bool.false_eq_true] at hi
      · intro x w1 bA hbel hdep hdap hold hb
        refine ⟨fun _ => ?_, fun h => absurd h (by decide)⟩
        have e2 : bA.tmps[2]?.getD undef = .pointer (some ⟨Mb, 0, none⟩) := hb 2
        have cm := (QM.out.below hbel QM.out.lt).cell 0
        refine phf_run (.map (some g)) rfl ?_ rfl
        clear hb hdep hdap hold
        go_simp
      · intro x w1 bA hbel hdep hdap hold hb
        refine ⟨fun _ => ?_, fun h => absurd h (by decide)⟩
        have e7 : bA.tmps[7]?.getD undef = .pointer (some ⟨Bp, 0, none⟩) := hb 7
        have cp0 := (QP.out.below hbel QP.out.lt).cell 0
        have cp1 := (QP.out.below hbel QP.out.lt).cell 1
        refine phf_run (.agg #[.int .i64 ea, .int .i64 ez]) rfl ?_ rfl
        clear hb hdep hdap hold
        go_simp
      · intro x w1 bA hbel hdep hdap hold hb
        refine ⟨fun _ => ?_, fun h => absurd h (by decide)⟩
        have e2 : bA.tmps[2]?.getD undef = .pointer (some ⟨Mb, 0, none⟩) := hb 2
        have cm := (QM.out.below hbel QM.out.lt).cell 0
        refine phf_run (.map (some g)) rfl ?_ rfl
        clear hb hdep hdap hold
        go_simp
      · intro x w1 bA hbel hdep hdap hold hb
        refine ⟨fun _ => ?_, fun h => absurd h (by decide)⟩
        have e7 : bA.tmps[7]?.getD undef = .pointer (some ⟨Bp, 0, none⟩) := hb 7
        have cp0 := (QP.out.below hbel QP.out.lt).cell 0
        have cp1 := (QP.out.below hbel QP.out.lt).cell 1
        refine phf_run (.agg #[.int .i64 ea, .int .i64 ez]) rfl ?_ rfl
        clear hb hdep hdap hold
        go_simp
      · intro x w1 bA hbel hdep hdap hold hb
        refine ⟨fun _ => ?_, fun h => absurd h (by decide)⟩
        have e21 : bA.tmps[21]?.getD undef = .map (some g) := (hb 21).trans (hdep 2 (by decide))
        have e22 : bA.tmps[22]?.getD undef = .agg #[.int .i64 ea, .int .i64 ez] := (hb 22).trans (hdep 3 (by decide))
        have cl := (HM.out.below hbel).look HRK.out
        refine phf_run (.agg #[.int .i64 (hiS done (ea, ez)), .int .i64 (loS done (ea, ez))]) rfl ?_ rfl
        clear hb hdep hdap hold
        go_simp
      · intro x w1 bA hbel hdep hdap hold hb
        refine ⟨fun _ => ?_, fun h => absurd h (by decide)⟩
        have e1 : bA.tmps[1]?.getD undef = .int .i64 by1 := hb 1
        refine phf_run (.int .i64 by1) rfl ?_ rfl
        clear hb hdep hdap hold
        go_simp
      · intro x w1 bA hbel hdep hdap hold hb
        refine ⟨fun _ => ?_, fun h => absurd h (by decide)⟩
        have e6 : bA.tmps[6]?.getD undef = .pointer (some ⟨Bt, 0, none⟩) := hb 6
        refine phf_run (.pointer (some ⟨Bt, 2, none⟩)) rfl ?_ rfl
        clear hb hdep hdap hold
        go_simp
      · intro x w1 bA hbel hdep hdap hold hb
        refine ⟨fun _ => ?_, fun h => absurd h (by decide)⟩
        have e25 : bA.tmps[25]?.getD undef = .pointer (some ⟨Bt, 2, none⟩) := (hb 25).trans (hdep 6 (by decide))
        have ct := (QT.out.below hbel QT.out.lt).cell 2
        refine phf_run (.int .i64 cc) rfl ?_ rfl
        clear hb hdep hdap hold
        go_simp
      · intro x w1 bA hbel hdep hdap hold hb
        refine ⟨fun _ => ?_, fun h => absurd h (by decide)⟩
        have e24 : bA.tmps[24]?.getD undef = .int .i64 by1 := (hb 24).trans (hdep 5 (by decide))
        have e26 : bA.tmps[26]?.getD undef = .int .i64 cc := (hb 26).trans (hdep 7 (by decide))
        have cw := HBC.out
        refine phf_run (.int .i64 bc) rfl ?_ rfl
        clear hb hdep hdap hold
        go_simp
      · intro x w1 bA hbel hdep hdap hold hb
        refine ⟨fun _ => ?_, fun h => absurd h (by decide)⟩
        have e23 : bA.tmps[23]?.getD undef = .agg #[.int .i64 (hiS done (ea, ez)), .int .i64 (loS done (ea, ez))] := (hb 23).trans (hdep 4 (by decide))
        have e27 : bA.tmps[27]?.getD undef = .int .i64 bc := (hb 27).trans (hdep 8 (by decide))
        refine phf_call ?_ ((splus_any _ _ bc w1 HHB.out.1 HHB.out.2.1 HHB.out.2.2).mono fun e w' h => ⟨_, h.1, h.2, rfl, fun e => Bool.noConfusion e⟩)
        clear hb hdep hdap hold
        go_simp
      · intro x w1 bA hbel hdep hdap hold hb
        refine ⟨fun h => absurd h (by decide), fun _ hall => ?_⟩
        have e19 : bA.tmps[19]?.getD undef = .map (some g) := (hb 19).trans (hdep 0 (by decide))
        have e20 : bA.tmps[20]?.getD undef = .agg #[.int .i64 ea, .int .i64 ez] := (hb 20).trans (hdep 1 (by decide))
        have e28 : bA.tmps[28]?.getD undef = .agg #[.int .i64 (hiS done (ea, ez) + bc / 33554432), .int .i64 (loS done (ea, ez) + bc % 33554432)] := (hb 28).trans (hdep 9 (by decide))
        clear hb hdep hdap hold
        have hs1 := HM.out.below hbel
        obtain ⟨W2, hrun, hm2, ho2⟩ := hs1.store (c := bc) HRK.out HLN.out
        have HM2 := Lib.hid hm2
        have HO2 := Lib.hid (((Oth.refl1 base g w7).grow hbel HBS.out).trans1 (ho2 base HBG.out (Nat.le_trans HBS.out hbel.size)))
        clear hs1 hbel hm2 ho2
        refine phl_store (R := fun W => MapB g (done ++ [((ea, ez), bc)]) W ∧ Oth base [g] none w7 W) W2 ?_ rfl ⟨HM2.out, HO2.out⟩
        go_simp
      intro x w1 hR
      simp only [putAll, dstOf, Act.put, List.map_cons, List.map_nil, List.setIfInBounds_toArray, List.set_cons_succ, List.set_cons_zero, Nat.reduceAdd]
      have HF := Lib.hid (show MapB g (done0 ++ (l.take (i + 1)).map (tmB by1)) w1 ∧ Arr w1 Mb 71 [.map (some g)] ∧ TmB w1 (.slice (some ⟨b, o', none⟩) l.length c) l ∧ Oth base [g] none w w1 from
        ⟨HNX.out _ hR.1, hR.2.at_ QM.out HNE.out, HTM.out.oth hR.2 HM.out, HO7.out.trans1 hR.2⟩)
      clear hR
      go_wp2_with fail
      go_roundg (l.length - (i + 1))
      case measure => omega
      case rel => exact ⟨i + 1, by omega, rfl, by go_num, HF⟩
    · have z1 : ¬ (i : Int) < (l.length : Int) := by omega
      have HF := Lib.hid (show MapB g (done0 ++ l.map (tmB by1)) wr ∧ Oth base [g] none w wr from by
        have := HR.out
        rw [List.take_of_length_le (by omega)] at this
        exact ⟨this.1, this.2.2.2⟩)
      clear HR
      go_wp2_with fail
      go_end0
      exact ⟨rfl, HF.out⟩
end Go.Proofs.YtnmidhlghhephaaGreatDoor

namespace Go.Proofs.YtnmidhlghhephaaGreatDoor
open Go.RowKit Go.Maps
set_option linter.unusedVariables false
theorem kr_of_lim {l : List T2} (h : Lim2 l) : Kr l := fun t ht => by
  have := h.ea t ht
  have := h.ez t ht
  exact ⟨by omega, by omega⟩
theorem cb_tm {l : List T2} (h : Lim2 l) {b : Int} (hb : b = 1 ∨ b = -1) : Cb (l.map (tmB b)) := fun t ht => by
  obtain ⟨s, hs, rfl⟩ := List.mem_map.1 ht
  have := h.co s hs
  unfold tmB
  simp only
  rcases hb with h | h <;> rw [h] <;> omega
theorem kr_tm {l : List T2} (h : Kr l) (b : Int) : Kr (l.map (tmB b)) := fun t ht => by
  obtain ⟨s, hs, rfl⟩ := List.mem_map.1 ht
  exact h s hs
theorem cg2_tm (l : List T2) (b : Int) (e : K2) : cg2 (l.map (tmB b)) e = b * cg2 l e := by
  induction l with
  | nil => simp [cg2]
  | cons t l ih =>
    rw [List.map_cons, cg2_cons, cg2_cons, ih, Int.mul_add]
    unfold tmB
    simp only
    split <;> simp
/-- what plus returns -/
def PlusR (b : Int) (p q : PolB) (w : World) (e : Ending) (w' : World) : Prop := ∃ v r, e = .returned v ∧ PolyB w' v r ∧ CombB (fun x y => x + b * y) p q r ∧ Below w.heap.size w w'
def lenB (p : PolB) : Nat := (p.getD []).length
theorem PolyB.tm_some {w : World} {b : Bool} {A : Option Addr} {n c : Nat} {l : List T2} (h : PolyB w (.agg #[.bool b, .slice A n c]) (some l)) : TmB w (.slice A n c) l := h.tm
theorem PolyB.box {w : World} {v : Value} {p : PolB} (h : PolyB w v p) {k : Nat} {cs : List Value} (hk : Arr w k 29 cs) (u1 u2 : Value) : PolyB ((w.setCell ⟨k, 0, none⟩ u1).setCell ⟨k, 1, none⟩ u2) v p := (h.kp (Kp.set hk u1) (by decide)).kp (Kp.set (hk.set 0 u1) u2) (by decide)
theorem run_makeMapB (n : Int) (w : World) : (Instr.makeMap 71 (some (.int .i64 n))).run Tryz.prog w = .ok (.map (some w.heap.size)) (w.alloc (.map #[] 0)) := by
  simp [Instr.makeMap, run_underlying Tryz.underlying71, asInt, asIntOf, Result.andThen]
theorem clo_plus (args : Array Value) (W : World) : (callFunc 69 args).run Tryz.prog W = .ok (.enter 69 args) W := enters_of Tryz.func69 (by kernel_rfl) rfl args W
theorem res_big {r : Nat} {w w3 : World} (ha : Arr w3 r 29 [.bool false, .slice none 0 0]) (hb3 : Below w.heap.size w w3) (hr : w.heap.size ≤ r) : Arr ((w3.setCell ⟨r, 0, none⟩ (.bool true)).setCell ⟨r, 1, none⟩ (.slice none 0 0)) r 29 [.bool true, .slice none 0 0] ∧ Below w.heap.size w ((w3.setCell ⟨r, 0, none⟩ (.bool true)).setCell ⟨r, 1, none⟩ (.slice none 0 0)) :=
  ⟨(ha.set 0 (.bool true)).set 1 (.slice none 0 0), (hb3.setCell (p := ⟨r, 0, none⟩) hr _).setCell (p := ⟨r, 1, none⟩) hr _⟩
set_option maxHeartbeats 4000000 in
set_option maxRecDepth 100000 in
theorem bplus_any (vp vq : Value) (p q : PolB) (b : Int) (w : World) (hp : PolyB w vp p) (hq : PolyB w vq q) (okp : okB2 p) (okq : okB2 q) (hb : b = 1 ∨ b = -1) (hlen : lenB p + lenB q ≤ 1000000) :
    Calls Tryz.prog 45 #[vp, vq, .int .i64 b] w (PlusR b p q w) := by
  have HP := Lib.hid (fun W (hb : Below w.heap.size w W) => hp.below hb)
  have HQ := Lib.hid (fun W (hb : Below w.heap.size w W) => hq.below hb)
  obtain ⟨b1, A, n, c, rfl, j1, j2⟩ := hp.parts
  obtain ⟨b2, A2, n2, c2, rfl, j3, j4⟩ := hq.parts
  clear hp hq
  have hW : ∀ W, W = (((w.alloc (.cells #[.bool b1, .slice A n c] 29)).alloc (.cells #[.bool b2, .slice A2 n2 c2] 29)).alloc (.cells #[.bool false, .slice none 0 0] 29)) → Arr W w.heap.size 29 [.bool b1, .slice A n c] ∧ Arr W (w.heap.size + 1) 29 [.bool b2, .slice A2 n2 c2] ∧ Arr W (w.heap.size + 2) 29 [.bool false, .slice none 0 0] ∧ Below w.heap.size w W ∧ W.heap.size = w.heap.size + 3 := by
    intro W hW
    subst hW
    exact ⟨((Arr.new _ _ [_, _]).alloc _).alloc _, (Arr.newAt (w.alloc _) _ [_, _] _ (by simp)).alloc _, Arr.newAt ((w.alloc _).alloc _) _ [_, _] _ (by simp), (((Below.refl _ _).alloc (Nat.le_refl _) _).alloc (by simp) _).alloc (by simp <;> omega) _, by simp⟩
  by_cases hbg : b1 = true ∨ b2 = true
  · have HC := Lib.hid (show CombB (fun x y => x + b * y) p q none from by
      rcases hbg with h | h
      · cases p with
        | none => cases q <;> rfl
        | some lp => rw [j1] at h; cases h
      · cases q with
        | none => cases p <;> rfl
        | some lp => rw [j3] at h; cases h)
    clear HP HQ okp okq hlen hb j1 j2 j3 j4
    have main : ∀ (x1 x2 : Bool), x1 = b1 → x2 = b2 → (x1 = true ∨ (x1 = false ∧ x2 = true)) → Calls Tryz.prog 45 #[.agg #[.bool x1, .slice A n c], .agg #[.bool x2, .slice A2 n2 c2], .int .i64 b] w (PlusR b p q w) := by
      intro x1 x2 e1 e2 hx
      subst e1 e2
      go_enter Tryz.func45, Tryz.ntmps45
      go_upto_region 1 with fail
      generalize (((w.alloc (.cells #[.bool x1, .slice A n c] 29)).alloc (.cells #[.bool x2, .slice A2 n2 c2] 29)).alloc (.cells #[.bool false, .slice none 0 0] 29)) = w3 at hW ⊢
      obtain ⟨q0, q1, qr, hb3, _⟩ := hW w3 rfl
      have HR := Lib.hid (res_big qr hb3 (Nat.le_add_right _ _))
      have y0 := q0.cell 0
      have y1 := q1.cell 0
      have r0 := qr.cell 0
      have r1 := qr.cell 1
      have f0 := qr.frozen 0
      have f1 := qr.frozen 1
      clear hW q0 q1 qr hb3 hbg
      rcases hx with rfl | ⟨rfl, rfl⟩
      · go_wp2_with fail
        refine bodyPost_ret (v := .agg #[.bool true, .slice none 0 0]) (results_c Tryz.results45 _ _ (w.heap.size + 2) 29 _ _ rfl HR.out.1 Tryz.underlying29 rfl info_polyB) rfl ?_
        exact ⟨_, none, rfl, PolyB.big _, HC.out, HR.out.2⟩
      · go_wp2_with fail
        refine bodyPost_ret (v := .agg #[.bool true, .slice none 0 0]) (results_c Tryz.results45 _ _ (w.heap.size + 2) 29 _ _ rfl HR.out.1 Tryz.underlying29 rfl info_polyB) rfl ?_
        exact ⟨_, none, rfl, PolyB.big _, HC.out, HR.out.2⟩
    exact main b1 b2 rfl rfl (by
      rcases hbg with h | h
      · exact .inl h
      · cases b1
        · exact .inr ⟨rfl, h⟩
        · exact .inl rfl)
  · have h1 : b1 = false := by cases b1 with
      | false => rfl
      | true => exact absurd (.inl rfl) hbg
    have h2 : b2 = false := by cases b2 with
      | false => rfl
      | true => exact absurd (.inr rfl) hbg
    subst h1 h2
    cases p with
    | none => cases j1
    | some lp =>
    cases q with
    | none => cases j3
    | some lq =>
    have hnn : n + n2 ≤ 1000000 := by
      have e1 : lenB (some lp) = n := j2.symm
      have e2 : lenB (some lq) = n2 := j4.symm
      omega
    have HLN := Lib.hid (show lp.length = n ∧ lq.length = n2 from ⟨j2.symm, j4.symm⟩)
    have HOK := Lib.hid (And.intro okp okq)
    have HB := Lib.hid hb
    have hmm := run_makeMapB
    have eg := clo_plus
    clear okp okq hbg j1 j2 j3 j4 hlen hb
    go_enter Tryz.func45, Tryz.ntmps45
    go_upto_region 1 with fail
    generalize (((w.alloc (.cells #[.bool false, .slice A n c] 29)).alloc (.cells #[.bool false, .slice A2 n2 c2] 29)).alloc (.cells #[.bool false, .slice none 0 0] 29)) = w3 at hW ⊢
    obtain ⟨q0, q1, qr, hb3, hs3⟩ := hW w3 rfl
    clear hW
    have y0 := q0.cell 0
    have y1 := q1.cell 0
    have y2 := q0.cell 1
    have y3 := q1.cell 1
    have hW4 : ∀ W, W = (w3.alloc (.map #[] 0)).alloc (.cells #[.map (some (w.heap.size + 3))] 71) → MapB (w.heap.size + 3) [] W ∧ Arr W (w.heap.size + 3 + 1) 71 [.map (some (w.heap.size + 3))] ∧ Below (w.heap.size + 3) w3 W ∧ W.heap.size = w.heap.size + 3 + 2 := by
      intro W hW
      subst hW
      rw [← hs3]
      exact ⟨(MapB.start w3).below ((Below.refl _ _).alloc (Nat.le_refl _) _), Arr.newAt (w3.alloc _) _ [_] _ (by simp), ((Below.refl _ _).alloc (Nat.le_refl _) _).alloc (by simp) _, by simp⟩
    go_upto_region 5 with fail
    generalize (w3.alloc (.map #[] 0)).alloc (.cells #[.map (some (w.heap.size + 3))] 71) = w4 at hW4 ⊢
    obtain ⟨hm4, qm4, hb4, hs4⟩ := hW4 w4 rfl
    rw [← hs3] at hb4
    obtain ⟨G, hG⟩ : ∃ G, G = w.heap.size + 3 := ⟨_, rfl⟩
    rw [← hG] at hm4 qm4 hs4 ⊢
    have hbA4 := hb3.trans (hb4.mono hb3.size)
    have q04 := q0.below hb4 q0.lt
    have q14 := q1.below hb4 q1.lt
    have qr4 := qr.below hb4 qr.lt
    have HGG := Lib.hid hG.symm
    have hz4 : w.heap.size ≤ w4.heap.size := hbA4.size
    have HC1 := Lib.hid (bclo_any (G + 1) G w.heap.size (.slice A n c) lp [] 1 w4 qm4 hm4 (HP.out w4 hbA4).tm_some (.inl rfl) (kr_of_lim HOK.out.1.2) HOK.out.1.2.co Cb.nil (by have := HLN.out; simp; omega) (by omega) hz4)
    have z0 := q04.cell 1
    clear y0 y1 y2 y3 q0 q1 qr hb3 hs3 hW4 hb4 hm4 hG hs4 hmm
    go_wp2_with fail
    refine HC1.out.mono ?_
    rintro e w5 ⟨rfl, hm5, ho5⟩
    have hG2 := HGG.out
    have q15 := ho5.at_ q14 (by omega)
    have qr5 := ho5.at_ qr4 (by omega)
    have qm5 := ho5.at_ qm4 (by omega)
    have hbA5 := hbA4.trans ho5.below
    have hz5 : w.heap.size ≤ w5.heap.size := hbA5.size
    rw [List.nil_append] at hm5
    have HC2 := Lib.hid (bclo_any (G + 1) G w.heap.size (.slice A2 n2 c2) lq (lp.map (tmB 1)) b w5 qm5 hm5 (HQ.out w5 hbA5).tm_some HB.out (kr_of_lim HOK.out.2.2) HOK.out.2.2.co (cb_tm HOK.out.1.2 (.inl rfl)) (by have := HLN.out; simp; omega) (by omega) hz5)
    have z1 := q15.cell 1
    clear z0 q04 q14 qr4 qm4 HC1 ho5 hm5 hbA4 hz4 hG2
    go_wp2_with fail
    refine HC2.out.mono ?_
    rintro e w6 ⟨rfl, hm6, ho6⟩
    have hG2 := HGG.out
    have qr6 := ho6.at_ qr5 (by omega)
    have qm6 := ho6.at_ qm5 (by omega)
    have hbA6 := hbA5.trans ho6.below
    have HGA := Lib.hid (gather_any G (lp.map (tmB 1) ++ lq.map (tmB b)) w6 hm6 ((cb_tm HOK.out.1.2 (.inl rfl)).append (cb_tm HOK.out.2.2 HB.out)) (fun t ht => by
      rcases List.mem_append.1 ht with h | h
      · exact kr_tm (kr_of_lim HOK.out.1.2) 1 t h
      · exact kr_tm (kr_of_lim HOK.out.2.2) b t h) (by have := HLN.out; simp; omega))
    have z2 := qm6.cell 0
    clear z1 q15 qr5 qm5 HC2 ho6 hm6 hbA5 hz5 hG2
    go_wp2_with fail
    refine HGA.out.mono ?_
    rintro e w7 ⟨v, r, rfl, hv, hr, hb7⟩
    have q7 := qr6.below hb7 qr6.lt
    have hb7' := hbA6.trans (hb7.mono hbA6.size)
    have HV := Lib.hid (fun u1 u2 => hv.box q7 u1 u2)
    have HR := Lib.hid (show CombB (fun x y => x + b * y) (some lp) (some lq) r from by
      have e : (fun x => cg2 (lp.map (tmB 1) ++ lq.map (tmB b)) x) = fun x => cg2 lp x + b * cg2 lq x := by
        funext x
        rw [cg2_append, cg2_tm, cg2_tm, Int.one_mul]
      show GthP (fun x => cg2 lp x + b * cg2 lq x) r
      rw [← e]
      exact hr)
    obtain ⟨b5, A5, n5, c5, rfl, j5, j6⟩ := hv.parts
    clear j5 j6 hv hr z2 qr6 qm6 HGA hbA6 hb7
    have x0 := q7.cell 0
    have x1 := q7.cell 1
    have f0 := q7.frozen 0
    have f1 := q7.frozen 1
    have hres := Lib.hid ((q7.set 0 (.bool b5)).set 1 (.slice A5 n5 c5))
    go_wp2_with fail
    refine bodyPost_ret (v := .agg #[.bool b5, .slice A5 n5 c5]) (results_c Tryz.results45 _ _ (w.heap.size + 2) 29 _ _ rfl hres.out Tryz.underlying29 rfl info_polyB) rfl ?_
    exact ⟨_, r, rfl, HV.out _ _, HR.out, (hb7'.setCell (p := ⟨w.heap.size + 2, 0, none⟩) (by simp) _).setCell (p := ⟨w.heap.size + 2, 1, none⟩) (by simp) _⟩
set_option maxHeartbeats 1000000 in
set_option maxRecDepth 100000 in
theorem bAdd_any (vp vq : Value) (p q : PolB) (w : World) (hp : PolyB w vp p) (hq : PolyB w vq q) (okp : okB2 p) (okq : okB2 q) (hlen : lenB p + lenB q ≤ 1000000) :
    Calls Tryz.prog 16 #[vp, vq] w (PlusR (1) p q w) := by
  have HC := Lib.hid (fun W (hb : Below w.heap.size w W) => bplus_any vp vq p q (1) W (hp.below hb) (hq.below hb) okp okq (by decide) hlen)
  obtain ⟨b1, A, n, c, rfl, j1, j2⟩ := hp.parts
  obtain ⟨b2, A2, n2, c2, rfl, j3, j4⟩ := hq.parts
  clear hp okp j1 j2 hq okq j3 j4
  have hW : ∀ W, W = (((w.alloc (.cells #[.bool b1, .slice A n c] 29)).alloc (.cells #[.bool b2, .slice A2 n2 c2] 29)).alloc (.cells #[.bool false, .slice none 0 0] 29)) → Arr W w.heap.size 29 [.bool b1, .slice A n c] ∧ Arr W (w.heap.size + 1) 29 [.bool b2, .slice A2 n2 c2] ∧ Arr W (w.heap.size + 2) 29 [.bool false, .slice none 0 0] ∧ Below w.heap.size w W := by
    intro W hW
    subst hW
    exact ⟨((Arr.new _ _ [_, _]).alloc _).alloc _, (Arr.newAt (w.alloc _) _ [_, _] _ (by simp)).alloc _, Arr.newAt ((w.alloc _).alloc _) _ [_, _] _ (by simp), (((Below.refl _ _).alloc (Nat.le_refl _) _).alloc (by simp) _).alloc (by simp <;> omega) _⟩
  go_enter Tryz.func16, Tryz.ntmps16
  go_upto_region 1 with fail
  generalize (((w.alloc (.cells #[.bool b1, .slice A n c] 29)).alloc (.cells #[.bool b2, .slice A2 n2 c2] 29)).alloc (.cells #[.bool false, .slice none 0 0] 29)) = w3 at hW ⊢
  obtain ⟨qp, qq, qr, hb3⟩ := hW w3 rfl
  clear hW
  have y0 := qp.cell 0
  have y1 := qp.cell 1
  have y2 := qq.cell 0
  have y3 := qq.cell 1
  have HC3 := Lib.hid (HC.out w3 hb3)
  clear HC
  go_wp2_with fail
  ((with_reducible refine HC3.out.mono ?_); skip)
  rintro e w4 ⟨v, r, rfl, hv, hr, hb4⟩
  have q4 := qr.below hb4 qr.lt
  have hb4' := hb3.trans (hb4.mono hb3.size)
  have HV := Lib.hid (fun u1 u2 => hv.box q4 u1 u2)
  have HR := Lib.hid hr
  obtain ⟨b5, A5, n5, c5, rfl, j5, j6⟩ := hv.parts
  clear j5 j6 hv hr y0 y1 qp qr HC3 y2 y3 qq
  have x0 := q4.cell 0
  have x1 := q4.cell 1
  have f0 := q4.frozen 0
  have f1 := q4.frozen 1
  have hres := Lib.hid ((q4.set 0 (.bool b5)).set 1 (.slice A5 n5 c5))
  go_wp2_with fail
  refine bodyPost_ret (v := .agg #[.bool b5, .slice A5 n5 c5]) (results_c Tryz.results16 _ _ (w.heap.size + 2) 29 _ _ rfl hres.out Tryz.underlying29 rfl info_polyB) rfl ?_
  exact ⟨_, r, rfl, HV.out _ _, HR.out, (hb4'.setCell (p := ⟨w.heap.size + 2, 0, none⟩) (by simp) _).setCell (p := ⟨w.heap.size + 2, 1, none⟩) (by simp) _⟩
/-- what Term returns -/
def trmB (c a z : Int) : PolB := if c = 0 then some [] else if wiB c 1125899906842624 = true ∧ wiB a 1048576 = true ∧ wiB z 1048576 = true then some [((a, z), c)] else none
def TrmR (c a z : Int) (w : World) (e : Ending) (w' : World) : Prop := ∃ v, e = .returned v ∧ PolyB w' v (trmB c a z) ∧ Below w.heap.size w w'
theorem tmB_one {w : World} {g : Nat} {a z c : Int} (h : Arr w g 49 [.int .i64 a, .int .i64 z, .int .i64 c]) : TmB w (.slice (some ⟨g, 0, none⟩) 1 1) [((a, z), c)] := by
  refine ⟨_, 1, rfl, fun k hk => ?_⟩
  have : k = 0 := by simp at hk; omega
  subst this
  exact ⟨g, 0, rfl, h.cell 0, h.cell 1, h.cell 2, _, _, h⟩
set_option maxHeartbeats 2000000 in
set_option maxRecDepth 100000 in
theorem bTerm_any (c a z : Int) (w : World) (hc : -9223372036854775808 ≤ c ∧ c ≤ 9223372036854775807) (ha : -9223372036854775808 ≤ a ∧ a ≤ 9223372036854775807) (hz : -9223372036854775808 ≤ z ∧ z ≤ 9223372036854775807) :
    Calls Tryz.prog 17 #[.int .i64 c, .int .i64 a, .int .i64 z] w (TrmR c a z w) := by
  have H1 := Lib.hid (fun W => bwithin_any c 1125899906842624 W (by omega) (by omega))
  have H2 := Lib.hid (fun W => bwithin_any a 1048576 W (by omega) (by omega))
  have H3 := Lib.hid (fun W => bwithin_any z 1048576 W (by omega) (by omega))
  have HT := Lib.hid (show ∀ P, P = trmB c a z → P = if c = 0 then some [] else if wiB c 1125899906842624 = true ∧ wiB a 1048576 = true ∧ wiB z 1048576 = true then some [((a, z), c)] else none from fun P h => h)
  unfold TrmR
  obtain ⟨P, hP⟩ : ∃ P, P = trmB c a z := ⟨_, rfl⟩
  rw [← hP]
  have HP := Lib.hid (HT.out P hP)
  clear hP HT
  have hW : ∀ W, W = w.alloc (.cells #[.bool false, .slice none 0 0] 29) → Arr W w.heap.size 29 [.bool false, .slice none 0 0] ∧ Below w.heap.size w W := by
    intro W hW
    subst hW
    exact ⟨Arr.new _ _ [_, _], (Below.refl _ _).alloc (Nat.le_refl _) _⟩
  generalize wiB c 1125899906842624 = B1 at *
  generalize wiB a 1048576 = B2 at *
  generalize wiB z 1048576 = B3 at *
  by_cases h0 : c = 0
  · subst h0
    have HE := Lib.hid (show P = some [] by rw [HP.out, if_pos rfl])
    go_enter Tryz.func17, Tryz.ntmps17
    go_upto_region 1 with fail
    generalize w.alloc (.cells #[.bool false, .slice none 0 0] 29) = w3 at hW ⊢
    obtain ⟨qr, hb3⟩ := hW w3 rfl
    have HR := Lib.hid (qr)
    have HB := Lib.hid hb3
    have r0 := qr.cell 0
    have r1 := qr.cell 1
    have f0 := qr.frozen 0
    have f1 := qr.frozen 1
    have HS := Lib.hid ((qr.set 0 (.bool false)).set 1 (.slice none 0 0))
    clear hW qr hb3
    go_wp2_with fail
    refine bodyPost_ret (v := .agg #[.bool false, .slice none 0 0]) (results_c Tryz.results17 _ _ w.heap.size 29 _ _ rfl HS.out Tryz.underlying29 rfl info_polyB) rfl ?_
    exact ⟨_, rfl, by rw [HE.out]; exact PolyB.zero _, (HB.out.setCell (p := ⟨w.heap.size, 0, none⟩) (Nat.le_refl _) _).setCell (p := ⟨w.heap.size, 1, none⟩) (Nat.le_refl _) _⟩
  · have n0 : (c == 0) = false := beq_eq_false_iff_ne.2 h0
    have HE := Lib.hid (HP.out.trans (if_neg h0))
    clear HP h0
    go_enter Tryz.func17, Tryz.ntmps17
    go_upto_region 1 with fail
    generalize w.alloc (.cells #[.bool false, .slice none 0 0] 29) = w3 at hW ⊢
    obtain ⟨qr, hb3⟩ := hW w3 rfl
    have HR := Lib.hid (qr)
    have HB := Lib.hid hb3
    have r0 := qr.cell 0
    have r1 := qr.cell 1
    have f0 := qr.frozen 0
    have f1 := qr.frozen 1
    have HS := Lib.hid (res_big qr hb3 (Nat.le_refl _))
    have bad : (B1 = false ∨ B2 = false ∨ B3 = false) → P = none := fun h => by
      rw [HE.out, if_neg]
      rintro ⟨k1, k2, k3⟩
      subst k1 k2 k3
      simp at h
    have HBD := Lib.hid bad
    clear hW qr hb3 bad
    cases B1 with
    | false =>
      go_wp2_with fail
      refine (H1.out _).mono ?_
      rintro e w4 ⟨rfl, rfl⟩
      go_wp2_with fail
      refine bodyPost_ret (v := .agg #[.bool true, .slice none 0 0]) (results_c Tryz.results17 _ _ w.heap.size 29 _ _ rfl HS.out.1 Tryz.underlying29 rfl info_polyB) rfl ?_
      exact ⟨_, rfl, by rw [HBD.out (by simp)]; exact PolyB.big _, HS.out.2⟩
    | true =>
      cases B2 with
      | false =>
        go_wp2_with fail
        refine (H1.out _).mono ?_
        rintro e w4 ⟨rfl, rfl⟩
        go_wp2_with fail
        refine (H2.out _).mono ?_
        rintro e w4 ⟨rfl, rfl⟩
        go_wp2_with fail
        refine bodyPost_ret (v := .agg #[.bool true, .slice none 0 0]) (results_c Tryz.results17 _ _ w.heap.size 29 _ _ rfl HS.out.1 Tryz.underlying29 rfl info_polyB) rfl ?_
        exact ⟨_, rfl, by rw [HBD.out (by simp)]; exact PolyB.big _, HS.out.2⟩
      | true =>
        cases B3 with
        | false =>
          go_wp2_with fail
          refine (H1.out _).mono ?_
          rintro e w4 ⟨rfl, rfl⟩
          go_wp2_with fail
          refine (H2.out _).mono ?_
          rintro e w4 ⟨rfl, rfl⟩
          go_wp2_with fail
          refine (H3.out _).mono ?_
          rintro e w4 ⟨rfl, rfl⟩
          go_wp2_with fail
          refine bodyPost_ret (v := .agg #[.bool true, .slice none 0 0]) (results_c Tryz.results17 _ _ w.heap.size 29 _ _ rfl HS.out.1 Tryz.underlying29 rfl info_polyB) rfl ?_
          exact ⟨_, rfl, by rw [HBD.out (by simp)]; exact PolyB.big _, HS.out.2⟩
        | true =>
          have HPP := Lib.hid (show P = some [((a, z), c)] by rw [HE.out, if_pos ⟨rfl, rfl, rfl⟩])
          have hlt := HR.out.lt
          go_wp2_with fail
          refine (H1.out _).mono ?_
          rintro e w4 ⟨rfl, rfl⟩
          go_wp2_with fail
          refine (H2.out _).mono ?_
          rintro e w4 ⟨rfl, rfl⟩
          go_wp2_with fail
          refine (H3.out _).mono ?_
          rintro e w4 ⟨rfl, rfl⟩
          go_wp2_with fail
          have h0 := (HR.out.set 0 (.bool false)).set 1 (.slice (some ⟨w3.heap.size, 0, none⟩) 1 1)
          have h1 := h0.alloc (.cells #[.int .i64 a, .int .i64 z, .int .i64 c] 49)
          have hb := ((HB.out.setCell (p := ⟨w.heap.size, 0, none⟩) (Nat.le_refl _) (.bool false)).setCell (p := ⟨w.heap.size, 1, none⟩) (Nat.le_refl _) (.slice (some ⟨w3.heap.size, 0, none⟩) 1 1))
          have h2 := hb.alloc hb.size (.cells #[.int .i64 a, .int .i64 z, .int .i64 c] 49)
          have h3 := Arr.newAt ((w3.setCell ⟨w.heap.size, 0, none⟩ (.bool false)).setCell ⟨w.heap.size, 1, none⟩ (.slice (some ⟨w3.heap.size, 0, none⟩) 1 1)) 49 [.int .i64 a, .int .i64 z, .int .i64 c] w3.heap.size (by simp)
          refine bodyPost_ret (v := .agg #[.bool false, .slice (some ⟨w3.heap.size, 0, none⟩) 1 1]) (results_c Tryz.results17 _ _ w.heap.size 29 _ _ rfl h1 Tryz.underlying29 rfl info_polyB) rfl ?_
          exact ⟨_, rfl, by rw [HPP.out]; exact PolyB.of_tm (tmB_one h3), h2⟩
end Go.Proofs.YtnmidhlghhephaaGreatDoor

namespace Go.Proofs.YtnmidhlghhephaaGreatDoor
open Go.RowKit
set_option linter.unusedVariables false
theorem take_snocB {l : List T2} {k : Nat} (h : k < l.length) : l.take (k + 1) = l.take k ++ [l[k]] := by
  rw [List.take_add_one, List.getElem?_eq_getElem h]; rfl
end Go.Proofs.YtnmidhlghhephaaGreatDoor
