/- wirtinger.Of. -/
import Derived.Test.YtlbihllmpbhhcaaDoorZStx
import Derived.Test.YtlbihllmpbhhcaaDoorZAcw
import Derived.Test.YtlbihllmpbhhcaaDoorZWvl
import Derived.Test.YtlbihllmpbhhcaaDoorZMtx
import Derived.Test.YtlbihllmpbhhcaaDoorZRdc
namespace Go.Proofs.YtlbihllmpbhhcaaDoor
open Go.RowKit
set_option linter.unusedVariables false

theorem rk_root {l : List Nat} {a b : Nat} (ha : gn l a = a) (h : a < b) : rk l a < rk l b := by
  have h1 : rk l (a + 1) = rk l a + 1 := by rw [rk, if_pos ha]
  have h2 := rk_mono l (show a + 1 ≤ b by omega)
  omega
theorem Reduce_own (vw : Value) (ws : List Int) (w : World) (hw : Ints w vw ws) (hl : ws.length ≤ 100000) (hx : ∀ x ∈ ws, -1000000000 ≤ x ∧ x ≤ 1000000000) :
    Calls Tryd.prog 20 #[vw] w fun e w' => ∃ v', e = .returned v' ∧ OwnI 3 w.heap.size w' v' (pshL [] ws) ∧ Below w.heap.size w w' := by
  have HW := Lib.hid hw
  obtain ⟨A, c, rfl, _, _⟩ := hw
  obtain ⟨cs, hmk, hcs⟩ := run_make_word ws.length (by omega) w
  have HX := Lib.hid hx
  have hB : Below w.heap.size w (w.alloc (.cells cs 3)) := (Below.refl _ _).alloc (Nat.le_refl _) _
  have HP := Lib.hid (push_any w.heap.size (.slice (some ⟨w.heap.size, 0, none⟩) 0 ws.length) (.slice A ws.length c) [] ws (w.alloc (.cells cs 3)) (OwnI.made (Nat.le_refl _) (by omega) hcs)
    (fun W hk => HW.out.keepW fun b hb => (hk b (by simp; omega) (fun e => by injection e with e; simp at e; omega)).trans (hB.block b hb)) (by simp) (by simp; omega) hx)
  clear hx
  go_enter Tryd.func20, Tryd.ntmps20
  go_wp2_with fail
  refine HP.out.mono ?_
  rintro e w4 ⟨v', rfl, hst⟩
  have HS := Lib.hid hst
  obtain ⟨A4, c4, rfl⟩ := hst.own.form
  clear hst
  go_wp2_with fail
  go_ret
  exact ⟨_, rfl, HS.out.own, hB.trans (HS.out.bel.mono (by simp))⟩
theorem info_grp : (Tryd.prog.info? 41).map (·.size) = some (rowOf [Value.int .i64 0, .slice none 0 0, .slice none 0 0]).size := by kernel_rfl
set_option maxHeartbeats 2000000 in
theorem wof_bad (vs vm : Value) (S M : List Int) (L : Int) (w : World) (hS : Ints w vs S) (hM : Ints w vm M) (hv : valB S M L = false) :
    Calls Tryd.prog 30 #[.agg #[vs, vm, .int .i64 L]] w fun e w' => e = .returned (.tuple #[.agg #[.int .i64 0, .slice none 0 0, .slice none 0 0], .int .i64 1]) ∧ Below w.heap.size w w' := by
  have hW : ∀ W, W = (w.alloc (.cells #[vs, vm, .int .i64 L] 61)).alloc (.cells #[.int .i64 0, .slice none 0 0, .slice none 0 0] 41) → Arr W w.heap.size 61 [vs, vm, .int .i64 L] ∧ Arr W (w.heap.size + 1) 41 [.int .i64 0, .slice none 0 0, .slice none 0 0] ∧ Below w.heap.size w W := by
    rintro W rfl
    exact ⟨(Arr.new _ _ [_, _, _]).alloc _, Arr.newAt _ _ [_, _, _] _ (by simp), ((Below.refl _ _).alloc (Nat.le_refl _) _).alloc (by simp) _⟩
  have HS := Lib.hid hS
  have HM := Lib.hid hM
  have HV := Lib.hid hv
  obtain ⟨A1, c1, rfl, -, -⟩ := hS
  obtain ⟨A2, c2, rfl, -, -⟩ := hM
  clear hv
  go_enter Tryd.func30, Tryd.ntmps30
  go_upto_region 1 with fail
  generalize (w.alloc (.cells #[.slice A1 S.length c1, .slice A2 M.length c2, .int .i64 L] 61)).alloc (.cells #[.int .i64 0, .slice none 0 0, .slice none 0 0] 41) = w3 at hW ⊢
  obtain ⟨q3, r3, hb3⟩ := hW w3 rfl
  clear hW
  have HV3 := Lib.hid (valid_code _ _ S M L w3 (HS.out.below hb3) (HM.out.below hb3))
  rw [HV.out] at HV3
  have y0 := q3.cell 0
  have y1 := q3.cell 1
  have y2 := q3.cell 2
  have R3 := Lib.hid r3
  have HB3 := Lib.hid hb3
  clear q3 hb3 r3
  go_wp2_with fail
  refine HV3.out.mono ?_
  rintro e w4 ⟨rfl, hb4⟩
  have HB4 := Lib.hid (HB3.out.trans (hb4.mono HB3.out.size))
  have r4 := R3.out.below hb4 R3.out.lt
  have x0 := r4.cell 0
  have x1 := r4.cell 1
  have x2 := r4.cell 2
  have f0 := r4.frozen 0
  have f1 := r4.frozen 1
  have f2 := r4.frozen 2
  have HR := Lib.hid (((r4.set 0 (.int .i64 0)).set 1 (.slice none 0 0)).set 2 (.slice none 0 0))
  clear y0 y1 y2 hb4 r4
  go_wp2_with fail
  refine bodyPost_ret (v := .tuple #[.agg #[.int .i64 0, .slice none 0 0, .slice none 0 0], .int .i64 1]) (results_ct Tryd.results30 _ _ (w.heap.size + 1) 41 _ _ rfl HR.out Tryd.underlying41 rfl info_grp) rfl ?_
  exact ⟨rfl, ((HB4.out.setCell (p := ⟨w.heap.size + 1, 0, none⟩) (by simp) _).setCell (p := ⟨w.heap.size + 1, 1, none⟩) (by simp) _).setCell (p := ⟨w.heap.size + 1, 2, none⟩) (by simp) _⟩
/-- components of generators -/
def CmpI (n gc : Nat) (W : World) : Prop := ∃ cs : List Int, Arr W gc 3 (cs.map (Value.int .i64)) ∧ cs.length = n ∧ ∀ c ∈ cs, 0 ≤ c ∧ c < (n : Int)
theorem CmpI.start {n gc : Nat} {W : World} (h : Arr W gc 3 (List.replicate n (.int .i64 0))) : CmpI n gc W :=
  ⟨List.replicate n 0, by rw [List.map_replicate]; exact h, by simp, fun c hc => by
    have := List.mem_replicate.1 hc
    omega⟩
theorem CmpI.set {n gc : Nat} {W : World} (h : CmpI n gc W) {i : Nat} {x : Int} (hx : 0 ≤ x ∧ x < (n : Int)) : CmpI n gc (W.setCell ⟨gc, i, none⟩ (.int .i64 x)) := by
  obtain ⟨cs, h1, h2, h3⟩ := h
  refine ⟨cs.set i x, by rw [List.map_set]; exact h1.set i _, by rw [List.length_set]; exact h2, fun c hc => ?_⟩
  rcases List.mem_or_eq_of_mem_set hc with hc | rfl
  · exact h3 c hc
  · exact hx
theorem CmpI.cell {n gc : Nat} {W : World} (h : CmpI n gc W) {i : Nat} (hi : i < n) : (∃ x : Int, W.cell? ⟨gc, i, none⟩ = some (.int .i64 x)) ∧ W.frozen? ⟨gc, i, none⟩ = false := by
  obtain ⟨cs, h1, h2, h3⟩ := h
  refine ⟨⟨cs[i]'(by omega), ?_⟩, h1.frozen i⟩
  rw [h1.cell, List.getElem?_map, List.getElem?_eq_getElem (by omega)]; rfl
/-- the group as it lies in memory -/
def WofR (w' : World) (v : Value) : Prop := ∃ (n : Nat) (vc vs : Value) (comp : List Int) (wss : List (List Int)), v = .agg #[.int .i64 (n : Int), vc, vs] ∧ (∀ W, KeepE 41 w' W → Ints W vc comp ∧ Wds W vs wss) ∧ vldG (n : Int) comp wss = true ∧ wss.length ≤ 64 ∧ ∀ ws ∈ wss, RelIs n ws
theorem flat_eS (ss : List SVt) : ss.flatMap eS = ss.map vS := by
  induction ss with
  | nil => rfl
  | cons a l ih => rw [List.flatMap_cons, ih]; rfl
theorem flat_ei (xs : List Int) : xs.flatMap ei = xs.map (Value.int .i64) := by
  induction xs with
  | nil => rfl
  | cons a l ih => rw [List.flatMap_cons, ih]; rfl
theorem OwnA.cellS {e : TypeId} {base : Nat} {w : World} {A : Option Addr} {n c : Nat} {ss : List SVt} (h : OwnA e 1 eS base w (.slice A n c) ss) {k : Nat} (hk : k < ss.length) : ∃ b, A = some ⟨b, 0, none⟩ ∧ base ≤ b ∧ w.cell? ⟨b, k, none⟩ = some (vS ss[k]) := by
  obtain ⟨A', c', hv, _, hx⟩ := h.sl
  injection hv with e1 e2 e3
  subst e1
  obtain ⟨b, o, rfl, hc⟩ := hx k (vS ss[k]) (by rw [flat_eS, List.getElem?_map, List.getElem?_eq_getElem hk]; rfl)
  have hb := h.block b rfl
  rcases h.2 with ⟨h1, _⟩ | ⟨g, cap, cur, h1, _⟩
  · cases h1
  · injection h1 with h1
    injection h1 with h1
    injection h1 with h1 h2
    subst h2
    rw [Nat.zero_add] at hc
    exact ⟨b, rfl, hb, hc⟩
theorem OwnI.onl {e : TypeId} {base g : Nat} {w w' : World} {v : Value} {xs : List Int} (h : OwnI e base w v xs) (o : Onl g w w') (hg : g < base) : OwnI e base w' v xs := by
  refine ⟨h.1, ?_⟩
  rcases h.2 with h0 | ⟨k, cap, cur, rfl, h1, hh, r⟩
  · exact .inl h0
  · exact .inr ⟨k, cap, cur, rfl, h1, (o.block k (by omega)).trans hh, r⟩
theorem Wds.of_own {base : Nat} {w : World} {v : Value} {ss : List SVt} {wss : List (List Int)} (h1 : ss.length = wss.length) (h2 : OwnA 42 1 eS base w v ss) (h3 : ∀ (k : Nat) s ws, ss[k]? = some s → wss[k]? = some ws → OwnI 3 base w (vS s) ws) : Wds w v wss := by
  obtain ⟨A, c, rfl⟩ := h2.form
  refine ⟨A, c, by rw [h1], fun k hk => ?_⟩
  obtain ⟨b, e, _, hc⟩ := h2.cellS (k := k) (by omega)
  exact ⟨b, 0, vS (ss[k]'(by omega)), e, by rw [Nat.zero_add]; exact hc, (h3 k _ _ (List.getElem?_eq_getElem (by omega)) (List.getElem?_eq_getElem hk)).ints⟩
/-- the relators so far -/
structure WdS (n gc gb B2 : Nat) (w w8 : World) (q : Nat) (wr : World) : Prop where
  bel : Below w.heap.size w wr
  old : ∀ k, k < w8.heap.size → k ≠ gb → wr.heap[k]? = w8.heap[k]?
  sz : w8.heap.size ≤ wr.heap.size
  wd : ∃ (vW : Value) (ss : List SVt) (wss : List (List Int)), Arr wr gb 41 [.int .i64 (n : Int), .slice (some ⟨gc, 0, none⟩) n n, vW] ∧ ss.length = wss.length ∧ wss.length = q ∧ OwnA 42 1 eS w8.heap.size wr vW ss ∧ (∀ (k : Nat) s ws, ss[k]? = some s → wss[k]? = some ws → OwnI 3 w8.heap.size wr (vS s) ws) ∧ ∀ ws ∈ wss, RelIs n ws
theorem WdS.grow {n gc gb B2 : Nat} {w w8 : World} {q : Nat} {wr W : World} (h : WdS n gc gb B2 w w8 q wr) (hb : Below wr.heap.size wr W) (hw : w.heap.size ≤ wr.heap.size) : WdS n gc gb B2 w w8 q W := by
  obtain ⟨vW, ss, wss, h1, h2, h3, h4, h5, h6⟩ := h.wd
  exact ⟨h.bel.trans (hb.mono hw), fun k hk hne => (hb.block k (Nat.lt_of_lt_of_le hk h.sz)).trans (h.old k hk hne), Nat.le_trans h.sz hb.size, vW, ss, wss, h1.below hb h1.lt, h2, h3, h4.below hb, fun k s ws a b => (h5 k s ws a b).below hb (Nat.le_refl _), h6⟩
theorem WdS.drewN {n gc gb B2 : Nat} {w w8 : World} {q : Nat} {wr : World} (h : WdS n gc gb B2 w w8 q wr) (k : Nat) : WdS n gc gb B2 w w8 q (wr.drewN k) := ⟨bdrewN h.bel k, h.old, h.sz, h.wd⟩
theorem OwnA.toI {e : TypeId} {base : Nat} {w : World} {v : Value} {xs : List Int} (h : OwnA e 1 ei base w v xs) : OwnI e base w v xs := by
  unfold OwnA at h
  rw [flat_ei] at h
  exact h
theorem ownI_low {e : TypeId} {b1 b2 : Nat} {w : World} {v : Value} {xs : List Int} (h : OwnI e b1 w v xs) (hb : b2 ≤ b1) : OwnI e b2 w v xs := by
  refine ⟨h.1, ?_⟩
  rcases h.2 with h0 | ⟨g, cap, cur, e1, h1, hh, r⟩
  · exact .inl h0
  · exact .inr ⟨g, cap, cur, e1, Nat.le_trans hb h1, hh, r⟩
theorem info_wds : (Tryd.prog.info? 42).map (fun i => (i.zero, i.size, i.bytes)) = some (some (.slice none 0 0), 1, 24) := by kernel_rfl
theorem elWs : ElA Tryd.prog 42 1 eS where
  ex := by
    obtain ⟨i, hi, hz, hs, hb⟩ := info_parts info_wds
    exact ⟨i, _, 24, hi, hz, hs, hb, rfl, by omega⟩
  pos := by omega
  len := fun x => rfl
  one := fun x q h => by unfold eS at h; simp at h; subst h; rfl
theorem WdS.app {n gc gb B2 : Nat} {w w8 : World} {q : Nat} {wr W : World} {vW v' : Value} {ss : List SVt} {wss : List (List Int)} {s : SVt} {ws : List Int} (hgw : w.heap.size ≤ gb) (hw8 : gb < w8.heap.size) (h : WdS n gc gb B2 w w8 q wr)
    (h1 : Arr wr gb 41 [.int .i64 (n : Int), .slice (some ⟨gc, 0, none⟩) n n, vW]) (h2 : ss.length = wss.length) (h3 : wss.length = q) (h4 : OwnA 42 1 eS w8.heap.size wr vW ss) (h5 : ∀ (k : Nat) s ws, ss[k]? = some s → wss[k]? = some ws → OwnI 3 w8.heap.size wr (vS s) ws) (h6 : ∀ ws ∈ wss, RelIs n ws)
    (hs : OwnI 3 w8.heap.size wr (vS s) ws) (hr : RelIs n ws) (hn : OwnA 42 1 eS w8.heap.size W v' (ss ++ [s])) (hb : Below w8.heap.size wr W) (hk : ∀ k, k < wr.heap.size → vW.ownBlock ≠ some k → W.heap[k]? = wr.heap[k]?) : WdS n gc gb B2 w w8 (q + 1) (W.setCell ⟨gb, 2, none⟩ v') := by
  have hke : KeepE 42 wr W := KeepE.of hk h4.typ
  have h1' := h1.keepE hke (by decide)
  have hks : KeepE 41 W (W.setCell ⟨gb, 2, none⟩ v') := KeepE.set h1' _
  refine ⟨(h.bel.trans (hb.mono (Nat.le_of_lt (Nat.lt_of_le_of_lt hgw hw8)))).setCell (p := ⟨gb, 2, none⟩) hgw _, fun k hk' hne => ?_, ?_, v', ss ++ [s], wss ++ [ws], h1'.set 2 _, by simp [h2], by simp [h3], hn.keepE hks (by decide), fun k s' ws' a b => ?_, fun ws' hm => ?_⟩
  · exact (Below.heap_setCell W ⟨gb, 2, none⟩ v' k hne).trans ((hb.block k hk').trans (h.old k hk' hne))
  · have := hb.size; have := h.sz; simp; omega
  · rcases Nat.lt_or_ge k ss.length with hlt | hge
    · rw [List.getElem?_append_left hlt] at a
      rw [List.getElem?_append_left (by omega)] at b
      exact ((h5 k s' ws' a b).keepE hke (by decide)).keepE hks (by decide)
    · rw [List.getElem?_append_right hge] at a
      rw [List.getElem?_append_right (by omega)] at b
      have h0 : k - ss.length = 0 := by
        rcases Nat.eq_zero_or_pos (k - ss.length) with h0 | h0
        · exact h0
        · rw [List.getElem?_eq_none (by simp; omega)] at a; cases a
      rw [h0] at a
      rw [show k - wss.length = 0 by omega] at b
      cases a
      cases b
      exact (hs.keepE hke (by decide)).keepE hks (by decide)
  · rcases List.mem_append.1 hm with hm | hm
    · exact h6 ws' hm
    · rw [List.mem_singleton.1 hm]; exact hr
theorem vldG_rel {n : Nat} {comp : List Int} {wss : List (List Int)} (hn : n ≤ 1000) (hc : comp.length = n) (h1 : ∀ c ∈ comp, 0 ≤ c ∧ c < (n : Int)) (h2 : ∀ ws ∈ wss, RelIs n ws) : vldG (n : Int) comp wss = true := by
  unfold vldG
  rw [Bool.and_eq_true, Bool.and_eq_true]
  refine ⟨decide_eq_true ⟨by omega, by omega, by omega⟩, ?_, ?_⟩
  · unfold vldC
    rw [List.all_eq_true]
    exact fun c hc' => decide_eq_true (h1 c hc')
  · unfold vldS
    rw [List.all_eq_true]
    intro ws hws
    refine vldW_iff.2 fun x hx => ?_
    have := (h2 ws hws).mem x hx
    exact ⟨by omega, this.1, this.2.1, this.2.2⟩
set_option maxHeartbeats 4000000 in
set_option maxRecDepth 100000 in
theorem wof_ok (vs vm : Value) (S M : List Int) (L : Int) (w : World) (hS : Ints w vs S) (hM : Ints w vm M) (hv : valB S M L = true) :
    Calls Tryd.prog 30 #[.agg #[vs, vm, .int .i64 L]] w fun e w' => ∃ v, e = .returned (.tuple #[v, .int .i64 0]) ∧ WofR w' v ∧ Below w.heap.size w w' := by
  have k : Ok S M L := ok_of (by unfold valB at hv; rw [Bool.and_eq_true] at hv; exact hv.1)
  obtain ⟨ln, rfl⟩ : ∃ l : Nat, L = (l : Int) := ⟨L.toNat, by have := k.l0; omega⟩
  have hW : ∀ W, W = (w.alloc (.cells #[vs, vm, .int .i64 (ln : Int)] 61)).alloc (.cells #[.int .i64 0, .slice none 0 0, .slice none 0 0] 41) → Arr W w.heap.size 61 [vs, vm, .int .i64 (ln : Int)] ∧ Arr W (w.heap.size + 1) 41 [.int .i64 0, .slice none 0 0, .slice none 0 0] ∧ Below w.heap.size w W := by
    rintro W rfl
    exact ⟨(Arr.new _ _ [_, _, _]).alloc _, Arr.newAt _ _ [_, _, _] _ (by simp), ((Below.refl _ _).alloc (Nat.le_refl _) _).alloc (by simp) _⟩
  have HK := Lib.hid k
  have HS := Lib.hid hS
  have HM := Lib.hid hM
  have HV := Lib.hid hv
  obtain ⟨A1, c1, rfl, -, -⟩ := hS
  obtain ⟨A2, c2, rfl, -, -⟩ := hM
  have hsl : S.length ≤ 64 := k.n
  have hml : M.length ≤ 256 := by have := k.m; omega
  have HML := Lib.hid k.m
  have hll : ln ≤ 64 := by have := k.l1; omega
  clear hv k
  go_enter Tryd.func30, Tryd.ntmps30
  go_upto_region 1 with fail
  generalize (w.alloc (.cells #[.slice A1 S.length c1, .slice A2 M.length c2, .int .i64 (ln : Int)] 61)).alloc (.cells #[.int .i64 0, .slice none 0 0, .slice none 0 0] 41) = w3 at hW ⊢
  obtain ⟨q3, r3, hb3⟩ := hW w3 rfl
  clear hW
  have HV3 := Lib.hid (valid_code _ _ S M (ln : Int) w3 (HS.out.below hb3) (HM.out.below hb3))
  rw [HV.out] at HV3
  have y0 := q3.cell 0
  have y1 := q3.cell 1
  have y2 := q3.cell 2
  have Q3 := Lib.hid q3
  have R3 := Lib.hid r3
  have HB3 := Lib.hid hb3
  clear q3 hb3 r3
  go_wp2_with fail
  refine HV3.out.mono ?_
  rintro e w4 ⟨rfl, hb4⟩
  have HB4 := Lib.hid (HB3.out.trans (hb4.mono HB3.out.size))
  have Q4 := Lib.hid (Q3.out.below hb4 Q3.out.lt)
  have R4 := Lib.hid (R3.out.below hb4 R3.out.lt)
  clear y0 y1 y2 hb4 Q3 R3 HB3 HV3
  have y0 := Q4.out.cell 0
  have y1 := Q4.out.cell 1
  have y2 := Q4.out.cell 2
  have HAC := Lib.hid (arcs_code _ _ S M (ln : Int) w4 (HS.out.below HB4.out) (HM.out.below HB4.out) HK.out)
  go_wp2_with fail
  refine HAC.out.mono ?_
  rintro e w5 ⟨ga, rfl, hga, qa5, hb5⟩
  have HB5 := Lib.hid (HB4.out.trans (hb5.mono HB4.out.size))
  have QD5 := Lib.hid (Q4.out.below hb5 Q4.out.lt)
  have R5 := Lib.hid (R4.out.below hb5 R4.out.lt)
  have QA5 := Lib.hid qa5
  have HSTL := Lib.hid (show ∀ m, m ≤ rk (labA M M.length M.length) M.length → m ≤ rk (labA M M.length M.length) M.length from fun _ h => h)
  have HAR := Lib.hid (show ∀ i, i < M.length → gn (numA (labA M M.length M.length) M.length M.length) i < rk (labA M M.length M.length) M.length from fun i hi => by
    rw [gn_numA hi, if_pos hi]
    exact rk_root (la_self HK.out hi) (Nat.lt_of_le_of_lt (la_le HK.out hi) hi))
  have HCN := Lib.hid (show rk (labA M M.length M.length) M.length ≤ 256 from by have := rk_le (labA M M.length M.length) M.length; omega)
  have HSTR := Lib.hid (fun W (hb : Below w.heap.size w W) => strands_any HV.out HK.out _ _ W (HS.out.below hb) (HM.out.below hb))
  have HNL := Lib.hid (numA_length (labA M M.length M.length) M.length M.length)
  unfold StrR at HSTR
  generalize numA (labA M M.length M.length) M.length M.length = NA at *
  generalize rk (labA M M.length M.length) M.length = cn at *
  clear y0 y1 y2 hb5 qa5 Q4 R4 HB4 HAC HSTL
  obtain ⟨n, hn⟩ : ∃ n, n = cn + ln := ⟨_, rfl⟩
  have hcn := HCN.out
  have HSUM := Lib.hid (show (cn : Int) + (ln : Int) = (n : Int) by omega)
  have HN6 := Lib.hid (show n ≤ 1000000 by omega)
  have HNE := Lib.hid hn
  clear hn HCN
  go_upto_region 4 with fail
  refine wp_region_phil 11 (fun i => false) (by kernel_rfl) (by kernel_rfl) (by kernel_rfl) (by kernel_rfl) (by kernel_rfl) rfl (by simp) (by kernel_rfl) (fun i => ([some (.int .i64 (cn : Int)), some (.pointer (some ⟨w.heap.size, 2, none⟩)), some (.int .i64 (ln : Int)), some (.int .i64 (n : Int)), some (.int .i64 (cn : Int)), some (.pointer (some ⟨w.heap.size, 2, none⟩)), some (.int .i64 (ln : Int)), some (.int .i64 (n : Int)), none, none, none, none] : List (Option Value)).getD i none) (phiT (fun i => ([some (.int .i64 (cn : Int)), some (.pointer (some ⟨w.heap.size, 2, none⟩)), some (.int .i64 (ln : Int)), some (.int .i64 (n : Int)), some (.int .i64 (cn : Int)), some (.pointer (some ⟨w.heap.size, 2, none⟩)), some (.int .i64 (ln : Int)), some (.int .i64 (n : Int)), none, none, none, none] : List (Option Value)).getD i none) (fun i v w => (if i = 8 then (fun v w => ∃ g, v = .slice (some ⟨g, 0, none⟩) n n ∧ w5.heap.size ≤ g ∧ Arr w g 3 (List.replicate n (.int .i64 0))) v w else (if i = 9 then (fun v w => ∃ g, v = .agg #[.int .i64 (n : Int), .slice (some ⟨g, 0, none⟩) n n, .slice none 0 0] ∧ w5.heap.size ≤ g ∧ Arr w g 3 (List.replicate n (.int .i64 0))) v w else (if i = 10 then (fun v w => ∃ g, v = .pointer (some ⟨g, 0, none⟩) ∧ w5.heap.size ≤ g ∧ Arr w g 41 [.int .i64 0, .slice none 0 0, .slice none 0 0]) v w else True))))) (fun i v w w' h hb => ?_) (fun i u v w h he => ?_) (fun x W => ∃ gb gc, x 10 = .pointer (some ⟨gb, 0, none⟩) ∧ w5.heap.size ≤ gb ∧ w5.heap.size ≤ gc ∧ Arr W gb 41 [.int .i64 (n : Int), .slice (some ⟨gc, 0, none⟩) n n, .slice none 0 0] ∧ Arr W gc 3 (List.replicate n (.int .i64 0)) ∧ Below w5.heap.size w5 W) (fun x w i v hl h => ?_) ⟨?_, ?_, ?_, ?_, ?_, ?_, ?_, ?_, ?_, ?_, ?_, ?_, trivial⟩ ?_
  · unfold phiT at h ⊢
    split
    · next u hu => rw [hu] at h; exact h
    · next hu =>
      rw [hu] at h
      simp only at h ⊢
      by_cases q8 : i = 8
      · rw [if_pos q8] at h ⊢; exact by obtain ⟨g, h1, h2, h3⟩ := h; exact ⟨g, h1, h2, h3.below hb h3.lt⟩
      · rw [if_neg q8] at h ⊢
        by_cases q9 : i = 9
        · rw [if_pos q9] at h ⊢; exact by obtain ⟨g, h1, h2, h3⟩ := h; exact ⟨g, h1, h2, h3.below hb h3.lt⟩
        · rw [if_neg q9] at h ⊢
          by_cases q10 : i = 10
          · rw [if_pos q10] at h ⊢; exact by obtain ⟨g, h1, h2, h3⟩ := h; exact ⟨g, h1, h2, h3.below hb h3.lt⟩
          · rw [if_neg q10] at h ⊢
            trivial
  · exact phiT_val h he
  · simp only [Bool.or_eq_true, decide_eq_true_eq, Bool.false_eq_true] at hl
  · intro x w1 bA hold hb
    refine ⟨fun _ _ hbel hdep => ?_, fun h => absurd h (by decide), fun h => absurd h (by decide)⟩
    have e5 : bA.tmps[5]?.getD undef = .int .i64 (cn : Int) := hb 5
    refine phi_run (.int .i64 (cn : Int)) ?_ rfl
    clear hb hdep hold
    go_simp
  · intro x w1 bA hold hb
    refine ⟨fun _ _ hbel hdep => ?_, fun h => absurd h (by decide), fun h => absurd h (by decide)⟩
    have e1 : bA.tmps[1]?.getD undef = .pointer (some ⟨w.heap.size, 0, none⟩) := hb 1
    refine phi_run (.pointer (some ⟨w.heap.size, 2, none⟩)) ?_ rfl
    clear hb hdep hold
    go_simp
  · intro x w1 bA hold hb
    refine ⟨fun _ _ hbel hdep => ?_, fun h => absurd h (by decide), fun h => absurd h (by decide)⟩
    have e29 : bA.tmps[29]?.getD undef = .pointer (some ⟨w.heap.size, 2, none⟩) := (hb 29).trans (hdep 1 (by decide))
    have cc := (QD5.out.below hbel QD5.out.lt).cell 2
    refine phi_run (.int .i64 (ln : Int)) ?_ rfl
    clear hb hdep hold
    go_simp
  · intro x w1 bA hold hb
    refine ⟨fun _ _ hbel hdep => ?_, fun h => absurd h (by decide), fun h => absurd h (by decide)⟩
    have e28 : bA.tmps[28]?.getD undef = .int .i64 (cn : Int) := (hb 28).trans (hdep 0 (by decide))
    have e30 : bA.tmps[30]?.getD undef = .int .i64 (ln : Int) := (hb 30).trans (hdep 2 (by decide))
    have cw := HSUM.out
    have cw2 : IntKind.i64.wrap (n : Int) = (n : Int) := IntWalk.i64_in _ (by have := HN6.out; omega)
    refine phi_run (.int .i64 (n : Int)) ?_ rfl
    clear hb hdep hold
    go_simp
  · intro x w1 bA hold hb
    refine ⟨fun _ _ hbel hdep => ?_, fun h => absurd h (by decide), fun h => absurd h (by decide)⟩
    have e5 : bA.tmps[5]?.getD undef = .int .i64 (cn : Int) := hb 5
    refine phi_run (.int .i64 (cn : Int)) ?_ rfl
    clear hb hdep hold
    go_simp
  · intro x w1 bA hold hb
    refine ⟨fun _ _ hbel hdep => ?_, fun h => absurd h (by decide), fun h => absurd h (by decide)⟩
    have e1 : bA.tmps[1]?.getD undef = .pointer (some ⟨w.heap.size, 0, none⟩) := hb 1
    refine phi_run (.pointer (some ⟨w.heap.size, 2, none⟩)) ?_ rfl
    clear hb hdep hold
    go_simp
  · intro x w1 bA hold hb
    refine ⟨fun _ _ hbel hdep => ?_, fun h => absurd h (by decide), fun h => absurd h (by decide)⟩
    have e33 : bA.tmps[33]?.getD undef = .pointer (some ⟨w.heap.size, 2, none⟩) := (hb 33).trans (hdep 5 (by decide))
    have cc := (QD5.out.below hbel QD5.out.lt).cell 2
    refine phi_run (.int .i64 (ln : Int)) ?_ rfl
    clear hb hdep hold
    go_simp
  · intro x w1 bA hold hb
    refine ⟨fun _ _ hbel hdep => ?_, fun h => absurd h (by decide), fun h => absurd h (by decide)⟩
    have e32 : bA.tmps[32]?.getD undef = .int .i64 (cn : Int) := (hb 32).trans (hdep 4 (by decide))
    have e34 : bA.tmps[34]?.getD undef = .int .i64 (ln : Int) := (hb 34).trans (hdep 6 (by decide))
    have cw := HSUM.out
    have cw2 : IntKind.i64.wrap (n : Int) = (n : Int) := IntWalk.i64_in _ (by have := HN6.out; omega)
    refine phi_run (.int .i64 (n : Int)) ?_ rfl
    clear hb hdep hold
    go_simp
  · intro x w1 bA hold hb
    refine ⟨fun _ _ hbel hdep => ?_, fun h => absurd h (by decide), fun h => absurd h (by decide)⟩
    have e35 : bA.tmps[35]?.getD undef = .int .i64 (n : Int) := (hb 35).trans (hdep 7 (by decide))
    have hmk := mk_ones n HN6.out w1
    refine phi_make (.slice (some ⟨w1.heap.size, 0, none⟩) n n) (w1.alloc (.cells (rowOf (List.replicate n (.int .i64 0))) 3)) ?_ ((Below.refl _ _).alloc (Nat.le_refl _) _) (⟨w1.heap.size, rfl, hbel.size, Arr.new w1 3 _⟩)
    clear hb hdep hold
    go_simp
  · intro x w1 bA hold hb
    refine ⟨fun _ _ hbel hdep => ?_, fun h => absurd h (by decide), fun h => absurd h (by decide)⟩
    have e31 : bA.tmps[31]?.getD undef = .int .i64 (n : Int) := (hb 31).trans (hdep 3 (by decide))
    have p36 := hdep 8 (by decide)
    have e36 : bA.tmps[36]?.getD undef = x 8 := hb 36
    generalize x 8 = x36 at p36 e36
    have P36 := Lib.hid (show (fun v w => ∃ g, v = .slice (some ⟨g, 0, none⟩) n n ∧ w5.heap.size ≤ g ∧ Arr w g 3 (List.replicate n (.int .i64 0))) x36 w1 from p36)
    clear p36
    obtain ⟨g, e36b, hg, ag⟩ := P36.out
    rw [e36b] at e36
    have HG := Lib.hid hg
    have AGX := Lib.hid ag
    clear ag hg e36b P36
    refine phi_make (.agg #[.int .i64 (n : Int), .slice (some ⟨g, 0, none⟩) n n, .slice none 0 0]) (w1) ?_ (Below.refl _ _) (⟨g, rfl, HG.out, AGX.out⟩)
    clear hb hdep hold
    go_simp
  · intro x w1 bA hold hb
    refine ⟨fun _ _ hbel hdep => ?_, fun h => absurd h (by decide), fun h => absurd h (by decide)⟩
    refine phi_make (.pointer (some ⟨w1.heap.size, 0, none⟩)) (w1.alloc (.cells #[.int .i64 0, .slice none 0 0, .slice none 0 0] 41)) ?_ ((Below.refl _ _).alloc (Nat.le_refl _) _) (⟨w1.heap.size, rfl, hbel.size, Arr.new w1 41 [_, _, _]⟩)
    clear hb hdep hold
    go_simp
  · intro x w1 bA hold hb
    refine ⟨fun _ h => absurd rfl h, fun _ hbel hdep => ?_, fun h => absurd h (by decide)⟩
    have p6 := hdep 10 (by decide)
    have e6 : bA.tmps[6]?.getD undef = x 10 := hb 6
    have P6 := Lib.hid (show (fun v w => ∃ g, v = .pointer (some ⟨g, 0, none⟩) ∧ w5.heap.size ≤ g ∧ Arr w g 41 [.int .i64 0, .slice none 0 0, .slice none 0 0]) (x 10) w1 from p6)
    clear p6
    have p37 := hdep 9 (by decide)
    have e37 : bA.tmps[37]?.getD undef = x 9 := hb 37
    have P37 := Lib.hid (show (fun v w => ∃ g, v = .agg #[.int .i64 (n : Int), .slice (some ⟨g, 0, none⟩) n n, .slice none 0 0] ∧ w5.heap.size ≤ g ∧ Arr w g 3 (List.replicate n (.int .i64 0))) (x 9) w1 from p37)
    clear p37
    clear hb hdep hold
    obtain ⟨gb, e6b, hgb, agb⟩ := P6.out
    obtain ⟨gc, e37b, hgc, agc⟩ := P37.out
    rw [e6b] at e6
    rw [e37b] at e37
    have hne : gc ≠ gb := fun e => by subst e; unfold Arr at agb agc; rw [agb] at agc; injection agc with h; injection h with _ h2 _; exact absurd h2 (by decide)
    have c0 := agb.cell 0
    have c1 := agb.cell 1
    have c2 := agb.cell 2
    have f0 := agb.frozen 0
    have f1 := agb.frozen 1
    have f2 := agb.frozen 2
    have AGB := Lib.hid agb
    have AGC := Lib.hid agc
    have HX6 := Lib.hid e6b
    have HBL := Lib.hid hbel
    clear agb agc e6b e37b P6 P37 hbel
    refine phl_st (R := fun x W => ∃ gb gc, x 10 = .pointer (some ⟨gb, 0, none⟩) ∧ w5.heap.size ≤ gb ∧ w5.heap.size ≤ gc ∧ Arr W gb 41 [.int .i64 (n : Int), .slice (some ⟨gc, 0, none⟩) n n, .slice none 0 0] ∧ Arr W gc 3 (List.replicate n (.int .i64 0)) ∧ Below w5.heap.size w5 W) (((w1.setCell ⟨gb, 0, none⟩ (.int .i64 (n : Int))).setCell ⟨gb, 1, none⟩ (.slice (some ⟨gc, 0, none⟩) n n)).setCell ⟨gb, 2, none⟩ (.slice none 0 0)) ?_ rfl (fun v => ⟨gb, gc, (by simpa [upd] using HX6.out), hgb, hgc, ((AGB.out.set 0 _).set 1 _).set 2 _, ((AGC.out.far (p := ⟨gb, 0, none⟩) hne _).far (p := ⟨gb, 1, none⟩) hne _).far (p := ⟨gb, 2, none⟩) hne _, ((HBL.out.setCell (p := ⟨gb, 0, none⟩) hgb _).setCell (p := ⟨gb, 1, none⟩) hgb _).setCell (p := ⟨gb, 2, none⟩) hgb _⟩) rfl
    go_simp
  intro x w1 hR hall
  have x0e : x 0 = .int .i64 (cn : Int) := hall 0 _ (by simp) rfl
  have x1e : x 1 = .pointer (some ⟨w.heap.size, 2, none⟩) := hall 1 _ (by simp) rfl
  have x2e : x 2 = .int .i64 (ln : Int) := hall 2 _ (by simp) rfl
  have x3e : x 3 = .int .i64 (n : Int) := hall 3 _ (by simp) rfl
  have x4e : x 4 = .int .i64 (cn : Int) := hall 4 _ (by simp) rfl
  have x5e : x 5 = .pointer (some ⟨w.heap.size, 2, none⟩) := hall 5 _ (by simp) rfl
  have x6e : x 6 = .int .i64 (ln : Int) := hall 6 _ (by simp) rfl
  have x7e : x 7 = .int .i64 (n : Int) := hall 7 _ (by simp) rfl
  simp only [putAll, dstOf, Act.put, List.map_cons, List.map_nil, List.setIfInBounds_toArray, List.set_cons_succ, List.set_cons_zero, Nat.reduceAdd, x0e, x1e, x2e, x3e, x4e, x5e, x6e, x7e]
  clear x0e x1e x2e x3e x4e x5e x6e x7e hall
  obtain ⟨gb, gc, hx10, hgb, hgc, qgb, qgc, hb6⟩ := hR
  obtain ⟨w6, rfl⟩ : ∃ W : World, W = w1 := ⟨_, rfl⟩
  rw [hx10]
  generalize x 8 = u36
  generalize x 9 = u37
  have HB6 := Lib.hid (HB5.out.trans (hb6.mono HB5.out.size))
  have QD6 := Lib.hid (QD5.out.below hb6 QD5.out.lt)
  have R6 := Lib.hid (R5.out.below hb6 R5.out.lt)
  have QA6 := Lib.hid (QA5.out.below hb6 QA5.out.lt)
  have HGA := Lib.hid (show ga < gb ∧ ga < gc from ⟨Nat.lt_of_lt_of_le QA5.out.lt hgb, Nat.lt_of_lt_of_le QA5.out.lt hgc⟩)
  have HGW := Lib.hid (show w.heap.size + 1 < gb ∧ w.heap.size + 1 < gc from ⟨Nat.lt_of_lt_of_le R5.out.lt hgb, Nat.lt_of_lt_of_le R5.out.lt hgc⟩)
  have HNB := Lib.hid (show gc ≠ gb from fun e => by
    subst e
    unfold Arr at qgb qgc
    rw [qgb] at qgc
    injection qgc with h
    injection h with _ h2 _
    exact absurd h2 (by decide))
  have QGB6 := Lib.hid qgb
  have QGC6 := Lib.hid qgc
  have y0 := QD6.out.cell 0
  have y1 := QD6.out.cell 1
  have y2 := QD6.out.cell 2
  have HSTR6 := Lib.hid (HSTR.out w6 HB6.out)
  clear hx10 hgb hgc qgb qgc hb6 HB5 QD5 R5 QA5 HSTR x
  go_wp2_with fail
  refine HSTR6.out.mono ?_
  rintro e w7 ⟨v7, rfl, ⟨A7, c7, lls, ss, rfl, hle, hrg, hssl, hoa, hoi⟩, hb67⟩
  have HGC7 := Lib.hid (show gc < w6.heap.size from QGC6.out.lt)
  have HB7 := Lib.hid (HB6.out.trans (hb67.mono HB6.out.size))
  have QD7 := Lib.hid (QD6.out.below hb67 QD6.out.lt)
  have R7 := Lib.hid (R6.out.below hb67 R6.out.lt)
  have QA7 := Lib.hid (QA6.out.below hb67 QA6.out.lt)
  have QGB7 := Lib.hid (QGB6.out.below hb67 QGB6.out.lt)
  have HCM7 := Lib.hid (CmpI.start (QGC6.out.below hb67 QGC6.out.lt))
  have HRG := Lib.hid hrg
  have HLE := Lib.hid hle
  have HSX := Lib.hid (show ∀ k (hk : k < lls.length), ∃ b s, A7 = some ⟨b, 0, none⟩ ∧ ∀ W, Onl gc w7 W → W.cell? ⟨b, k, none⟩ = some (vS s) ∧ Ints W (vS s) lls[k] from fun k hk => by
    obtain ⟨b, e, hb, hc⟩ := hoa.cellS (k := k) (by omega)
    have hgc := HGC7.out
    exact ⟨b, ss[k]'(by omega), e, fun W hW => ⟨(hW.cell (p := ⟨b, k, none⟩) (show b ≠ gc by omega)).trans hc, ((hoi k _ _ (List.getElem?_eq_getElem (by omega)) (List.getElem?_eq_getElem hk)).onl hW hgc).ints⟩⟩)
  clear hle hrg hssl hoa hoi hb67 y0 y1 y2 HB6 QD6 R6 QA6 QGB6 QGC6 HSTR6
  obtain ⟨m, hm⟩ : ∃ m, m = lls.length := ⟨_, rfl⟩
  rw [← hm] at HLE ⊢
  have HMM := Lib.hid hm
  clear hm
  have hm256 : m ≤ 256 := by have := HLE.out; omega
  go_wp2_with fail
  have HST := Lib.hid (show Onl gc w7 w7 ∧ CmpI n gc w7 from ⟨Onl.refl _ _, HCM7.out⟩)
  clear HCM7
  go_loopg [42] m (fun gk s42 wr => ∃ k : Nat, k ≤ m ∧ gk = m - k ∧ s42 = .int .i64 (k : Int) ∧ Hid (Onl gc w7 wr ∧ CmpI n gc wr))
  case atStart => exact ⟨0, Nat.zero_le _, rfl, rfl, HST⟩
  case round =>
    clear HST
    obtain ⟨k, hk, rfl, rfl, HR⟩ := hrel
    by_cases hlt : k < m
    · have z1 : (k : Int) < (m : Int) := by omega
      have hkl : k < lls.length := by have := HMM.out; omega
      obtain ⟨b, s, hA7, hsx⟩ := HSX.out k hkl
      subst hA7
      obtain ⟨hc1, hi1⟩ := hsx wr HR.out.1
      have HSY := Lib.hid hsx
      have HRK := Lib.hid (HRG.out lls[k] (List.getElem_mem hkl))
      generalize lls[k] = l at *
      obtain ⟨As, cs, hvs, -, -⟩ := hi1
      rw [hvs] at hc1 HSY
      clear hvs hsx
      obtain ⟨p, hp⟩ : ∃ p, p = l.length := ⟨_, rfl⟩
      have hp256 : p ≤ 256 := by have := HRK.out.1; omega
      rw [← hp] at hc1 HSY
      have HPL := Lib.hid hp
      clear hp
      have HKN := Lib.hid (show (0 : Int) ≤ (k : Int) ∧ (k : Int) < (n : Int) from ⟨by omega, by have := HLE.out; have := HNE.out; omega⟩)
      go_wp2_with fail
      go_loopg [49] p (fun gk s49 wr => ∃ j : Nat, j ≤ p ∧ gk = p - j ∧ s49 = .int .i64 (j : Int) ∧ Hid (Onl gc w7 wr ∧ CmpI n gc wr))
      case atStart => exact ⟨0, Nat.zero_le _, rfl, rfl, HR⟩
      case round =>
        clear HR hc1
        obtain ⟨j, hj, rfl, rfl, HR⟩ := hrel
        by_cases hlj : j < p
        · have z2 : (j : Int) < (p : Int) := by omega
          have hjl : j < l.length := by have := HPL.out; omega
          obtain ⟨b2, o2, hAs, _, hcell⟩ := (HSY.out wr HR.out.1).2.at_ hjl
          subst hAs
          obtain ⟨x, hx, hxM⟩ := HRK.out.2 l[j] (List.getElem_mem hjl)
          rw [hx] at hcell
          have z3 : (x : Int) < (M.length : Int) := by omega
          have hgc1 := HGA.out
          have hnb := HNB.out
          have ca := (QA7.out.onl HR.out.1 (show ga ≠ gc by omega)).cell x
          rw [nc_get (by rw [HNL.out]; exact hxM)] at ca
          have hax := HAR.out x hxM
          have cg := (QGB7.out.onl HR.out.1 (Ne.symm hnb)).cell 1
          generalize gn NA x = a at *
          have z4 : (a : Int) < (n : Int) := by have := HNE.out; omega
          obtain ⟨⟨old, co⟩, fo⟩ := HR.out.2.cell (i := a) (by have := HNE.out; omega)
          have HF := Lib.hid (show Onl gc w7 (wr.setCell ⟨gc, a, none⟩ (.int .i64 (k : Int))) ∧ CmpI n gc (wr.setCell ⟨gc, a, none⟩ (.int .i64 (k : Int))) from ⟨HR.out.1.setCell a _, HR.out.2.set HKN.out⟩)
          clear hx hgc1 hnb hax
          go_wp2_with fail
          go_region
          have HF2 := Lib.hid (show Onl gc w7 (wr.setCell ⟨gc, a, none⟩ (.int .i64 (k : Int))).drew ∧ CmpI n gc (wr.setCell ⟨gc, a, none⟩ (.int .i64 (k : Int))).drew from ⟨HF.out.1.drew, HF.out.2⟩)
          generalize (wr.setCell ⟨gc, a, none⟩ (.int .i64 (k : Int))).drew = wq at *
          go_wp2_with fail
          go_roundg (p - (j + 1))
          case measure => omega
          case rel => exact ⟨j + 1, by omega, rfl, by go_num, HF2⟩
        · have z2 : ¬ (j : Int) < (p : Int) := by omega
          go_wp2_with fail
          go_roundg (m - (k + 1))
          case measure => omega
          case rel => exact ⟨k + 1, by omega, rfl, by go_num, HR⟩
    · have z1 : ¬ (k : Int) < (m : Int) := by omega
      have yl := (QD7.out.onl HR.out.1 (show w.heap.size ≠ gc by have := HGW.out; omega)).cell 2
      go_wp2_with fail
      clear yl
      go_loopg [65] ln (fun gk s65 wr => ∃ j : Nat, j ≤ ln ∧ gk = ln - j ∧ s65 = .int .i64 (j : Int) ∧ Hid (Onl gc w7 wr ∧ CmpI n gc wr))
      case atStart => exact ⟨0, Nat.zero_le _, rfl, rfl, HR⟩
      case round =>
        clear HR
        obtain ⟨j, hj, rfl, rfl, HR⟩ := hrel
        by_cases hlj : j < ln
        · have z2 : (j : Int) < (ln : Int) := by omega
          have hnb := HNB.out
          have cg := (QGB7.out.onl HR.out.1 (Ne.symm hnb)).cell 1
          have hne := HNE.out
          have hle := HLE.out
          obtain ⟨i, hi⟩ : ∃ i, i = cn + j := ⟨_, rfl⟩
          have e1 : (cn : Int) + (j : Int) = (i : Int) := by omega
          have z4 : (i : Int) < (n : Int) := by omega
          have hin : i < n := by omega
          obtain ⟨q, hq⟩ : ∃ q, q = m + j := ⟨_, rfl⟩
          have e2 : (m : Int) + (j : Int) = (q : Int) := by omega
          have hqn : (0 : Int) ≤ (q : Int) ∧ (q : Int) < (n : Int) := by omega
          clear hi hq
          obtain ⟨⟨old, co⟩, fo⟩ := HR.out.2.cell (i := i) hin
          have HF := Lib.hid (show Onl gc w7 (wr.setCell ⟨gc, i, none⟩ (.int .i64 (q : Int))) ∧ CmpI n gc (wr.setCell ⟨gc, i, none⟩ (.int .i64 (q : Int))) from ⟨HR.out.1.setCell i _, HR.out.2.set hqn⟩)
          clear hnb hne hle
          go_wp2_with fail
          go_roundg (ln - (j + 1))
          case measure => omega
          case rel => exact ⟨j + 1, by omega, rfl, by go_num, HF⟩
        · have z2 : ¬ (j : Int) < (ln : Int) := by omega
          have hgw := HGW.out
          have hga := HGA.out
          have QD8 := Lib.hid (QD7.out.onl HR.out.1 (show w.heap.size ≠ gc by omega))
          have R8 := Lib.hid (R7.out.onl HR.out.1 (show w.heap.size + 1 ≠ gc by omega))
          have QA8 := Lib.hid (QA7.out.onl HR.out.1 (show ga ≠ gc by omega))
          have QGB8 := Lib.hid (QGB7.out.onl HR.out.1 (Ne.symm HNB.out))
          have HCM8 := Lib.hid HR.out.2
          have HB8 := Lib.hid (HB7.out.trans (HR.out.1.below (Nat.le_of_lt (Nat.lt_trans (Nat.lt_succ_self _) hgw.2))))
          have HDO := Lib.hid (show Ints wr (.slice A1 S.length c1) S from HS.out.below HB8.out)
          clear hgw hga HR QD7 R7 QA7 QGB7 HB7 HSX
          have y0 := QD8.out.cell 0
          have HST := Lib.hid (show WdS n gc gb (w.heap.size + 1) w wr 0 wr from ⟨HB8.out, fun _ _ _ => rfl, Nat.le_refl _, .slice none 0 0, [], [], QGB8.out, rfl, rfl, OwnA.nil _ _ _ _ _, fun k s ws h => by simp at h, fun ws h => by simp at h⟩)
          obtain ⟨w8, rfl⟩ : ∃ W : World, W = wr := ⟨_, rfl⟩
          go_wp2_with fail
          clear y0
          go_loopg [82] S.length (fun gk s82 wr => ∃ c : Nat, c ≤ S.length ∧ gk = S.length - c ∧ s82 = .int .i64 (c : Int) ∧ Hid (WdS n gc gb (w.heap.size + 1) w w8 c wr))
          case atStart => exact ⟨0, Nat.zero_le _, rfl, rfl, HST⟩
          case round =>
            clear HST
            obtain ⟨c, hc, rfl, rfl, HR⟩ := hrel
            by_cases hlc : c < S.length
            · have z1 : (c : Int) < (S.length : Int) := by omega
              obtain ⟨bs, os, hA1, _, hcell⟩ := (HS.out.below HR.out.bel).at_ hlc
              subst hA1
              have hga8 := QA8.out.lt
              have hgab := HGA.out
              have QAr := Lib.hid (show Arr wr ga 3 (nc NA) from (HR.out.old ga hga8 (by omega)).trans QA8.out)
              have hml4 := HML.out
              obtain ⟨i0, hi0⟩ : ∃ i, i = 4 * c := ⟨_, rfl⟩
              have e0 : (4 : Int) * (c : Int) = (i0 : Int) := by omega
              obtain ⟨i2, hi2⟩ : ∃ i, i = i0 + 2 := ⟨_, rfl⟩
              obtain ⟨i1, hi1⟩ : ∃ i, i = i0 + 1 := ⟨_, rfl⟩
              have e1 : (i0 : Int) + 2 = (i2 : Int) := by omega
              have e2 : (i0 : Int) + 1 = (i1 : Int) := by omega
              have hl2 : i2 < M.length := by omega
              have hl1 : i1 < M.length := by omega
              have hl0 : i0 < M.length := by omega
              clear hi0 hi1 hi2
              have ca0 := QAr.out.cell i0
              have ca1 := QAr.out.cell i1
              have ca2 := QAr.out.cell i2
              rw [nc_get (by rw [HNL.out]; exact hl0)] at ca0
              rw [nc_get (by rw [HNL.out]; exact hl1)] at ca1
              rw [nc_get (by rw [HNL.out]; exact hl2)] at ca2
              have hx0 := HAR.out i0 hl0
              have hx1 := HAR.out i1 hl1
              have hx2 := HAR.out i2 hl2
              have hne := HNE.out
              obtain ⟨a, ha⟩ : ∃ a : Int, a = (gn NA i0 : Int) + 1 := ⟨_, rfl⟩
              obtain ⟨oo, ho⟩ : ∃ a : Int, a = (gn NA i1 : Int) + 1 := ⟨_, rfl⟩
              obtain ⟨bb, hb⟩ : ∃ a : Int, a = (gn NA i2 : Int) + 1 := ⟨_, rfl⟩
              have HA := Lib.hid (show 1 ≤ a ∧ a ≤ (n : Int) by omega)
              have HO := Lib.hid (show 1 ≤ oo ∧ oo ≤ (n : Int) by omega)
              have HBb := Lib.hid (show 1 ≤ bb ∧ bb ≤ (n : Int) by omega)
              have n1000 : n ≤ 1000 := by omega
              generalize gn NA i0 = g0 at *
              generalize gn NA i1 = g1 at *
              generalize gn NA i2 = g2 at *
              have ea := ha.symm
              have eo := ho.symm
              have eb := hb.symm
              clear ha ho hb hga8 hgab hml4 hx0 hx1 hx2 hne
              have z5 : (i0 : Int) < (M.length : Int) := by omega
              have z6 : (i1 : Int) < (M.length : Int) := by omega
              have z7 : (i2 : Int) < (M.length : Int) := by omega
              clear hl0 hl1 hl2
              have hsg := HK.out.sg c hlc
              generalize S[c] = σ at *
              go_wp2_with fail
              go_quiet (fail)
              have wa1 : wrap64 a = a := IntWalk.wrap64_in _ (by have := HA.out; omega)
              have wb1 : wrap64 bb = bb := IntWalk.wrap64_in _ (by have := HBb.out; omega)
              have wo1 : wrap64 oo = oo := IntWalk.wrap64_in _ (by have := HO.out; omega)
              rw [wa1, wb1, wo1]
              have HRQ := Lib.hid (HR.out.drewN nq)
              clear HR hcell QAr e0 e1 e2 ca0 ca1 ca2 ea eo eb z5 z6 z7
              generalize wr.drewN nq = wq at *
              have hba := HA.out
              have hbb := HBb.out
              have hbo := HO.out
              rcases hsg with rfl | rfl
              · go_wp2_with (at_builtin; refine wpList_appA rfl elI (.tmp 109) (.tmp 116) 42 42 rfl Tryd.underlying42 Tryd.underlying42 rfl (OwnA.nil 3 1 ei (wq.alloc (.cells #[.int .i64 (-bb), .int .i64 (-oo), .int .i64 a, .int .i64 oo] 3)).heap.size _) rfl (OwnA.sl (e := 3) (OwnA.lit (xs := [-bb, -oo, a, oo]) (fun y _ => rfl) (Nat.le_refl _) (by simp) (by simp))) (by simp) (Nat.le_refl _) ?_; intro v' wA h1 h2 h3 h4; obtain ⟨A9, c9, hv9⟩ := h1.form; subst hv9; have HI9 := Lib.hid (show Ints wA (.slice A9 4 c9) (rel4 (1) a bb oo) from h1.toI.ints); have HBA := Lib.hid (show Below wq.heap.size wq wA from ((Below.refl _ _).alloc (Nat.le_refl _) _).trans (h2.mono (by simp))); clear h1 h2 h3 h4)
                have HRA := Lib.hid (HRQ.out.grow HBA.out HRQ.out.bel.size)
                have HRD := Lib.hid (fun W (hb : Below wA.heap.size wA W) => Reduce_own (.slice A9 4 c9) (rel4 1 a bb oo) W (HI9.out.below hb) (by have h4 : (rel4 1 a bb oo).length = 4 := rfl; omega) (fun x hx => by have := rel4_mem HA.out HBb.out HO.out hx; omega))
                have HREL := Lib.hid (show RelIs n (pshL [] (rel4 1 a bb oo)) from ⟨1, a, bb, oo, HA.out, HBb.out, HO.out, rfl⟩)
                generalize pshL [] (rel4 1 a bb oo) = RR at *
                obtain ⟨vW, ss, wss, hq1, hq2, hq3, hq4, hq5, hq6⟩ := HRA.out.wd
                have yw := hq1.cell 2
                have HQ1 := Lib.hid hq1
                have HQ2 := Lib.hid hq2
                have HQ3 := Lib.hid hq3
                have HQ4 := Lib.hid hq4
                have HQ5 := Lib.hid hq5
                have HQ6 := Lib.hid hq6
                obtain ⟨AW, cW, hvW⟩ := hq4.form
                subst hvW
                clear hq1 hq2 hq3 hq4 hq5 hq6 HI9
                have HGB8 := Lib.hid QGB8.out.lt
                have c0e : c = c := rfl
                clear c0e
                refine wp_region_pap 5 7 (fun i => decide (i = 6)) (by kernel_rfl) (by kernel_rfl) (by kernel_rfl) (by kernel_rfl) (by kernel_rfl) rfl rfl (by decide) (by simp) (by kernel_rfl) (by kernel_rfl) (fun i => ([some (.pointer (some ⟨gb, 2, none⟩)), some (.slice AW ss.length cW), some (.slice A9 4 c9), none, none, none, some (.pointer (some ⟨gb, 2, none⟩)), none] : List (Option Value)).getD i none) (phiT (fun i => ([some (.pointer (some ⟨gb, 2, none⟩)), some (.slice AW ss.length cW), some (.slice A9 4 c9), none, none, none, some (.pointer (some ⟨gb, 2, none⟩)), none] : List (Option Value)).getD i none) (fun i v w => (if i = 3 then (fun v w => ∃ A c, v = .slice A RR.length c ∧ OwnI 3 w8.heap.size w (.slice A RR.length c) RR) v w else (if i = 4 then (fun v w => ∃ A c g, v = .slice (some ⟨g, 0, none⟩) 1 1 ∧ Arr w g 42 [.slice A RR.length c] ∧ OwnI 3 w8.heap.size w (.slice A RR.length c) RR) v w else True)))) (fun i v w w' h hb => ?_) (fun i u v w h he => ?_) (fun x W => ∃ (Ax : Option Addr) (cx kx : Nat), x 5 = .slice Ax kx cx ∧ Arr W gb 41 [.int .i64 (n : Int), .slice (some ⟨gc, 0, none⟩) n n, .slice AW ss.length cW] ∧ WdS n gc gb (w.heap.size + 1) w w8 (c + 1) (W.setCell ⟨gb, 2, none⟩ (.slice Ax kx cx))) (fun _ W => WdS n gc gb (w.heap.size + 1) w w8 (c + 1) W) (fun x w i v hl h => ?_) (fun x w i v hl h => ?_) ⟨?_, ?_, ?_, ?_, ?_, ?_, ?_, ?_, trivial⟩ ?_
                · unfold phiT at h ⊢
                  split
                  · next u hu => rw [hu] at h; exact h
                  · next hu =>
                    rw [hu] at h
                    simp only at h ⊢
                    by_cases q3 : i = 3
                    · rw [if_pos q3] at h ⊢; exact by obtain ⟨A, c, h1, h2⟩ := h; exact ⟨A, c, h1, h2.below hb (Nat.le_refl _)⟩
                    · rw [if_neg q3] at h ⊢
                      by_cases q4 : i = 4
                      · rw [if_pos q4] at h ⊢; exact by obtain ⟨A, c, g, h1, h2, h3⟩ := h; exact ⟨A, c, g, h1, h2.below hb h2.lt, h3.below hb (Nat.le_refl _)⟩
                      · rw [if_neg q4] at h ⊢
                        trivial
                · exact phiT_val h he
                · simp only [Bool.or_eq_true, decide_eq_true_eq, Bool.false_eq_true] at hl
                  rcases hl with rfl
                  · exact by simpa [upd] using h
                · simp only [Bool.or_eq_true, decide_eq_true_eq, Bool.false_eq_true] at hl
                  rcases hl with rfl
                  · exact h
                · intro x w1 bA hold hb
                  refine ⟨fun _ _ _ hbel hdep => ?_, fun h => absurd h (by decide), fun h => absurd h (by decide), fun h => absurd h (by decide)⟩
                  have e6 : bA.tmps[6]?.getD undef = .pointer (some ⟨gb, 0, none⟩) := hb 6
                  refine phi_run (.pointer (some ⟨gb, 2, none⟩)) ?_ rfl
                  clear hb hdep hold
                  go_simp
                · intro x w1 bA hold hb
                  refine ⟨fun _ _ _ hbel hdep => ?_, fun h => absurd h (by decide), fun h => absurd h (by decide), fun h => absurd h (by decide)⟩
                  have e127 : bA.tmps[127]?.getD undef = .pointer (some ⟨gb, 2, none⟩) := (hb 127).trans (hdep 0 (by decide))
                  have cc := (HQ1.out.below hbel HQ1.out.lt).cell 2
                  refine phi_run (.slice AW ss.length cW) ?_ rfl
                  clear hb hdep hold
                  go_simp
                · intro x w1 bA hold hb
                  refine ⟨fun _ _ _ hbel hdep => ?_, fun h => absurd h (by decide), fun h => absurd h (by decide), fun h => absurd h (by decide)⟩
                  have e18 : bA.tmps[18]?.getD undef = .slice A9 4 c9 := hb 18
                  refine phi_run (.slice A9 4 c9) ?_ rfl
                  clear hb hdep hold
                  go_simp
                · intro x w1 bA hold hb
                  refine ⟨fun _ _ _ hbel hdep => ?_, fun h => absurd h (by decide), fun h => absurd h (by decide), fun h => absurd h (by decide)⟩
                  have e129 : bA.tmps[129]?.getD undef = .slice A9 4 c9 := (hb 129).trans (hdep 2 (by decide))
                  refine phi_call ?_ ((HRD.out w1 hbel).mono fun e w' h => (by obtain ⟨v, he, ho, hb'⟩ := h; obtain ⟨A, c, hf⟩ := ho.form; subst hf; exact ⟨_, he, hb', A, c, rfl, ownI_low ho (Nat.le_trans HRA.out.sz hbel.size)⟩))
                  clear hb hdep hold
                  go_simp
                · intro x w1 bA hold hb
                  refine ⟨fun _ _ _ hbel hdep => ?_, fun h => absurd h (by decide), fun h => absurd h (by decide), fun h => absurd h (by decide)⟩
                  have p130 := hdep 3 (by decide)
                  have e130 : bA.tmps[130]?.getD undef = x 3 := hb 130
                  generalize x 3 = x130 at p130 e130
                  have P130 := Lib.hid (show (fun v w => ∃ A c, v = .slice A RR.length c ∧ OwnI 3 w8.heap.size w (.slice A RR.length c) RR) x130 w1 from p130)
                  clear p130
                  obtain ⟨A, c, e130b, ho⟩ := P130.out
                  rw [e130b] at e130
                  have HO1 := Lib.hid ho
                  clear ho e130b P130
                  refine phi_make (.slice (some ⟨w1.heap.size, 0, none⟩) 1 1) (w1.alloc (.cells #[.slice A RR.length c] 42)) ?_ ((Below.refl _ _).alloc (Nat.le_refl _) _) (⟨A, c, w1.heap.size, rfl, Arr.new w1 42 [_], HO1.out.alloc _⟩)
                  clear hb hdep hold
                  go_simp
                · intro x w1 bA hold hb
                  refine ⟨fun _ _ h => absurd rfl h, fun _ hbel hdep => ?_, fun h => absurd h (by decide), fun h => absurd h (by decide)⟩
                  have e128 : bA.tmps[128]?.getD undef = .slice AW ss.length cW := (hb 128).trans (hdep 1 (by decide))
                  have p131 := hdep 4 (by decide)
                  have e131 : bA.tmps[131]?.getD undef = x 4 := hb 131
                  obtain ⟨x131, hx131⟩ : ∃ v, v = x 4 := ⟨_, rfl⟩
                  rw [← hx131] at p131 e131
                  clear hx131
                  have P131 := Lib.hid (show (fun v w => ∃ A c g, v = .slice (some ⟨g, 0, none⟩) 1 1 ∧ Arr w g 42 [.slice A RR.length c] ∧ OwnI 3 w8.heap.size w (.slice A RR.length c) RR) x131 w1 from p131)
                  clear p131
                  clear hb hdep hold
                  obtain ⟨Ay, cy, gy, e131b, ag, ho⟩ := P131.out
                  rw [e131b] at e131
                  clear e131b P131
                  refine pap_app (R1 := fun x W => ∃ (Ax : Option Addr) (cx kx : Nat), x 5 = .slice Ax kx cx ∧ Arr W gb 41 [.int .i64 (n : Int), .slice (some ⟨gc, 0, none⟩) n n, .slice AW ss.length cW] ∧ WdS n gc gb (w.heap.size + 1) w w8 (c + 1) (W.setCell ⟨gb, 2, none⟩ (.slice Ax kx cx))) (α := SVt) (enc := eS) (base := w8.heap.size) (xs := ss) (ys := [(Ay, RR.length, cy)]) elWs (.tmp 128) (.tmp 131) 39 39 rfl Tryd.underlying39 Tryd.underlying39 (by simpa [Act.eval] using e128) (HQ4.out.below hbel) (by simpa [Act.eval] using e131) ⟨_, 1, rfl, Nat.le_refl _, fun j q hq => ?_⟩ (by have := HQ2.out; have := HQ3.out; simp; omega) (Nat.le_trans HRA.out.sz hbel.size) (fun v' w' h1 h2 h3 => ?_) rfl
                  · cases j with
                    | zero => exact ⟨_, _, rfl, (ag.cell 0).trans hq⟩
                    | succ j => simp [eS] at hq
                  · obtain ⟨A2, c2, hv2⟩ := h1.form
                    subst hv2
                    refine ⟨A2, c2, (ss ++ [(Ay, RR.length, cy)]).length, (by rw [upd_same]), (HQ1.out.below hbel HQ1.out.lt).keepE (KeepE.of h3 (HQ4.out.below hbel).typ) (by decide), ?_⟩
                    exact WdS.app (s := (Ay, RR.length, cy)) (ws := RR) (B2 := w.heap.size + 1) (w := w) (by have := HGW.out; omega) HGB8.out (HRA.out.grow hbel HRA.out.bel.size) (HQ1.out.below hbel HQ1.out.lt) HQ2.out HQ3.out (HQ4.out.below hbel) (fun k s ws a b => (HQ5.out k s ws a b).below hbel (Nat.le_refl _)) HQ6.out ho HREL.out h1 h2 h3
                · intro x w1 bA hold hb
                  refine ⟨fun h => absurd h (by decide), fun h => absurd h (by decide), fun h => absurd h (by decide), fun _ hdep => ⟨.pointer (some ⟨gb, 2, none⟩), rfl, ?_, rfl⟩⟩
                  have e6 : bA.tmps[6]?.getD undef = .pointer (some ⟨gb, 0, none⟩) := hb 6
                  clear hb hdep hold
                  go_simp
                · intro x w1 bA hold hb
                  refine ⟨fun _ h => absurd rfl h, fun h => absurd h (by decide), fun _ h1 hdep => ?_, fun h => absurd h (by decide)⟩
                  have e132 : bA.tmps[132]?.getD undef = x 5 := hb 132
                  have e133 : bA.tmps[133]?.getD undef = .pointer (some ⟨gb, 2, none⟩) := (hb 133).trans (hdep 6 (by decide) _ rfl)
                  clear hb hdep hold
                  obtain ⟨Ay, cy, ky, e5, ag, hw⟩ := h1
                  rw [e5] at e132
                  have c2 := ag.cell 2
                  have f2 := ag.frozen 2
                  have HW2 := Lib.hid hw
                  clear ag hw e5
                  refine phl_st (n := 7) (x := x) (R := fun _ W => WdS n gc gb (w.heap.size + 1) w w8 (c + 1) W) (w1.setCell ⟨gb, 2, none⟩ (.slice Ay ky cy)) ?_ rfl (fun v => HW2.out) rfl
                  go_simp
                intro x w1 hR hall
                have x0e : x 0 = .pointer (some ⟨gb, 2, none⟩) := hall 0 _ (by simp) rfl
                have x1e : x 1 = .slice AW ss.length cW := hall 1 _ (by simp) rfl
                have x2e : x 2 = .slice A9 4 c9 := hall 2 _ (by simp) rfl
                have x6e : x 6 = .pointer (some ⟨gb, 2, none⟩) := hall 6 _ (by simp) rfl
                simp only [putAll, dstOf, Act.put, List.map_cons, List.map_nil, List.setIfInBounds_toArray, List.set_cons_succ, List.set_cons_zero, Nat.reduceAdd, x0e, x1e, x2e, x6e]
                clear hall x0e x1e x2e x6e
                have HFF := Lib.hid hR
                clear hR
                go_wp2_with fail
                go_roundg (S.length - (c + 1))
                case measure => omega
                case rel => exact ⟨c + 1, by omega, rfl, by go_num, HFF⟩
              · go_wp2_with (at_builtin; refine wpList_appA rfl elI (.tmp 118) (.tmp 125) 42 42 rfl Tryd.underlying42 Tryd.underlying42 rfl (OwnA.nil 3 1 ei (wq.alloc (.cells #[.int .i64 (-bb), .int .i64 oo, .int .i64 a, .int .i64 (-oo)] 3)).heap.size _) rfl (OwnA.sl (e := 3) (OwnA.lit (xs := [-bb, oo, a, -oo]) (fun y _ => rfl) (Nat.le_refl _) (by simp) (by simp))) (by simp) (Nat.le_refl _) ?_; intro v' wA h1 h2 h3 h4; obtain ⟨A9, c9, hv9⟩ := h1.form; subst hv9; have HI9 := Lib.hid (show Ints wA (.slice A9 4 c9) (rel4 (-1) a bb oo) from h1.toI.ints); have HBA := Lib.hid (show Below wq.heap.size wq wA from ((Below.refl _ _).alloc (Nat.le_refl _) _).trans (h2.mono (by simp))); clear h1 h2 h3 h4)
                have HRA := Lib.hid (HRQ.out.grow HBA.out HRQ.out.bel.size)
                have HRD := Lib.hid (fun W (hb : Below wA.heap.size wA W) => Reduce_own (.slice A9 4 c9) (rel4 (-1) a bb oo) W (HI9.out.below hb) (by have h4 : (rel4 (-1) a bb oo).length = 4 := rfl; omega) (fun x hx => by have := rel4_mem HA.out HBb.out HO.out hx; omega))
                have HREL := Lib.hid (show RelIs n (pshL [] (rel4 (-1) a bb oo)) from ⟨(-1), a, bb, oo, HA.out, HBb.out, HO.out, rfl⟩)
                generalize pshL [] (rel4 (-1) a bb oo) = RR at *
                obtain ⟨vW, ss, wss, hq1, hq2, hq3, hq4, hq5, hq6⟩ := HRA.out.wd
                have yw := hq1.cell 2
                have HQ1 := Lib.hid hq1
                have HQ2 := Lib.hid hq2
                have HQ3 := Lib.hid hq3
                have HQ4 := Lib.hid hq4
                have HQ5 := Lib.hid hq5
                have HQ6 := Lib.hid hq6
                obtain ⟨AW, cW, hvW⟩ := hq4.form
                subst hvW
                clear hq1 hq2 hq3 hq4 hq5 hq6 HI9
                have HGB8 := Lib.hid QGB8.out.lt
                have c0e : c = c := rfl
                clear c0e
                refine wp_region_pap 5 7 (fun i => decide (i = 6)) (by kernel_rfl) (by kernel_rfl) (by kernel_rfl) (by kernel_rfl) (by kernel_rfl) rfl rfl (by decide) (by simp) (by kernel_rfl) (by kernel_rfl) (fun i => ([some (.pointer (some ⟨gb, 2, none⟩)), some (.slice AW ss.length cW), some (.slice A9 4 c9), none, none, none, some (.pointer (some ⟨gb, 2, none⟩)), none] : List (Option Value)).getD i none) (phiT (fun i => ([some (.pointer (some ⟨gb, 2, none⟩)), some (.slice AW ss.length cW), some (.slice A9 4 c9), none, none, none, some (.pointer (some ⟨gb, 2, none⟩)), none] : List (Option Value)).getD i none) (fun i v w => (if i = 3 then (fun v w => ∃ A c, v = .slice A RR.length c ∧ OwnI 3 w8.heap.size w (.slice A RR.length c) RR) v w else (if i = 4 then (fun v w => ∃ A c g, v = .slice (some ⟨g, 0, none⟩) 1 1 ∧ Arr w g 42 [.slice A RR.length c] ∧ OwnI 3 w8.heap.size w (.slice A RR.length c) RR) v w else True)))) (fun i v w w' h hb => ?_) (fun i u v w h he => ?_) (fun x W => ∃ (Ax : Option Addr) (cx kx : Nat), x 5 = .slice Ax kx cx ∧ Arr W gb 41 [.int .i64 (n : Int), .slice (some ⟨gc, 0, none⟩) n n, .slice AW ss.length cW] ∧ WdS n gc gb (w.heap.size + 1) w w8 (c + 1) (W.setCell ⟨gb, 2, none⟩ (.slice Ax kx cx))) (fun _ W => WdS n gc gb (w.heap.size + 1) w w8 (c + 1) W) (fun x w i v hl h => ?_) (fun x w i v hl h => ?_) ⟨?_, ?_, ?_, ?_, ?_, ?_, ?_, ?_, trivial⟩ ?_
                · unfold phiT at h ⊢
                  split
                  · next u hu => rw [hu] at h; exact h
                  · next hu =>
                    rw [hu] at h
                    simp only at h ⊢
                    by_cases q3 : i = 3
                    · rw [if_pos q3] at h ⊢; exact by obtain ⟨A, c, h1, h2⟩ := h; exact ⟨A, c, h1, h2.below hb (Nat.le_refl _)⟩
                    · rw [if_neg q3] at h ⊢
                      by_cases q4 : i = 4
                      · rw [if_pos q4] at h ⊢; exact by obtain ⟨A, c, g, h1, h2, h3⟩ := h; exact ⟨A, c, g, h1, h2.below hb h2.lt, h3.below hb (Nat.le_refl _)⟩
                      · rw [if_neg q4] at h ⊢
                        trivial
                · exact phiT_val h he
                · simp only [Bool.or_eq_true, decide_eq_true_eq, Bool.false_eq_true] at hl
                  rcases hl with rfl
                  · exact by simpa [upd] using h
                · simp only [Bool.or_eq_true, decide_eq_true_eq, Bool.false_eq_true] at hl
                  rcases hl with rfl
                  · exact h
                · intro x w1 bA hold hb
                  refine ⟨fun _ _ _ hbel hdep => ?_, fun h => absurd h (by decide), fun h => absurd h (by decide), fun h => absurd h (by decide)⟩
                  have e6 : bA.tmps[6]?.getD undef = .pointer (some ⟨gb, 0, none⟩) := hb 6
                  refine phi_run (.pointer (some ⟨gb, 2, none⟩)) ?_ rfl
                  clear hb hdep hold
                  go_simp
                · intro x w1 bA hold hb
                  refine ⟨fun _ _ _ hbel hdep => ?_, fun h => absurd h (by decide), fun h => absurd h (by decide), fun h => absurd h (by decide)⟩
                  have e127 : bA.tmps[127]?.getD undef = .pointer (some ⟨gb, 2, none⟩) := (hb 127).trans (hdep 0 (by decide))
                  have cc := (HQ1.out.below hbel HQ1.out.lt).cell 2
                  refine phi_run (.slice AW ss.length cW) ?_ rfl
                  clear hb hdep hold
                  go_simp
                · intro x w1 bA hold hb
                  refine ⟨fun _ _ _ hbel hdep => ?_, fun h => absurd h (by decide), fun h => absurd h (by decide), fun h => absurd h (by decide)⟩
                  have e18 : bA.tmps[18]?.getD undef = .slice A9 4 c9 := hb 18
                  refine phi_run (.slice A9 4 c9) ?_ rfl
                  clear hb hdep hold
                  go_simp
                · intro x w1 bA hold hb
                  refine ⟨fun _ _ _ hbel hdep => ?_, fun h => absurd h (by decide), fun h => absurd h (by decide), fun h => absurd h (by decide)⟩
                  have e129 : bA.tmps[129]?.getD undef = .slice A9 4 c9 := (hb 129).trans (hdep 2 (by decide))
                  refine phi_call ?_ ((HRD.out w1 hbel).mono fun e w' h => (by obtain ⟨v, he, ho, hb'⟩ := h; obtain ⟨A, c, hf⟩ := ho.form; subst hf; exact ⟨_, he, hb', A, c, rfl, ownI_low ho (Nat.le_trans HRA.out.sz hbel.size)⟩))
                  clear hb hdep hold
                  go_simp
                · intro x w1 bA hold hb
                  refine ⟨fun _ _ _ hbel hdep => ?_, fun h => absurd h (by decide), fun h => absurd h (by decide), fun h => absurd h (by decide)⟩
                  have p130 := hdep 3 (by decide)
                  have e130 : bA.tmps[130]?.getD undef = x 3 := hb 130
                  generalize x 3 = x130 at p130 e130
                  have P130 := Lib.hid (show (fun v w => ∃ A c, v = .slice A RR.length c ∧ OwnI 3 w8.heap.size w (.slice A RR.length c) RR) x130 w1 from p130)
                  clear p130
                  obtain ⟨A, c, e130b, ho⟩ := P130.out
                  rw [e130b] at e130
                  have HO1 := Lib.hid ho
                  clear ho e130b P130
                  refine phi_make (.slice (some ⟨w1.heap.size, 0, none⟩) 1 1) (w1.alloc (.cells #[.slice A RR.length c] 42)) ?_ ((Below.refl _ _).alloc (Nat.le_refl _) _) (⟨A, c, w1.heap.size, rfl, Arr.new w1 42 [_], HO1.out.alloc _⟩)
                  clear hb hdep hold
                  go_simp
                · intro x w1 bA hold hb
                  refine ⟨fun _ _ h => absurd rfl h, fun _ hbel hdep => ?_, fun h => absurd h (by decide), fun h => absurd h (by decide)⟩
                  have e128 : bA.tmps[128]?.getD undef = .slice AW ss.length cW := (hb 128).trans (hdep 1 (by decide))
                  have p131 := hdep 4 (by decide)
                  have e131 : bA.tmps[131]?.getD undef = x 4 := hb 131
                  obtain ⟨x131, hx131⟩ : ∃ v, v = x 4 := ⟨_, rfl⟩
                  rw [← hx131] at p131 e131
                  clear hx131
                  have P131 := Lib.hid (show (fun v w => ∃ A c g, v = .slice (some ⟨g, 0, none⟩) 1 1 ∧ Arr w g 42 [.slice A RR.length c] ∧ OwnI 3 w8.heap.size w (.slice A RR.length c) RR) x131 w1 from p131)
                  clear p131
                  clear hb hdep hold
                  obtain ⟨Ay, cy, gy, e131b, ag, ho⟩ := P131.out
                  rw [e131b] at e131
                  clear e131b P131
                  refine pap_app (R1 := fun x W => ∃ (Ax : Option Addr) (cx kx : Nat), x 5 = .slice Ax kx cx ∧ Arr W gb 41 [.int .i64 (n : Int), .slice (some ⟨gc, 0, none⟩) n n, .slice AW ss.length cW] ∧ WdS n gc gb (w.heap.size + 1) w w8 (c + 1) (W.setCell ⟨gb, 2, none⟩ (.slice Ax kx cx))) (α := SVt) (enc := eS) (base := w8.heap.size) (xs := ss) (ys := [(Ay, RR.length, cy)]) elWs (.tmp 128) (.tmp 131) 39 39 rfl Tryd.underlying39 Tryd.underlying39 (by simpa [Act.eval] using e128) (HQ4.out.below hbel) (by simpa [Act.eval] using e131) ⟨_, 1, rfl, Nat.le_refl _, fun j q hq => ?_⟩ (by have := HQ2.out; have := HQ3.out; simp; omega) (Nat.le_trans HRA.out.sz hbel.size) (fun v' w' h1 h2 h3 => ?_) rfl
                  · cases j with
                    | zero => exact ⟨_, _, rfl, (ag.cell 0).trans hq⟩
                    | succ j => simp [eS] at hq
                  · obtain ⟨A2, c2, hv2⟩ := h1.form
                    subst hv2
                    refine ⟨A2, c2, (ss ++ [(Ay, RR.length, cy)]).length, (by rw [upd_same]), (HQ1.out.below hbel HQ1.out.lt).keepE (KeepE.of h3 (HQ4.out.below hbel).typ) (by decide), ?_⟩
                    exact WdS.app (s := (Ay, RR.length, cy)) (ws := RR) (B2 := w.heap.size + 1) (w := w) (by have := HGW.out; omega) HGB8.out (HRA.out.grow hbel HRA.out.bel.size) (HQ1.out.below hbel HQ1.out.lt) HQ2.out HQ3.out (HQ4.out.below hbel) (fun k s ws a b => (HQ5.out k s ws a b).below hbel (Nat.le_refl _)) HQ6.out ho HREL.out h1 h2 h3
                · intro x w1 bA hold hb
                  refine ⟨fun h => absurd h (by decide), fun h => absurd h (by decide), fun h => absurd h (by decide), fun _ hdep => ⟨.pointer (some ⟨gb, 2, none⟩), rfl, ?_, rfl⟩⟩
                  have e6 : bA.tmps[6]?.getD undef = .pointer (some ⟨gb, 0, none⟩) := hb 6
                  clear hb hdep hold
                  go_simp
                · intro x w1 bA hold hb
                  refine ⟨fun _ h => absurd rfl h, fun h => absurd h (by decide), fun _ h1 hdep => ?_, fun h => absurd h (by decide)⟩
                  have e132 : bA.tmps[132]?.getD undef = x 5 := hb 132
                  have e133 : bA.tmps[133]?.getD undef = .pointer (some ⟨gb, 2, none⟩) := (hb 133).trans (hdep 6 (by decide) _ rfl)
                  clear hb hdep hold
                  obtain ⟨Ay, cy, ky, e5, ag, hw⟩ := h1
                  rw [e5] at e132
                  have c2 := ag.cell 2
                  have f2 := ag.frozen 2
                  have HW2 := Lib.hid hw
                  clear ag hw e5
                  refine phl_st (n := 7) (x := x) (R := fun _ W => WdS n gc gb (w.heap.size + 1) w w8 (c + 1) W) (w1.setCell ⟨gb, 2, none⟩ (.slice Ay ky cy)) ?_ rfl (fun v => HW2.out) rfl
                  go_simp
                intro x w1 hR hall
                have x0e : x 0 = .pointer (some ⟨gb, 2, none⟩) := hall 0 _ (by simp) rfl
                have x1e : x 1 = .slice AW ss.length cW := hall 1 _ (by simp) rfl
                have x2e : x 2 = .slice A9 4 c9 := hall 2 _ (by simp) rfl
                have x6e : x 6 = .pointer (some ⟨gb, 2, none⟩) := hall 6 _ (by simp) rfl
                simp only [putAll, dstOf, Act.put, List.map_cons, List.map_nil, List.setIfInBounds_toArray, List.set_cons_succ, List.set_cons_zero, Nat.reduceAdd, x0e, x1e, x2e, x6e]
                clear hall x0e x1e x2e x6e
                have HFF := Lib.hid hR
                clear hR
                go_wp2_with fail
                go_roundg (S.length - (c + 1))
                case measure => omega
                case rel => exact ⟨c + 1, by omega, rfl, by go_num, HFF⟩
            · have z1 : ¬ (c : Int) < (S.length : Int) := by omega
              obtain ⟨vW, ss, wss, hq1, hq2, hq3, hq4, hq5, hq6⟩ := HR.out.wd
              have hgw := HGW.out
              have rr := (show Arr wr (w.heap.size + 1) 41 [.int .i64 0, .slice none 0 0, .slice none 0 0] from (HR.out.old _ R8.out.lt (by omega)).trans R8.out)
              obtain ⟨cs, hcs, hcl, hcb⟩ := HCM8.out
              have HCA := Lib.hid (show Arr wr gc 3 (cs.map (Value.int .i64)) from (HR.out.old _ hcs.lt HNB.out).trans hcs)
              have HCL := Lib.hid hcl
              have HCB := Lib.hid hcb
              have HQ1 := Lib.hid hq1
              have HQ2 := Lib.hid hq2
              have HQ3 := Lib.hid hq3
              have HQ4 := Lib.hid hq4
              have HQ5 := Lib.hid hq5
              have HQ6 := Lib.hid hq6
              obtain ⟨AW, cW, hvW⟩ := hq4.form
              subst hvW
              have c0 := HQ1.out.cell 0
              have c1' := HQ1.out.cell 1
              have c2' := HQ1.out.cell 2
              have x0 := rr.cell 0
              have x1 := rr.cell 1
              have x2 := rr.cell 2
              have f0 := rr.frozen 0
              have f1 := rr.frozen 1
              have f2 := rr.frozen 2
              have HRES := Lib.hid (((rr.set 0 (.int .i64 (n : Int))).set 1 (.slice (some ⟨gc, 0, none⟩) n n)).set 2 (.slice AW ss.length cW))
              have HKE := Lib.hid (show KeepE 41 wr (((wr.setCell ⟨w.heap.size + 1, 0, none⟩ (.int .i64 (n : Int))).setCell ⟨w.heap.size + 1, 1, none⟩ (.slice (some ⟨gc, 0, none⟩) n n)).setCell ⟨w.heap.size + 1, 2, none⟩ (.slice AW ss.length cW)) from ((KeepE.set rr _).trans (KeepE.set (rr.set 0 _) _)).trans (KeepE.set ((rr.set 0 _).set 1 _) _))
              have HBF := Lib.hid (((HR.out.bel.setCell (p := ⟨w.heap.size + 1, 0, none⟩) (by simp) (.int .i64 (n : Int))).setCell (p := ⟨w.heap.size + 1, 1, none⟩) (by simp) (.slice (some ⟨gc, 0, none⟩) n n)).setCell (p := ⟨w.heap.size + 1, 2, none⟩) (by simp) (.slice AW ss.length cW))
              clear rr hcs hcl hcb hq1 hq2 hq3 hq4 hq5 hq6 hgw
              go_wp2_with fail
              refine bodyPost_ret (v := .tuple #[.agg #[.int .i64 (n : Int), .slice (some ⟨gc, 0, none⟩) n n, .slice AW ss.length cW], .int .i64 0]) (results_ct Tryd.results30 _ _ (w.heap.size + 1) 41 _ _ rfl HRES.out Tryd.underlying41 rfl info_grp) rfl ?_
              refine ⟨_, rfl, ⟨n, _, _, cs, wss, rfl, fun W hkw => ⟨((HCA.out.keepE HKE.out (by decide)).keepE hkw (by decide)).ints HCL.out, Wds.of_own HQ2.out ((HQ4.out.keepE HKE.out (by decide)).keepE hkw (by decide)) (fun k s ws a b => ((HQ5.out k s ws a b).keepE HKE.out (by decide)).keepE hkw (by decide))⟩, vldG_rel (by have := HNE.out; omega) HCL.out HCB.out HQ6.out, by have := HQ3.out; omega, HQ6.out⟩, HBF.out⟩
end Go.Proofs.YtlbihllmpbhhcaaDoor
