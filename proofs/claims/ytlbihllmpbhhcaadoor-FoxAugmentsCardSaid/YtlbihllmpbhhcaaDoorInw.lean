/- word.Inverse. -/
import Derived.Test.YtlbihllmpbhhcaaDoorBwd
namespace Go.Proofs.YtlbihllmpbhhcaaDoor
open Go.RowKit Go.Shelf
set_option linter.unusedVariables false
attribute [local go_sem] Oper.semAt_some

theorem invW_eq (ws : List Int) : invW ws = ws.reverse.map fun x => -x := by unfold invW; rw [List.map_reverse]
def negS (pre : List (Int × Bd)) : List Int := pre.map fun x => -x.2.1
theorem negS_all {ys : List (Int × Bd)} {zs : List Int} (h : ys.map (·.2.1) = zs.reverse) : negS ys = invW zs := by
  rw [invW_eq, ← h]; unfold negS; simp
theorem negS_snoc (pre : List (Int × Bd)) (x : Int × Bd) : negS (pre ++ [x]) = negS pre ++ [-x.2.1] := by unfold negS; simp
def Ibox (n₀ B : Nat) (R : List Int) (W : World) : Prop := ∃ v, Boxed W B 42 v ∧ W.ownsRow n₀ 3 1 v R.length (R.map (Value.int .i64)) ∧ True
theorem KB.step {n₀ Bs M : Nat} {w0 W W' : World} {row : Option Nat} (h : KB n₀ Bs w0 W) (hg : W.grownBy W' row) (hr : ∀ r, row = some r → M ≤ r) (hn : n₀ ≤ w0.heap.size) (hM : n₀ ≤ M) (hB : Bs < M) (hBw : Bs < w0.heap.size) : KB n₀ Bs w0 W' :=
  ⟨h.1.grown hg (Nat.le_trans hn h.1.size) (fun k e => Nat.le_trans hM (hr k e)), (hg.block Bs (Nat.lt_of_lt_of_le hBw h.1.size) (fun e => by have := hr Bs e.symm; omega)).trans h.2⟩
theorem Ibox.from (n₀ B Bs M : Nat) (w0 : World) (R : List (Int × Bd) → List Int) (hM : n₀ ≤ M) (hn : n₀ ≤ w0.heap.size) (hB : Bs < M) (hBw : Bs < w0.heap.size) : OwnFrom M (fun pre W => Ibox n₀ B (R pre) W ∧ KB n₀ Bs w0 W) :=
  OwnFrom.and (Own.from (holdsRow_own n₀ B 42 3 1 (fun pre => (R pre).length) (fun pre => (R pre).map (Value.int .i64)) (fun _ _ => True)) M)
    (fun s W W' row hs hg hr => KB.step hs hg (fun r e => (hr r e).1) hn hM hB hBw)
/-- blocks that are no integers of the slice's own -/
theorem PSt.keepO {base : Nat} {v v' : Value} {w W : World} {s s' : List Int} (h : PSt base v w v' s' W) (ho : OwnI 3 base w v s) {g : Nat} {o : Obj} (hg : w.heap[g]? = some o) (hne : ∀ cur, o ≠ .cells cur 3 (0, 0)) : W.heap[g]? = some o := by
  have hlt : g < w.heap.size := (Array.getElem?_eq_some_iff.1 hg).1
  rw [h.kx g hlt fun e => ?_]
  · exact hg
  · rcases ho.2 with ⟨rfl, _⟩ | ⟨k, cap, cur, rfl, _, hh, _⟩
    · simp [Value.ownBlock] at e
    · simp [Value.ownBlock] at e
      subst e
      rw [hg] at hh
      injection hh with hh
      exact hne _ hh
theorem Boxed.neInt {t : TypeId} (ht : t ≠ 3) (v : Value) (cur : Array Value) : Obj.cells #[v] t (0, 0) ≠ .cells cur 3 (0, 0) := fun e => by
  injection e with _ e2
  exact ht e2
theorem pushed_one (base : Nat) (v : Value) (R : List Int) (y : Int) (hy : -1000000000 ≤ y ∧ y ≤ 1000000000) (W : World) (ho : OwnI 3 base W v R) (hb : base ≤ W.heap.size) (hl : R.length ≤ 100000) :
    Calls Tryd.prog 44 #[v, .slice (some ⟨W.heap.size, 0, none⟩) 1 1] (W.alloc (.cells #[.int .i64 y] 3)) fun e w' => ∃ A c, e = .returned (.slice A (psh R y).length c) ∧ PSt base v (W.alloc (.cells #[.int .i64 y] 3)) (.slice A (psh R y).length c) (psh R y) w' := by
  refine (push_any base v (.slice (some ⟨W.heap.size, 0, none⟩) 1 1) R [y] _ (ho.alloc _) (fun W' hk => ?_) (by simp; omega) (by simp; omega) (fun x hx => by simp at hx; subst hx; exact hy)).mono ?_
  · have h1 : Arr W' W.heap.size 3 [.int .i64 y] := (hk W.heap.size (by simp) (fun e => by
      rcases ho.2 with ⟨rfl, _⟩ | ⟨k, cap, cur, rfl, _, hh, _⟩
      · simp [Value.ownBlock] at e
      · simp [Value.ownBlock] at e
        subst e
        have := (Array.getElem?_eq_some_iff.1 hh).1
        omega)).trans (heap_alloc_new W _)
    exact Ints.of_arr (xs := [y]) h1
  · rintro e w' ⟨v', rfl, hst⟩
    obtain ⟨A, c, rfl⟩ := hst.own.form
    exact ⟨A, c, rfl, hst⟩
theorem OwnI.farZ {e : TypeId} {base : Nat} {w : World} {v : Value} {xs : List Int} {p : Addr} (h : OwnI e base w v xs) (hg : v.ownBlock ≠ some p.block) (u : Value) : OwnI e base (w.setCell p u) v xs := by
  refine ⟨h.1, ?_⟩
  rcases h.2 with h0 | ⟨g, cap, cur, rfl, h1, hh, r⟩
  · exact .inl h0
  · exact .inr ⟨g, cap, cur, rfl, h1, (Below.heap_setCell w p u g (fun e => hg (by rw [← e]; rfl))).trans hh, r⟩
set_option maxRecDepth 100000 in
set_option maxHeartbeats 4000000 in
theorem inverse_in (F : Fence) (n : Nat) (h3 : F.fn 19) (h5 : F.fn 43) (h7 : F.fn 69) (hpf : F.fn 44) (hpu : ∀ l args w R, Calls Tryd.prog 44 args w R → CallsIn (F.inRound l) (n - 1 - 1 - 1) Tryd.prog 44 args w R) (hro : F.round = none) (hn : 5 ≤ n) (a : Option Addr) (len cap : Nat) (zs : List Int) (w : World) (hI : Ints w (.slice a len cap) zs) (hlen : len = zs.length) (hl : len ≤ 10000) (hzb : ∀ x ∈ zs, -1000000000 ≤ x ∧ x ≤ 1000000000) :
    CallsIn F n Tryd.prog 19 #[.slice a len cap] w fun e W' => ∃ v, e = .returned v ∧ OwnI 3 w.heap.size W' v (pshL [] (invW zs)) ∧ Below w.heap.size w W' := by
  have h1 : 1 ≤ n := by omega
  obtain ⟨cs, hmk, hcs⟩ := run_make_word len (by omega) w
  have HI := Lib.hid hI
  have HL := Lib.hid hlen
  have HZB := Lib.hid hzb
  have HPU := Lib.hid hpu
  clear hI hlen hzb hpu
  refine callsIn_of_wp_marks Tryd.func19 rfl h3 ?_ hro
  simp only [Tryd.ntmps19, List.size_toArray, List.length_cons, List.length_nil, Nat.reduceAdd, Nat.reduceSub, Array.replicate_succ, Array.replicate_zero, List.push_toArray, List.append_toArray, List.nil_append, List.cons_append]
  gi_wp2_with (gi_at_call 43; refine (bwd_in F (n - 1) h5 hro _ _ _ _).mono ?_; rintro e w' ⟨rfl, rfl⟩)
  clear hmk
  have hW : ∀ w3, w3 = (((w.alloc (.cells cs 3)).alloc (.cells #[.slice (some ⟨w.heap.size, 0, none⟩) 0 len] 42)).alloc (.cells #[.slice a len cap] 42)) → Boxed w3 (w.heap.size + 1) 42 (.slice (some ⟨w.heap.size, 0, none⟩) 0 len) ∧ Boxed w3 (w.heap.size + 1 + 1) 42 (.slice a len cap) ∧ OwnI 3 w.heap.size w3 (.slice (some ⟨w.heap.size, 0, none⟩) 0 len) [] ∧ Below w.heap.size w w3 ∧ w3.heap.size = w.heap.size + 3 := by
    rintro w3 rfl
    have bI := Boxed.new (w.alloc (.cells cs 3)) 42 (.slice (some ⟨w.heap.size, 0, none⟩) 0 len)
    have bB := Boxed.new ((w.alloc (.cells cs 3)).alloc (.cells #[.slice (some ⟨w.heap.size, 0, none⟩) 0 len] 42)) 42 (.slice a len cap)
    rw [World.size_alloc] at bI bB
    rw [World.size_alloc] at bB
    exact ⟨bI.alloc _, bB, ((OwnI.made (Nat.le_refl _) (by omega) hcs).alloc _).alloc _, (((Below.refl _ w).alloc (Nat.le_refl _) _).alloc (by simp) _).alloc (by simp; omega) _, by simp⟩
  generalize (((w.alloc (.cells cs 3)).alloc (.cells #[.slice (some ⟨w.heap.size, 0, none⟩) 0 len] 42)).alloc (.cells #[.slice a len cap] 42)) = w3 at hW ⊢
  obtain ⟨bI, bB, hown, hB3, hs3⟩ := hW w3 rfl
  clear hW
  have HBB := Lib.hid bB
  refine wpIn_rangeFunc_ownG hro h1 (gf := 69) (lb := #[.pointer (some ⟨w.heap.size + 1 + 1, 0, none⟩)]) rfl h7 (enters_of Tryd.func69 (by kernel_rfl) rfl)
    (bwd_stops F (n - 1) h7 hro (by omega) (w.heap.size + 1 + 1) w.heap.size (.slice a len cap) zs HZB.out (by have := HL.out; omega) w3 (by omega) (by omega) bB.cell (HI.out.below hB3) (fun W hb => HI.out.below (hB3.trans hb)) (fun b o n' c' e hz => by
      obtain ⟨b', o', ⟨c'', e'⟩, hlt, _⟩ := ints_atZ HI.out hz
      rw [e'] at e
      injection e with e1 _ _
      injection e1 with e1
      injection e1 with e1 _
      subst e1
      exact hlt)) (fun h k => h.trans k) (fun W l o o' hl ho hc hw => ⟨belowK_b (w := w3) (by omega) W l o o' hl ho hc hw, World.putObj_heap_other (by omega)⟩) (Below.refl _ _) (fun _ => rfl)
    (fun pre W => Ibox w.heap.size (w.heap.size + 1) (pshL [] (negS pre)) W ∧ KB w.heap.size (w.heap.size + 1 + 1) w3 W)
    (fun _ _ _ => False)
    (Ibox.from w.heap.size (w.heap.size + 1) (w.heap.size + 1 + 1) w3.heap.size w3 _ (by omega) (by omega) (by omega) (by omega))
    (fun _ _ _ _ _ hs _ _ => hs)
    ⟨⟨_, bI, hown, trivial⟩, KB.refl _ _ _⟩
    (fun x => { tmps := #[.slice a len cap, undef, .slice none 0 0, .pointer (some ⟨w.heap.size + 1, 0, none⟩), undef, .int .i64 x.2.1, .slice a len cap, .int .i64 (len : Int), .slice (some ⟨w.heap.size, 0, none⟩) 0 len, .slice a len cap, .func (.func 69) #[] #[.pointer (some ⟨w.heap.size + 1 + 1, 0, none⟩)], .int .i64 x.1, .int .i64 x.2.1, undef, undef, undef, undef, undef, undef], defers := [] }) ?assign ?body ?done ?stop
  case assign =>
    intro l x W K hK
    gi_wp2
    exact hK
  case body =>
    rintro l pre ⟨x1, x, hx⟩ W ⟨⟨v, hv, hr, _⟩, hkb⟩ hlp
    have hy0 := hv.cell
    have hown' : OwnI 3 w.heap.size W v (pshL [] (negS pre)) := hr
    have hsz : w3.heap.size ≤ W.heap.size := hkb.1.size
    have hRl : (pshL [] (negS pre)).length ≤ 100000 := by
      have h2 := pshL_len (negS pre) []
      have h3 : (negS pre).length = pre.length := by unfold negS; simp
      have h4 := HL.out
      simp at h2; omega
    have HP := Lib.hid (pushed_one w.heap.size v (pshL [] (negS pre)) (-x) (by omega) W hown' (by omega) hRl)
    have HPS := Lib.hid (show pshL [] (negS (pre ++ [(x1, ⟨x, hx⟩)])) = psh (pshL [] (negS pre)) (-x) from by rw [negS_snoc, pshL_snoc])
    have HO := Lib.hid hown'
    have HV := Lib.hid hv
    have HK := Lib.hid hkb
    clear hr hown' hkb hlp
    have hn2 : 1 ≤ n - 1 - 1 := by omega
    dsimp only
    gi_wp2_with (gi_at_call 44; refine (HPU.out l _ _ _ HP.out).mono ?_; rintro e w4 ⟨A4, c4, rfl, hst⟩; have hbx : Boxed w4 (w.heap.size + 1) 42 v := hst.keepO (HO.out.alloc _) (HV.out.alloc _) (Boxed.neInt (by decide) _); have hy4 := hbx.cell; have hf4 := hbx.frozen)
    have hbb : w4.heap[w.heap.size + 1 + 1]? = W.heap[w.heap.size + 1 + 1]? := by
      have h0 : W.heap[w.heap.size + 1 + 1]? = some (.cells #[.slice a len cap] 42 (0, 0)) := HK.out.2.trans HBB.out
      rw [h0]
      exact hst.keepO (HO.out.alloc _) ((Below.heap_alloc _ _ _ (by omega)).trans h0) (Boxed.neInt (by decide) _)
    have hbw : Below w.heap.size W w4 := ((Below.refl _ W).alloc (by omega) _).trans hst.bel
    have hkf : KeepsFrom w3.heap.size W w4 := ⟨hbw.size, fun k o hk ho hc => hst.keepO (HO.out.alloc _) ((Below.heap_alloc _ _ _ (Array.getElem?_eq_some_iff.1 ho).1).trans ho) (fun cur e => by subst e; cases hc)⟩
    have hst2 : Ibox w.heap.size (w.heap.size + 1) (pshL [] (negS (pre ++ [(x1, ⟨x, hx⟩)]))) (w4.setCell ⟨w.heap.size + 1, 0, none⟩ (.slice A4 (psh (pshL [] (negS pre)) (-x)).length c4)) := by
      rw [HPS.out]
      exact ⟨_, hbx.set _, OwnI.farZ hst.own (by
        intro e
        rcases hst.own.2 with ⟨h1, _⟩ | ⟨k, cp, cur, h1, _, hh, _⟩
        · rw [h1] at e; cases e
        · rw [h1] at e
          simp [Value.ownBlock] at e
          subst e
          have h9 : w4.heap[w.heap.size + 1]? = _ := hbx
          rw [h9] at hh
          injection hh with hh
          exact Boxed.neInt (by decide) _ _ hh) _, trivial⟩
    have hkb2 : KB w.heap.size (w.heap.size + 1 + 1) W (w4.setCell ⟨w.heap.size + 1, 0, none⟩ (.slice A4 (psh (pshL [] (negS pre)) (-x)).length c4)) := ⟨hbw.setCell (p := ⟨w.heap.size + 1, 0, none⟩) (by simp) _, (Below.heap_setCell _ _ _ _ (by simp)).trans hbb⟩
    exact ⟨hkf.trans ((KeepsOthers.setCell _ _ _).from _), hkb2, hst2, HK.out.trans hkb2⟩
  case done =>
    rintro D ys W hD hys ⟨⟨v, hv, hr, _⟩, hkb⟩ hK
    have hy0 := hv.cell
    gi_wp2
    refine ⟨by simp, .inl ⟨_, _, rfl, run_takeDeferred hK, ?_⟩⟩
    have hr' := ownsRow_putObj hr (.deferred none) hK rfl
    refine ⟨_, results_tmp rfl _ _ _, _, rfl, ?_, hB3.trans (hkb.1.trans (belowK_b (w := w3) (by omega) W D _ _ (by omega) hK rfl rfl))⟩
    rw [negS_all hys] at hr'
    exact hr'
  case stop =>
    rintro D c pre W _ _ h _
    exact h.elim
theorem Inverse_any (vw : Value) (ws : List Int) (w : World) (hw : Ints w vw ws) (hl : ws.length ≤ 10000) (hx : ∀ x ∈ ws, -1000000000 ≤ x ∧ x ≤ 1000000000) :
    Calls Tryd.prog 19 #[vw] w fun e w' => ∃ v', e = .returned v' ∧ OwnI 3 w.heap.size w' v' (pshL [] (invW ws)) ∧ Below w.heap.size w w' := by
  have h0 := hw
  obtain ⟨A, c, rfl, _⟩ := hw
  exact (callsIn_wide (n := 5)).1 (inverse_in Fence.wide 5 trivial trivial trivial trivial (fun l args w R h => CallsIn.inRound l (callsIn_wide.2 h)) rfl (by decide) A ws.length c ws w h0 rfl hl hx)
end Go.Proofs.YtlbihllmpbhhcaaDoor
