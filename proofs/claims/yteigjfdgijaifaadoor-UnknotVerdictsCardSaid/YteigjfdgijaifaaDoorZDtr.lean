/- package unknot: Decide. -/
/- Sums of integers (plain). -/
/- Determinants: expansion along the first column; rows are functions (plain). -/
/- Determinants: bounds, triangles, combinations of rows (plain). -/
/- The determinant of the transpose (plain). -/
import Derived.Test.YteigjfdgijaifaaDoorZExp
import Derived.Test.YteigjfdgijaifaaDoorZPlr
namespace Go.Proofs.YteigjfdgijaifaaDoor
open Go.RowKit Go.Shelf
set_option linter.unusedVariables false

theorem alg_path {g0 : Gd} {K : List En} {A : List Gd} (h : Alg g0 K A) : ∀ (n i : Nat) (e : En) (a : Gd), i < n → K[i]? = some e → A[i]? = some a → ∃ L, PathK K (some e.key) L ∧ L.length ≤ i + 1 ∧ L.flatten.length ≤ 2 * (i + 1) ∧ Pls g0 L.reverse.flatten a
  | 0, i, e, a, hi, _, _ => by omega
  | n + 1, i, e, a, hi, hK, hA => by
    obtain ⟨hv, hk, hf⟩ := h.2 i e a hK hA
    have hm := List.mem_of_getElem? hK
    rcases hf with ⟨h1, h2, h3⟩ | ⟨j, b, e', hj, k1, k2, k3, k4⟩
    · refine ⟨[e.ms], .cons hm (by rw [h1]; exact .nil), by simp, by simp [h2], ?_⟩
      simp [h2, h3]
      exact .nil g0
    · obtain ⟨L, l1, l2, l3, l4⟩ := alg_path h n j e' b (by omega) k1 k2
      have hvb := (h.2 j e' b k1 k2).1
      obtain ⟨p1, p2⟩ := nbrs_pls hvb k4
      refine ⟨e.ms :: L, .cons hm (by rw [k3]; exact l1), by simp; omega, by simp at l3 ⊢; omega, ?_⟩
      rw [List.reverse_cons, List.flatten_append]
      simp
      have := l4.app p1
      simpa using this
theorem fd_path {g0 : Gd} {K : List En} {c : Gd} (h : Fd g0 K c) : ∃ L a, PathK K (some c) L ∧ L.length ≤ K.length ∧ L.flatten.length ≤ 2 * K.length ∧ Pls g0 L.reverse.flatten a ∧ a.1.length = 2 := by
  obtain ⟨A, a, hA, ha, h2, rfl⟩ := h
  obtain ⟨i, e, k1, k2, k3, k4⟩ := hA.get ha
  obtain ⟨L, l1, l2, l3, l4⟩ := alg_path hA (i + 1) i e a (by omega) k1 k2
  have := (List.getElem?_eq_some_iff.1 k1).1
  exact ⟨L, a, by rw [k3]; exact l1, by omega, by omega, l4, h2⟩
/-- what Decide hands back -/
def DecP (most : Int) (g : Gd) (w : World) (e : Ending) (w' : World) : Prop :=
  Below w.heap.size w w' ∧
  ((¬ VdG g ∧ e = .returned (.tuple #[.agg #[.bool false, .slice none 0 0, .int .i64 0], .int .i64 1])) ∨
   (VdG g ∧ 1 < comp g.1 g.2 ∧ e = .returned (.tuple #[.agg #[.bool false, .slice none 0 0, .int .i64 0], .int .i64 16])) ∨
   (VdG g ∧ comp g.1 g.2 ≤ 1 ∧ ∃ r, Exq most true g r ∧
     ((r = .fuel ∧ e = .returned (.tuple #[.agg #[.bool false, .slice none 0 0, .int .i64 0], .int .i64 13])) ∨
      (∃ K, r = .done K ∧ e = .returned (.tuple #[.agg #[.bool false, .slice none 0 0, .int .i64 (K.length : Int)], .int .i64 0])) ∨
      ∃ K c L a v, r = .found K c ∧ PathK K (some c) L ∧ L.flatten.length ≤ 2 * most.toNat ∧ Pls g L.reverse.flatten a ∧ a.1.length = 2 ∧ Moves w' v L.reverse.flatten ∧ e = .returned (.tuple #[.agg #[.bool true, v, .int .i64 0], .int .i64 0]))))
theorem info_vdt : (Tryd.prog.info? 32).map (fun i => (i.zero, i.size, i.bytes)) = some (some (.agg #[.bool false, .slice none 0 0, .int .i64 0]), 3, 40) := by kernel_rfl
theorem load_vdt {w : World} {R : Nat} {a b c : Value} (h : Arr w R 32 [a, b, c]) : (loadVar 32 ⟨R, 0, none⟩).run Tryd.prog w = .ok (.agg #[a, b, c]) w := by
  obtain ⟨i, hi, hz, hs, hb⟩ := info_parts info_vdt
  exact run_loadVar_row w R _ _ _ _ _ h Tryd.underlying32 rfl (by rw [hi]; show some i.size = _; rw [hs]; rfl)
/-- moves do not lie in a verdict -/
theorem vdt_moves {w : World} {R : Nat} {u : Value} {ms : List Mv} (h : Arr w R 32 [.bool false, .slice none 0 0, .int .i64 0]) (hm : Moves w u ms) (x y z : Value) : Moves (((w.setCell ⟨R, 0, none⟩ x).setCell ⟨R, 1, none⟩ y).setCell ⟨R, 2, none⟩ z) u ms := by
  obtain ⟨A0, c, e, hx⟩ := hm
  refine ⟨A0, c, e, fun j hj => ?_⟩
  obtain ⟨b, off, e1, hcell⟩ := hx j hj
  have hb : b ≠ R := by
    rintro rfl
    have c0 := hcell 0 _ rfl
    have c1 := hcell 1 _ rfl
    rw [h.cell] at c0 c1
    rcases hq : off + j * 4 + 0 with _ | _ | _ | n
    · rw [hq] at c0; cases c0
    · rw [hq] at c0; cases c0
    · rw [show off + j * 4 + 1 = 3 by omega] at c1; cases c1
    · rw [hq] at c0; simp at c0
  exact ⟨b, off, e1, fun i u hu => (World.cell?_of_block ((Below.heap_setCell _ ⟨R, 2, none⟩ _ b (fun e => hb e)).trans ((Below.heap_setCell _ ⟨R, 1, none⟩ _ b (fun e => hb e)).trans (Below.heap_setCell _ ⟨R, 0, none⟩ _ b (fun e => hb e))))).trans (hcell i u hu)⟩
set_option maxHeartbeats 4000000 in
set_option maxRecDepth 100000 in
theorem Decide_any (vx vo : Value) (X O : List Int) (most : Int) (w : World) (hX : Ints w vx X) (hO : Ints w vo O) (lX : X.length ≤ 1000) (lO : O.length ≤ 1000) (hm : most ≤ 10000) (ht : Tb w) :
    Calls Tryd.prog 10 #[.agg #[vx, vo], .int .i64 most] w (DecP most (X, O) w) := by
  have HE := Lib.hid (fun W (hb : Below w.heap.size w W) => explore_any vx vo X O most true W (hX.below hb) (hO.below hb) lX lO (by omega) (ht.below hb))
  obtain ⟨A, c, rfl, -, -⟩ := hX
  obtain ⟨A2, c2, rfl, -, -⟩ := hO
  have HM := Lib.hid hm
  clear lX lO hm ht
  go_enter Tryd.func10, Tryd.ntmps10
  go_upto_region 1 with fail
  have hal := ((Below.refl w.heap.size w).alloc (Nat.le_refl _) (.cells #[.slice A X.length c, .slice A2 O.length c2] 26)).alloc (by simp only [World.size_alloc]; omega) (.cells #[.bool false, .slice none 0 0, .int .i64 0] 32)
  have X0 := Lib.hid (show Arr ((w.alloc (.cells #[.slice A X.length c, .slice A2 O.length c2] 26)).alloc (.cells #[.bool false, .slice none 0 0, .int .i64 0] 32)) w.heap.size 26 [.slice A X.length c, .slice A2 O.length c2] from (Arr.new w _ [_, _]).alloc _)
  have X1 := Lib.hid (show Arr ((w.alloc (.cells #[.slice A X.length c, .slice A2 O.length c2] 26)).alloc (.cells #[.bool false, .slice none 0 0, .int .i64 0] 32)) (w.heap.size + 1) 32 [.bool false, .slice none 0 0, .int .i64 0] from by
    have := Arr.new (w.alloc (.cells #[.slice A X.length c, .slice A2 O.length c2] 26)) 32 [.bool false, .slice none 0 0, .int .i64 0]
    simp only [World.size_alloc] at this
    exact this)
  have HB1 := Lib.hid hal
  generalize (w.alloc (.cells #[.slice A X.length c, .slice A2 O.length c2] 26)).alloc (.cells #[.bool false, .slice none 0 0, .int .i64 0] 32) = w1 at X0 X1 HB1 ⊢
  have HRL := Lib.hid (show w.heap.size ≤ w.heap.size + 1 by omega)
  obtain ⟨R, hRR⟩ : ∃ n, n = w.heap.size + 1 := ⟨_, rfl⟩
  rw [← hRR] at X1 HRL ⊢
  clear hRR hal
  have y0 := X0.out.cell 0
  have y1 := X0.out.cell 1
  have HE1 := Lib.hid (HE.out w1 HB1.out)
  clear HE
  go_wp2_with fail
  refine HE1.out.mono ?_
  rintro e2 w2 ⟨hb2, hc⟩
  have HB2 := Lib.hid (HB1.out.trans (hb2.mono HB1.out.size))
  have hR := X1.out.below hb2 X1.out.lt
  have r0 := hR.cell 0
  have r1 := hR.cell 1
  have r2 := hR.cell 2
  have f0 := hR.frozen 0
  have f1 := hR.frozen 1
  have f2 := hR.frozen 2
  have HR2 := Lib.hid hR
  clear hR y0 y1 HE1
  rcases hc with ⟨hv, rfl⟩ | ⟨hv, hc, rfl⟩ | ⟨hv, hc, r, hr, (⟨rfl, rfl⟩ | ⟨K, W, gS, p, hsi, hst, how, (⟨rfl, rfl⟩ | ⟨cl, rfl, rfl⟩)⟩)⟩
  · have HVD := Lib.hid hv
    clear hv
    go_wp2_with fail
    have hR := HR2.out
    have a9 := ((hR.set 0 (.bool false)).set 1 (.slice none 0 0)).set 2 (.int .i64 0)
    have b9 := ((HB2.out.setCell (p := ⟨R, 0, none⟩) HRL.out (.bool false)).setCell (p := ⟨R, 1, none⟩) HRL.out (.slice none 0 0)).setCell (p := ⟨R, 2, none⟩) HRL.out (.int .i64 0)
    generalize ((w2.setCell ⟨R, 0, none⟩ (.bool false)).setCell ⟨R, 1, none⟩ (.slice none 0 0)).setCell ⟨R, 2, none⟩ (.int .i64 0) = w9 at a9 b9 ⊢
    refine bodyPost_ret (results_ctv rfl _ _ _ ⟨R, 0, none⟩ _ rfl (load_vdt a9)) rfl ?_
    exact ⟨b9, .inl ⟨HVD.out, rfl⟩⟩
  · have HVD := Lib.hid hv
    have HCM := Lib.hid hc
    clear hv hc
    go_wp2_with fail
    have hR := HR2.out
    have a9 := ((hR.set 0 (.bool false)).set 1 (.slice none 0 0)).set 2 (.int .i64 0)
    have b9 := ((HB2.out.setCell (p := ⟨R, 0, none⟩) HRL.out (.bool false)).setCell (p := ⟨R, 1, none⟩) HRL.out (.slice none 0 0)).setCell (p := ⟨R, 2, none⟩) HRL.out (.int .i64 0)
    generalize ((w2.setCell ⟨R, 0, none⟩ (.bool false)).setCell ⟨R, 1, none⟩ (.slice none 0 0)).setCell ⟨R, 2, none⟩ (.int .i64 0) = w9 at a9 b9 ⊢
    refine bodyPost_ret (results_ctv rfl _ _ _ ⟨R, 0, none⟩ _ rfl (load_vdt a9)) rfl ?_
    exact ⟨b9, .inr (.inl ⟨HVD.out, HCM.out, rfl⟩)⟩
  · have HVD := Lib.hid hv
    have HCM := Lib.hid hc
    have HRR := Lib.hid hr
    clear hv hc hr
    go_wp2_with fail
    have hR := HR2.out
    have a9 := ((hR.set 0 (.bool false)).set 1 (.slice none 0 0)).set 2 (.int .i64 0)
    have b9 := ((HB2.out.setCell (p := ⟨R, 0, none⟩) HRL.out (.bool false)).setCell (p := ⟨R, 1, none⟩) HRL.out (.slice none 0 0)).setCell (p := ⟨R, 2, none⟩) HRL.out (.int .i64 0)
    generalize ((w2.setCell ⟨R, 0, none⟩ (.bool false)).setCell ⟨R, 1, none⟩ (.slice none 0 0)).setCell ⟨R, 2, none⟩ (.int .i64 0) = w9 at a9 b9 ⊢
    refine bodyPost_ret (results_ctv rfl _ _ _ ⟨R, 0, none⟩ _ rfl (load_vdt a9)) rfl ?_
    exact ⟨b9, .inr (.inr ⟨HVD.out, HCM.out, _, HRR.out, .inl ⟨rfl, rfl⟩⟩)⟩
  · have HVD := Lib.hid hv
    have HCM := Lib.hid hc
    have HRR := Lib.hid hr
    obtain ⟨cs, q1, q2⟩ := hsi.cls
    have hl := q2.len
    rw [List.length_map] at hl
    simp only at hl
    obtain ⟨A3, c3, hvc⟩ := q1.form
    have g2 := hsi.hd.cell 2
    simp only [List.getElem?_cons_succ, List.getElem?_cons_zero, hvc, hl] at g2
    have HSI := Lib.hid hsi
    clear hv hc hr hsi hst how q1 q2 hl hvc
    go_wp2_with fail
    have hR := HR2.out
    have a9 := ((hR.set 0 (.bool false)).set 1 (.slice none 0 0)).set 2 (.int .i64 (K.length : Int))
    have b9 := ((HB2.out.setCell (p := ⟨R, 0, none⟩) HRL.out (.bool false)).setCell (p := ⟨R, 1, none⟩) HRL.out (.slice none 0 0)).setCell (p := ⟨R, 2, none⟩) HRL.out (.int .i64 (K.length : Int))
    generalize ((w2.setCell ⟨R, 0, none⟩ (.bool false)).setCell ⟨R, 1, none⟩ (.slice none 0 0)).setCell ⟨R, 2, none⟩ (.int .i64 (K.length : Int)) = w9 at a9 b9 ⊢
    refine bodyPost_ret (results_ctv rfl _ _ _ ⟨R, 0, none⟩ _ rfl (load_vdt a9)) rfl ?_
    exact ⟨b9, .inr (.inr ⟨HVD.out, HCM.out, _, HRR.out, .inr (.inl ⟨K, rfl, rfl⟩)⟩)⟩
  · have HVD := Lib.hid hv
    have HCM := Lib.hid hc
    have HRR := Lib.hid hr
    have hkm := hr.most K (.inr ⟨cl, rfl⟩)
    obtain ⟨L, a, hL, l1, l2', l3, l4⟩ := fd_path ((hr.pl hv).2 K cl rfl)
    have hk4 : K.length ≤ 10000 := by have := HM.out; omega
    have HPT := Lib.hid (path_any gS p (K, W) cl L w2 hsi hst hL (by omega) (by omega))
    have HL := Lib.hid hL
    have HLF := Lib.hid (show L.flatten.length ≤ 2 * most.toNat by omega)
    have HL3 := Lib.hid l3
    have HL4 := Lib.hid l4
    have ze : (fmG cl).isEmpty = false := by
      obtain ⟨x, l, hxl⟩ := fm_ne cl
      rw [hxl]; rfl
    clear hv hc hr hsi hst how hkm hL l1 l2' l3 l4 hk4
    go_wp2_with (go_at_call 20; refine HPT.out.mono ?_; rintro e3 w3 ⟨v3, rfl, hm3, hb3⟩; have HR3 := Lib.hid (HR2.out.below hb3 HR2.out.lt); have HM3 := Lib.hid hm3; have HB3 := Lib.hid (HB2.out.trans (hb3.mono HB2.out.size)); clear r0 r1 r2 f0 f1 f2 hm3 hb3; obtain ⟨sx, hsx⟩ := HM3.out.svx; subst hsx; simp only [sv]; have r0 := HR3.out.cell 0; have r1 := HR3.out.cell 1; have r2 := HR3.out.cell 2; have f0 := HR3.out.frozen 0; have f1 := HR3.out.frozen 1; have f2 := HR3.out.frozen 2)
    have hR := HR3.out
    have a9 := ((hR.set 0 (.bool true)).set 1 (.slice sx.1 sx.2.1 sx.2.2)).set 2 (.int .i64 0)
    have b9 := ((HB3.out.setCell (p := ⟨R, 0, none⟩) HRL.out (.bool true)).setCell (p := ⟨R, 1, none⟩) HRL.out (.slice sx.1 sx.2.1 sx.2.2)).setCell (p := ⟨R, 2, none⟩) HRL.out (.int .i64 0)
    have m9 := vdt_moves hR HM3.out (.bool true) (.slice sx.1 sx.2.1 sx.2.2) (.int .i64 0)
    generalize ((w3.setCell ⟨R, 0, none⟩ (.bool true)).setCell ⟨R, 1, none⟩ (.slice sx.1 sx.2.1 sx.2.2)).setCell ⟨R, 2, none⟩ (.int .i64 0) = w9 at a9 b9 m9 ⊢
    refine bodyPost_ret (results_ctv rfl _ _ _ ⟨R, 0, none⟩ _ rfl (load_vdt a9)) rfl ?_
    exact ⟨b9, .inr (.inr ⟨HVD.out, HCM.out, _, HRR.out, .inr (.inr ⟨K, cl, L, a, _, rfl, HL.out, HLF.out, HL3.out, HL4.out, m9, rfl⟩)⟩)⟩
end Go.Proofs.YteigjfdgijaifaaDoor

namespace Go.Proofs.YteigjfdgijaifaaDoor
set_option linter.unusedVariables false

/-- a sum -/
def sumI : Nat → (Nat → Int) → Int
  | 0, _ => 0
  | c + 1, f => sumI c f + f c
theorem sumI_congr {C : Nat} {f g : Nat → Int} (h : ∀ l, l < C → f l = g l) : sumI C f = sumI C g := by
  induction C with
  | zero => rfl
  | succ c ih => rw [sumI, sumI, ih (fun l hl => h l (by omega)), h c (by omega)]
theorem sumI_one {C j : Nat} {f g : Nat → Int} (hj : j < C) (h : ∀ l, l < C → l ≠ j → f l = g l) : sumI C f = sumI C g + (f j - g j) := by
  induction C with
  | zero => omega
  | succ c ih =>
    rw [sumI, sumI]
    by_cases e : j = c
    · subst e
      rw [sumI_congr (f := f) (g := g) (fun l hl => h l (by omega) (by omega))]; omega
    · rw [ih (by omega) (fun l hl hne => h l (by omega) hne), h c (by omega) (fun q => e q.symm)]; omega
theorem sumI_two {C j k : Nat} {f g : Nat → Int} (hj : j < C) (hk : k < C) (hjk : j ≠ k) (h : ∀ l, l < C → l ≠ j → l ≠ k → f l = g l) : sumI C f = sumI C g + (f j - g j) + (f k - g k) := by
  have h1 := sumI_one (f := f) (g := fun l => if l = k then f k else g l) hj (fun l hl hne => by
    show f l = if l = k then f k else g l
    by_cases e : l = k
    · rw [if_pos e, e]
    · rw [if_neg e]; exact h l hl hne e)
  have h2 := sumI_one (f := fun l => if l = k then f k else g l) (g := g) hk (fun l hl hne => by
    show (if l = k then f k else g l) = g l
    rw [if_neg hne])
  simp only [if_neg hjk, if_pos] at h1 h2
  rw [h1, h2]; omega
theorem sumI_mod {m : Int} {C : Nat} {f g : Nat → Int} (h : ∀ l, l < C → m ∣ f l - g l) : m ∣ sumI C f - sumI C g := by
  induction C with
  | zero => simp [sumI]
  | succ c ih =>
    rw [sumI, sumI, show sumI c f + f c - (sumI c g + g c) = (sumI c f - sumI c g) + (f c - g c) by omega]
    exact Int.dvd_add (ih (fun l hl => h l (by omega))) (h c (by omega))
theorem sumI_sub {C : Nat} (f g : Nat → Int) (b : Int) : sumI C (fun l => f l - b * g l) = sumI C f - b * sumI C g := by
  induction C with
  | zero => simp [sumI]
  | succ c ih => simp only [sumI]; rw [ih, Int.mul_add]; omega
theorem sumI_mul {C : Nat} (f : Nat → Int) (b : Int) : sumI C (fun l => b * f l) = b * sumI C f := by
  induction C with
  | zero => simp [sumI]
  | succ c ih => simp only [sumI]; rw [ih, Int.mul_add]
theorem sumI_zero {C : Nat} : sumI C (fun _ => 0) = 0 := by
  induction C with
  | zero => rfl
  | succ c ih => rw [sumI, ih]; rfl
theorem sumI_single {C j : Nat} {f : Nat → Int} (hj : j < C) (h : ∀ l, l < C → l ≠ j → f l = 0) : sumI C f = f j := by
  have := sumI_one (f := f) (g := fun _ => 0) hj h
  rw [sumI_zero] at this
  omega
theorem sumI_mulr {C : Nat} (f : Nat → Int) (b : Int) : sumI C (fun l => f l * b) = sumI C f * b := by
  induction C with
  | zero => simp [sumI]
  | succ c ih => simp only [sumI]; rw [ih, Int.add_mul]
theorem sumI_plus {C : Nat} (f g : Nat → Int) : sumI C (fun l => f l + g l) = sumI C f + sumI C g := by
  induction C with
  | zero => simp [sumI]
  | succ c ih => simp only [sumI]; rw [ih]; omega
theorem sumI_swap (n r : Nat) (F : Nat → Nat → Int) : sumI n (fun i => sumI r (fun k => F i k)) = sumI r (fun k => sumI n (fun i => F i k)) := by
  induction n with
  | zero => simp only [sumI]; rw [sumI_zero]
  | succ n ih => simp only [sumI]; rw [ih, sumI_plus]
end Go.Proofs.YteigjfdgijaifaaDoor

namespace Go.Proofs.YteigjfdgijaifaaDoor
set_option linter.unusedVariables false

def skp (k l : Nat) : Nat := if l < k then l else l + 1
def sgn (k : Nat) : Int := if k % 2 = 0 then 1 else -1
theorem sgn_succ (k : Nat) : sgn (k + 1) = - sgn k := by
  unfold sgn
  by_cases h : k % 2 = 0
  · rw [if_pos h, if_neg (by omega)]
  · rw [if_neg h, if_pos (by omega)]; rfl
/-- the determinant of the first rows of f, as many as there are columns -/
def dt : List Nat → (Nat → Nat → Int) → Int
  | [], _ => 1
  | j :: J, f => sumI (J.length + 1) (fun k => sgn k * f k j * dt J (fun l => f (skp k l)))
/-- row k becomes u -/
def fup (f : Nat → Nat → Int) (k : Nat) (u : Nat → Int) : Nat → Nat → Int := fun l => if l = k then u else f l
theorem dt_congr : ∀ {J : List Nat} {f g : Nat → Nat → Int}, (∀ l, l < J.length → ∀ j ∈ J, f l j = g l j) → dt J f = dt J g
  | [], f, g, _ => rfl
  | j :: J, f, g, h => by
    rw [dt, dt]
    refine sumI_congr (fun k hk => ?_)
    rw [h k (by simpa using hk) j (by simp), dt_congr (J := J) (f := fun l => f (skp k l)) (g := fun l => g (skp k l)) (fun l hl i hi => h (skp k l) (by unfold skp; simp only [List.length_cons]; split <;> omega) i (by simp [hi]))]
theorem fup_skp_same (f : Nat → Nat → Int) (k : Nat) (u : Nat → Int) : (fun l => fup f k u (skp k l)) = fun l => f (skp k l) := by
  funext l
  unfold fup
  rw [if_neg (by unfold skp; split <;> omega)]
/-- where row k has gone when row l is struck -/
def usk (l k : Nat) : Nat := if k < l then k else k - 1
theorem fup_skp_ne (f : Nat → Nat → Int) {k l : Nat} (h : l ≠ k) (u : Nat → Int) : (fun i => fup f k u (skp l i)) = fup (fun i => f (skp l i)) (usk l k) u := by
  funext i
  show (if skp l i = k then u else f (skp l i)) = if i = usk l k then u else f (skp l i)
  have e : (skp l i = k) = (i = usk l k) := by
    unfold skp usk
    apply propext
    split <;> split <;> omega
  simp only [e]
theorem sumI_add {C : Nat} (f g : Nat → Int) (c : Int) : sumI C (fun l => f l + c * g l) = sumI C f + c * sumI C g := by
  induction C with
  | zero => simp [sumI]
  | succ n ih => simp only [sumI]; rw [ih, Int.mul_add]; omega
/-- linear in each row -/
theorem dt_lin : ∀ {J : List Nat} {f : Nat → Nat → Int} {k : Nat} (u v : Nat → Int) (c : Int), k < J.length → dt J (fup f k (fun j => u j + c * v j)) = dt J (fup f k u) + c * dt J (fup f k v)
  | [], f, k, u, v, c, h => by simp at h
  | j :: J, f, k, u, v, c, h => by
    rw [dt, dt, dt, ← sumI_add]
    refine sumI_congr (fun l hl => ?_)
    show sgn l * fup f k (fun j => u j + c * v j) l j * dt J (fun i => fup f k (fun j => u j + c * v j) (skp l i)) = sgn l * fup f k u l j * dt J (fun i => fup f k u (skp l i)) + c * (sgn l * fup f k v l j * dt J (fun i => fup f k v (skp l i)))
    by_cases e : l = k
    · subst e
      rw [fup_skp_same, fup_skp_same, fup_skp_same]
      simp only [fup, if_pos]
      generalize dt J (fun i => f (skp l i)) = d
      rw [Int.mul_add, Int.add_mul, Int.mul_left_comm (sgn l) c, Int.mul_assoc c]
    · have hk : usk l k < J.length := by unfold usk; simp only [List.length_cons] at h hl; split <;> omega
      rw [fup_skp_ne f e, fup_skp_ne f e, fup_skp_ne f e, dt_lin u v c hk]
      simp only [fup, if_neg e]
      generalize sgn l * f l j = s
      rw [Int.mul_add, Int.mul_left_comm]
theorem dt_zero {J : List Nat} {f : Nat → Nat → Int} {k : Nat} (h : k < J.length) : dt J (fup f k (fun _ => 0)) = 0 := by
  have h1 := dt_lin (f := f) (fun _ => 0) (fun _ => 0) (-1) h
  have h2 : (fun j : Nat => (0 : Int) + -1 * 0) = fun _ => 0 := by funext; rfl
  rw [h2] at h1
  omega
theorem dt_mul {J : List Nat} {f : Nat → Nat → Int} {k : Nat} (v : Nat → Int) (c : Int) (h : k < J.length) : dt J (fup f k (fun j => c * v j)) = c * dt J (fup f k v) := by
  have h1 := dt_lin (f := f) (fun _ => 0) v c h
  have h2 : (fun j : Nat => (0 : Int) + c * v j) = fun j => c * v j := by funext; simp
  rw [h2, dt_zero h] at h1
  omega
/-- two neighbours that are alike -/
theorem dt_adj : ∀ {J : List Nat} {f : Nat → Nat → Int} {k : Nat}, k + 1 < J.length → (∀ j ∈ J, f k j = f (k + 1) j) → dt J f = 0
  | [], f, k, h, _ => by simp at h
  | j :: J, f, k, h, he => by
    simp only [List.length_cons] at h
    rw [dt]
    have h0 := sumI_two (C := J.length + 1) (j := k) (k := k + 1) (f := fun l => sgn l * f l j * dt J (fun i => f (skp l i))) (g := fun _ => 0) (by omega) (by omega) (by omega) (fun l hl h1 h2 => by
      show sgn l * f l j * dt J (fun i => f (skp l i)) = 0
      have hz : dt J (fun i => f (skp l i)) = 0 := by
        by_cases q : l < k
        · refine dt_adj (J := J) (k := k - 1) (by omega) (fun i hi => ?_)
          show f (skp l (k - 1)) i = f (skp l (k - 1 + 1)) i
          unfold skp
          rw [if_neg (by omega), if_neg (by omega), show k - 1 + 1 = k by omega]
          exact he i (by simp [hi])
        · refine dt_adj (J := J) (k := k) (by omega) (fun i hi => ?_)
          show f (skp l k) i = f (skp l (k + 1)) i
          unfold skp
          rw [if_pos (by omega), if_pos (by omega)]
          exact he i (by simp [hi])
      rw [hz, Int.mul_zero])
    rw [h0, sumI_zero]
    have e1 : dt J (fun i => f (skp (k + 1) i)) = dt J (fun i => f (skp k i)) := dt_congr (fun l hl i hi => by
      show f (skp (k + 1) l) i = f (skp k l) i
      unfold skp
      by_cases q : l < k
      · rw [if_pos q, if_pos (by omega)]
      · by_cases q2 : l = k
        · subst q2
          rw [if_pos (by omega), if_neg (by omega)]
          exact he i (by simp [hi])
        · rw [if_neg (by omega), if_neg (by omega)])
    show 0 + (sgn k * f k j * dt J (fun i => f (skp k i)) - 0) + (sgn (k + 1) * f (k + 1) j * dt J (fun i => f (skp (k + 1) i)) - 0) = 0
    rw [e1, sgn_succ, ← he j (by simp), Int.neg_mul, Int.neg_mul]
    omega
theorem fup_self (f : Nat → Nat → Int) (k : Nat) : fup f k (f k) = f := by
  funext l; unfold fup; split
  · next e => rw [e]
  · rfl
theorem fup_fup (f : Nat → Nat → Int) (k : Nat) (u v : Nat → Int) : fup (fup f k u) k v = fup f k v := by
  funext l; unfold fup; split <;> rfl
theorem fup_comm (f : Nat → Nat → Int) {k l : Nat} (h : k ≠ l) (u v : Nat → Int) : fup (fup f k u) l v = fup (fup f l v) k u := by
  funext i; unfold fup
  by_cases e1 : i = l
  · by_cases e2 : i = k
    · omega
    · rw [if_pos e1, if_neg e2, if_pos e1]
  · rw [if_neg e1]
    by_cases e2 : i = k
    · rw [if_pos e2, if_pos e2]
    · rw [if_neg e2, if_neg e2, if_neg e1]
/-- neighbours change places -/
theorem dt_swap_adj {J : List Nat} {f : Nat → Nat → Int} {k : Nat} (h : k + 1 < J.length) : dt J (fup (fup f k (f (k + 1))) (k + 1) (f k)) = - dt J f := by
  have hk : k < J.length := by omega
  have hne : k ≠ k + 1 := by omega
  generalize hu : f k = u
  generalize hv : f (k + 1) = v
  have z : dt J (fup (fup f k (fun j => u j + 1 * v j)) (k + 1) (fun j => u j + 1 * v j)) = 0 := dt_adj h (fun j _ => by
    simp only [fup, if_neg hne, if_pos])
  have zu : dt J (fup (fup f k u) (k + 1) u) = 0 := dt_adj h (fun j _ => by simp only [fup, if_neg hne, if_pos])
  have zv : dt J (fup (fup f k v) (k + 1) v) = 0 := dt_adj h (fun j _ => by simp only [fup, if_neg hne, if_pos])
  rw [dt_lin u v 1 h, fup_comm f hne, dt_lin u v 1 hk, fup_comm f hne (fun j => u j + 1 * v j), dt_lin u v 1 hk, fup_comm f hne.symm, fup_comm f hne.symm, fup_comm f hne.symm, fup_comm f hne.symm] at z
  rw [zu, zv] at z
  have e : fup (fup f k u) (k + 1) v = f := by rw [← hu, ← hv, fup_self, fup_self]
  rw [e] at z
  omega
/-- two rows that are alike -/
theorem dt_same : ∀ (d : Nat) {J : List Nat} {f : Nat → Nat → Int} {a : Nat}, a + 1 + d < J.length → (∀ j, f a j = f (a + 1 + d) j) → dt J f = 0
  | 0, J, f, a, h, he => dt_adj h (fun j _ => he j)
  | d + 1, J, f, a, h, he => by
    have hs := dt_swap_adj (J := J) (f := f) (k := a + 1 + d) (by omega)
    have hz := dt_same d (J := J) (f := fup (fup f (a + 1 + d) (f (a + 1 + d + 1))) (a + 1 + d + 1) (f (a + 1 + d))) (a := a) (by omega) (fun j => by
      simp only [fup]
      rw [if_neg (by omega), if_neg (by omega), if_neg (by omega), if_pos True.intro]
      exact he j)
    rw [hz] at hs
    omega
theorem dt_alike {J : List Nat} {f : Nat → Nat → Int} {a b : Nat} (ha : a < J.length) (hb : b < J.length) (hab : a ≠ b) (he : ∀ j, f a j = f b j) : dt J f = 0 := by
  rcases Nat.lt_or_ge a b with q | q
  · exact dt_same (b - (a + 1)) (a := a) (by omega) (fun j => by rw [show a + 1 + (b - (a + 1)) = b by omega]; exact he j)
  · exact dt_same (a - (b + 1)) (a := b) (by omega) (fun j => by rw [show b + 1 + (a - (b + 1)) = a by omega]; exact (he j).symm)
/-- a multiple of another row is added -/
theorem dt_addmul {J : List Nat} {f : Nat → Nat → Int} {a b : Nat} (ha : a < J.length) (hb : b < J.length) (hab : a ≠ b) (c : Int) : dt J (fup f b (fun j => f b j + c * f a j)) = dt J f := by
  rw [dt_lin (f b) (f a) c hb, fup_self]
  have : dt J (fup f b (f a)) = 0 := dt_alike ha hb hab (fun j => by simp only [fup, if_neg hab, if_pos])
  rw [this]; omega
/-- congruent rows -/
theorem dt_mod {m : Int} : ∀ {J : List Nat} {f g : Nat → Nat → Int}, (∀ l, l < J.length → ∀ j ∈ J, m ∣ f l j - g l j) → m ∣ dt J f - dt J g
  | [], f, g, _ => by simp [dt]
  | j :: J, f, g, h => by
    rw [dt, dt]
    refine sumI_mod (fun k hk => ?_)
    show m ∣ sgn k * f k j * dt J (fun l => f (skp k l)) - sgn k * g k j * dt J (fun l => g (skp k l))
    have h1 := h k (by simpa using hk) j (by simp)
    have h2 := dt_mod (J := J) (f := fun l => f (skp k l)) (g := fun l => g (skp k l)) (fun l hl i hi => h (skp k l) (by unfold skp; simp only [List.length_cons]; split <;> omega) i (by simp [hi]))
    generalize dt J (fun l => f (skp k l)) = d1 at *
    generalize dt J (fun l => g (skp k l)) = d2 at *
    generalize f k j = a at *
    generalize g k j = b at *
    have e : sgn k * a * d1 - sgn k * b * d2 = sgn k * (a * (d1 - d2) + (a - b) * d2) := by
      rw [Int.mul_add, Int.mul_sub, Int.sub_mul, Int.mul_sub, Int.mul_sub, ← Int.mul_assoc, ← Int.mul_assoc, ← Int.mul_assoc]; omega
    rw [e]
    exact Int.dvd_trans (Int.dvd_add (Int.dvd_trans h2 (Int.dvd_mul_left _ _)) (Int.dvd_trans h1 (Int.dvd_mul_right _ _))) (Int.dvd_mul_left _ _)
end Go.Proofs.YteigjfdgijaifaaDoor

namespace Go.Proofs.YteigjfdgijaifaaDoor
set_option linter.unusedVariables false

def prodN : Nat → (Nat → Nat) → Nat
  | 0, _ => 1
  | n + 1, g => prodN n g * g n
def sumN : Nat → (Nat → Nat) → Nat
  | 0, _ => 0
  | n + 1, g => sumN n g + g n
theorem prodN_congr {n : Nat} {f g : Nat → Nat} (h : ∀ l, l < n → f l = g l) : prodN n f = prodN n g := by
  induction n with
  | zero => rfl
  | succ n ih => rw [prodN, prodN, ih (fun l hl => h l (by omega)), h n (by omega)]
theorem prodN_mono {n : Nat} {f g : Nat → Nat} (h : ∀ l, l < n → f l ≤ g l) : prodN n f ≤ prodN n g := by
  induction n with
  | zero => exact Nat.le_refl _
  | succ n ih => rw [prodN, prodN]; exact Nat.mul_le_mul (ih (fun l hl => h l (by omega))) (h n (by omega))
theorem sumN_mono {n : Nat} {f g : Nat → Nat} (h : ∀ l, l < n → f l ≤ g l) : sumN n f ≤ sumN n g := by
  induction n with
  | zero => exact Nat.le_refl _
  | succ n ih => rw [sumN, sumN]; exact Nat.add_le_add (ih (fun l hl => h l (by omega))) (h n (by omega))
theorem sumN_congr {n : Nat} {f g : Nat → Nat} (h : ∀ l, l < n → f l = g l) : sumN n f = sumN n g := by
  induction n with
  | zero => rfl
  | succ n ih => rw [sumN, sumN, ih (fun l hl => h l (by omega)), h n (by omega)]
theorem sumN_mulr {n : Nat} (f : Nat → Nat) (c : Nat) : sumN n (fun l => f l * c) = sumN n f * c := by
  induction n with
  | zero => simp [sumN]
  | succ n ih => simp only [sumN]; rw [ih, Nat.add_mul]
theorem natAbs_sumI {n : Nat} (f : Nat → Int) : (sumI n f).natAbs ≤ sumN n (fun l => (f l).natAbs) := by
  induction n with
  | zero => simp [sumI, sumN]
  | succ n ih =>
    rw [sumI, sumN]
    have := Int.natAbs_add_le (sumI n f) (f n)
    omega
theorem prod_skip (n : Nat) (a s : Nat → Nat) : sumN (n + 1) (fun k => a k * prodN n (fun l => s (skp k l))) ≤ prodN (n + 1) (fun l => a l + s l) := by
  induction n with
  | zero => simp [sumN, prodN]
  | succ n ih =>
    rw [sumN]
    have h1 : sumN (n + 1) (fun k => a k * prodN (n + 1) (fun l => s (skp k l))) = sumN (n + 1) (fun k => a k * prodN n (fun l => s (skp k l))) * s (n + 1) := by
      rw [← sumN_mulr]
      refine sumN_congr (fun k hk => ?_)
      show a k * (prodN n (fun l => s (skp k l)) * s (skp k n)) = a k * prodN n (fun l => s (skp k l)) * s (n + 1)
      rw [show skp k n = n + 1 by unfold skp; rw [if_neg (by omega)], Nat.mul_assoc]
    have h2 : prodN (n + 1) (fun l => s (skp (n + 1) l)) ≤ prodN (n + 1) (fun l => a l + s l) := by
      refine prodN_mono (fun l hl => ?_)
      show s (skp (n + 1) l) ≤ a l + s l
      rw [show skp (n + 1) l = l by unfold skp; rw [if_pos hl]]; omega
    show _ ≤ prodN (n + 1) (fun l => a l + s l) * (a (n + 1) + s (n + 1))
    rw [h1, Nat.mul_add, Nat.add_comm (prodN (n + 1) (fun l => a l + s l) * a (n + 1))]
    exact Nat.add_le_add (Nat.mul_le_mul_right _ ih) (by rw [Nat.mul_comm (a (n + 1))]; exact Nat.mul_le_mul_right _ h2)
/-- the sum of the absolute values in some columns -/
def rsum (J : List Nat) (u : Nat → Int) : Nat := (J.map fun j => (u j).natAbs).sum
theorem dt_bound : ∀ (J : List Nat) (f : Nat → Nat → Int), (dt J f).natAbs ≤ prodN J.length (fun l => rsum J (f l))
  | [], f => by simp [dt, prodN]
  | j :: J, f => by
    rw [dt]
    refine Nat.le_trans (natAbs_sumI _) ?_
    refine Nat.le_trans (sumN_mono (g := fun k => (f k j).natAbs * prodN J.length (fun l => rsum J (f (skp k l)))) (fun k _ => ?_)) ?_
    · show (sgn k * f k j * dt J (fun l => f (skp k l))).natAbs ≤ _
      rw [Int.natAbs_mul, Int.natAbs_mul, show (sgn k).natAbs = 1 by unfold sgn; split <;> rfl, Nat.one_mul]
      exact Nat.mul_le_mul_left _ (dt_bound J (fun l => f (skp k l)))
    · have h := prod_skip J.length (fun k => (f k j).natAbs) (fun l => rsum J (f l))
      refine Nat.le_trans h (Nat.le_of_eq (prodN_congr (fun l _ => ?_)))
      simp [rsum]
theorem prodN_const (n c : Nat) : prodN n (fun _ => c) = c ^ n := by
  induction n with
  | zero => rfl
  | succ n ih => rw [prodN, ih, Nat.pow_succ]
/-- columns that are renamed -/
theorem dt_map (τ : Nat → Nat) : ∀ (J : List Nat) (f : Nat → Nat → Int), dt (J.map τ) f = dt J (fun l j => f l (τ j))
  | [], f => rfl
  | j :: J, f => by
    rw [List.map_cons, dt, dt, List.length_map]
    refine sumI_congr (fun k _ => ?_)
    show sgn k * f k (τ j) * dt (J.map τ) (fun l => f (skp k l)) = sgn k * f k (τ j) * dt J (fun l j => f (skp k l) (τ j))
    rw [dt_map τ J]
def prodI : Nat → (Nat → Int) → Int
  | 0, _ => 1
  | n + 1, g => prodI n g * g n
theorem prodI_front (n : Nat) (g : Nat → Int) : prodI (n + 1) g = g 0 * prodI n (fun l => g (l + 1)) := by
  induction n with
  | zero => simp [prodI]
  | succ n ih => rw [prodI, ih, prodI, Int.mul_assoc]
/-- a triangle -/
theorem dt_tri : ∀ (r s : Nat) (f : Nat → Nat → Int), (∀ l j, l < r → j < r → j < l → f l (s + j) = 0) → dt (List.range' s r) f = prodI r (fun l => f l (s + l))
  | 0, s, f, _ => rfl
  | r + 1, s, f, h => by
    rw [List.range'_succ, dt, List.length_range', prodI_front]
    have h0 := sumI_single (C := r + 1) (j := 0) (f := fun k => sgn k * f k s * dt (List.range' (s + 1) r) (fun l => f (skp k l))) (by omega) (fun l hl hne => by
      show sgn l * f l s * dt (List.range' (s + 1) r) (fun i => f (skp l i)) = 0
      have := h l 0 hl (by omega) (by omega)
      rw [Nat.add_zero] at this
      rw [this, Int.mul_zero, Int.zero_mul])
    rw [h0]
    have e : dt (List.range' (s + 1) r) (fun l => f (skp 0 l)) = prodI r (fun l => f (l + 1) (s + 1 + l)) := by
      rw [dt_tri r (s + 1) (fun l => f (skp 0 l)) (fun l j hl hj hlt => by
        show f (skp 0 l) (s + 1 + j) = 0
        rw [show skp 0 l = l + 1 by unfold skp; rw [if_neg (by omega)], show s + 1 + j = s + (j + 1) by omega]
        exact h (l + 1) (j + 1) (by omega) (by omega) (by omega))]
      rfl
    show sgn 0 * f 0 s * dt (List.range' (s + 1) r) (fun l => f (skp 0 l)) = f 0 (s + 0) * prodI r (fun l => f (l + 1) (s + (l + 1)))
    rw [e, show sgn 0 = 1 from rfl, Int.one_mul, Nat.add_zero]
    have e2 : (fun l => f (l + 1) (s + 1 + l)) = fun l => f (l + 1) (s + (l + 1)) := by funext l; rw [show s + 1 + l = s + (l + 1) by omega]
    rw [e2]; rfl
/-- multiples of one row are added to all others -/
theorem dt_many {J : List Nat} {f : Nat → Nat → Int} {a : Nat} (ha : a < J.length) (c : Nat → Int) (hc : c a = 0) : dt J (fun l j => f l j + c l * f a j) = dt J f := by
  have h : ∀ x, x ≤ J.length → dt J (fun l j => f l j + (if l < x then c l else 0) * f a j) = dt J f := by
    intro x
    induction x with
    | zero => intro _; exact dt_congr (fun l _ j _ => by rw [if_neg (by omega)]; simp)
    | succ x ih =>
      intro hx
      rw [← ih (by omega)]
      by_cases e : x = a
      · refine dt_congr (fun l _ j _ => ?_)
        by_cases q : l < x
        · rw [if_pos q, if_pos (by omega)]
        · by_cases q2 : l = x
          · rw [if_pos (by omega), if_neg q, q2, e, hc]
          · rw [if_neg q, if_neg (by omega)]
      · have h1 := dt_addmul (J := J) (f := fun l j => f l j + (if l < x then c l else 0) * f a j) ha (show x < J.length by omega) (fun z => e z.symm) (c x)
        rw [← h1]
        refine dt_congr (fun l _ j _ => ?_)
        unfold fup
        by_cases q2 : l = x
        · rw [if_pos q2, q2]
          simp only [if_neg (show ¬ x < x by omega), if_pos (show x < x + 1 by omega), Int.zero_mul, Int.add_zero]
          by_cases q3 : a < x
          · rw [if_pos q3, hc]; simp
          · rw [if_neg q3]; simp
        · rw [if_neg q2]
          show f l j + (if l < x + 1 then c l else 0) * f a j = f l j + (if l < x then c l else 0) * f a j
          by_cases q : l < x
          · rw [if_pos q, if_pos (by omega)]
          · rw [if_neg q, if_neg (by omega)]
  rw [← h J.length (Nat.le_refl _)]
  exact dt_congr (fun l hl j _ => by rw [if_pos hl])
/-- a row that is a combination of the rows -/
theorem dt_comb {J : List Nat} {f : Nat → Nat → Int} {k : Nat} (hk : k < J.length) (b : Nat → Int) : dt J (fup f k (fun j => sumI J.length (fun l => b l * f l j))) = b k * dt J f := by
  have h : ∀ x, x ≤ J.length → dt J (fup f k (fun j => sumI x (fun l => b l * f l j))) = (if k < x then b k else 0) * dt J f := by
    intro x
    induction x with
    | zero =>
      intro _
      rw [if_neg (by omega), Int.zero_mul]
      exact dt_zero hk
    | succ x ih =>
      intro hx
      have h1 := dt_lin (J := J) (f := f) (k := k) (fun j => sumI x (fun l => b l * f l j)) (f x) (b x) hk
      show dt J (fup f k (fun j => sumI x (fun l => b l * f l j) + b x * f x j)) = _
      rw [h1, ih (by omega)]
      by_cases e : x = k
      · subst e
        rw [fup_self, if_neg (by omega), if_pos (by omega)]; omega
      · have : dt J (fup f k (f x)) = 0 := dt_alike (show x < J.length by omega) hk e (fun j => by simp only [fup, if_neg e, if_pos])
        rw [this]
        by_cases q : k < x
        · rw [if_pos q, if_pos (by omega)]; omega
        · rw [if_neg q, if_neg (by omega)]; omega
  rw [h J.length (Nat.le_refl _), if_pos hk]
end Go.Proofs.YteigjfdgijaifaaDoor

namespace Go.Proofs.YteigjfdgijaifaaDoor
set_option linter.unusedVariables false

theorem sumI_frontT (f : Nat → Int) : ∀ c : Nat, sumI (c + 1) f = f 0 + sumI c (fun k => f (k + 1))
  | 0 => by simp [sumI]
  | c + 1 => by rw [sumI, sumI_frontT f c, sumI]; omega
theorem skp_s0 (k : Nat) : skp (k + 1) 0 = 0 := by simp [skp]
theorem skp_s1 (k l : Nat) : skp (k + 1) (l + 1) = skp k l + 1 := by unfold skp; split <;> split <;> omega
/-- Laplace by the first row -/
theorem dt_row : ∀ (J : List Nat) (f : Nat → Nat → Int), J ≠ [] → dt J f = sumI J.length (fun p => sgn p * f 0 (J[p]?.getD 0) * dt (J.eraseIdx p) (fun l => f (l + 1)))
  | [], f, h => absurd rfl h
  | j :: J, f, _ => by
    have e1 : ∀ k, k < J.length → sgn (k + 1) * f (k + 1) j * dt J (fun l => f (skp (k + 1) l)) = sumI J.length (fun p => -(sgn k * sgn p * f (k + 1) j * f 0 (J[p]?.getD 0) * dt (J.eraseIdx p) (fun l => f (skp k l + 1)))) := by
      intro k hk
      rw [dt_row J _ (fun e => by rw [e] at hk; exact absurd hk (by simp)), ← sumI_mul]
      refine sumI_congr fun p hp => ?_
      simp only [skp_s0, skp_s1, sgn_succ]
      grind
    have e2 : ∀ p, p < J.length → sgn (p + 1) * f 0 ((j :: J)[p + 1]?.getD 0) * dt ((j :: J).eraseIdx (p + 1)) (fun l => f (l + 1)) = sumI J.length (fun k => -(sgn k * sgn p * f (k + 1) j * f 0 (J[p]?.getD 0) * dt (J.eraseIdx p) (fun l => f (skp k l + 1)))) := by
      intro p hp
      rw [List.eraseIdx_cons_succ, dt, List.length_eraseIdx_of_lt hp, show J.length - 1 + 1 = J.length by omega, ← sumI_mul]
      refine sumI_congr fun k hk => ?_
      rw [sgn_succ, List.getElem?_cons_succ]
      grind
    rw [dt, List.length_cons, sumI_frontT, sumI_frontT, sumI_congr e1, sumI_congr e2, sumI_swap]
    rfl
theorem dt_tr : ∀ (n : Nat) (J L : List Nat) (f : Nat → Nat → Int), J.length = n → L.length = n → dt J (fun l j => f (L[l]?.getD 0) j) = dt L (fun l j => f j (J[l]?.getD 0))
  | 0, J, L, f, hJ, hL => by
    rw [List.eq_nil_of_length_eq_zero hJ, List.eq_nil_of_length_eq_zero hL]; rfl
  | n + 1, [], L, f, hJ, hL => by simp at hJ
  | n + 1, j :: J, L, f, hJ, hL => by
    rw [dt_row L _ (fun e => by rw [e] at hL; simp at hL), dt, hL]
    rw [List.length_cons] at hJ
    rw [hJ]
    refine sumI_congr fun k hk => ?_
    have h1 : dt J (fun l c => f (L[skp k l]?.getD 0) c) = dt (L.eraseIdx k) (fun l c => f c (J[l]?.getD 0)) := by
      rw [← dt_tr n J (L.eraseIdx k) f (by omega) (by rw [List.length_eraseIdx_of_lt (by omega)]; omega)]
      refine dt_congr fun l hl c hc => ?_
      rw [List.getElem?_eraseIdx]
      unfold skp
      split <;> rfl
    exact congrArg (sgn k * f (L[k]?.getD 0) j * ·) h1
theorem dt_trans (n : Nat) (f : Nat → Nat → Int) : dt (List.range' 0 n) f = dt (List.range' 0 n) (fun l j => f j l) := by
  have hg : ∀ l, l < n → (List.range' 0 n)[l]?.getD 0 = l := fun l hl => by rw [List.getElem?_range' hl]; simp
  have h := dt_tr n (List.range' 0 n) (List.range' 0 n) f (by simp) (by simp)
  rw [dt_congr (g := f) (fun l hl j hj => by rw [hg l (by simpa using hl)])] at h
  rw [h]
  exact dt_congr fun l hl j hj => by rw [hg l (by simpa using hl)]
end Go.Proofs.YteigjfdgijaifaaDoor
