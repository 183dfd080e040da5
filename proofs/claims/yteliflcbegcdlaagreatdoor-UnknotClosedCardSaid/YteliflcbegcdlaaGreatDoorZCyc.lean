/- gridmove.Apply for moves of rows. -/
/- Plain facts: lists that are permutations; where relocate lays what. -/
/- Plain facts: the four moves of columns as operations on lists. -/
/- Plain facts: the moves of columns lead from valid grids to valid grids. -/
/- gridmove.Apply: what it returns, for all arguments. -/
/- What all laws of this seat call: slices.Equal, same, great, awake. -/
/- Plain facts: Apply on valid grids, columns and rows alike; moves can be undone. -/
/- turned: the law's own transposition. -/
/- grid.translate. -/
/- grid.Shift. -/
/- Apply once more: its result lies in new memory. -/
/- Words: a slice of moves that reads as a list; slices that survive writes to some blocks. -/
/- Cycles of a permutation: how many there are, and maps that keep them. -/
import Derived.Test.YteliflcbegcdlaaGreatDoorZDsm
import Derived.Deep.RegionHeld3
import Derived.Deep.DeepCutAuto
import Derived.Outline
import Derived.Test.YteliflcbegcdlaaGreatDoorZAps
namespace Go.Proofs.YteliflcbegcdlaaGreatDoor
open Go.RowKit
set_option linter.unusedVariables false
theorem reloc_mvT (b : Bool) (n : Nat) (l : List Int) : reloc mvT b n l = reloc mvT true n l := by
  have h : ∀ (l : List Int) (i : Nat) (acc : List Int), relTo mvT b i l acc = relTo mvT true i l acc := by
    intro l
    induction l with
    | nil => intro i acc; rfl
    | cons x xs ih => intro i acc; simp only [relTo, relStep, mvT]; exact ih _ _
  exact h l 0 _
theorem tr_length (l : List Int) : (tr l).length = l.length := reloc_length _ _ _ _
theorem tr_rows {l : List Int} (h : 1 ≤ l.length) : Rows l.length (tr l) := reloc_rows (by omega) (fun k hk => by simp only [mvT]; omega)
def RowMid (B : Nat) (w : World) (s8 s9 : Value) (R : Int × List Int × List Int) : Prop :=
  ∃ g v0 v1, s8 = .pointer (some ⟨g, 0, none⟩) ∧ s9 = .int .i64 R.1 ∧ Arr w g 24 [v0, v1] ∧ Arr w (B + 2) 24 [.slice none 0 0, .slice none 0 0] ∧ (R.1 = 0 → Ints w v0 R.2.1 ∧ Ints w v1 R.2.2)
theorem transpose_tr (vx vo : Value) (X O : List Int) (w : World) (hX : Ints w vx X) (hO : Ints w vo O) (hlen : X.length = O.length) (hn : X.length ≤ 1000) (rX : Rows X.length X) (rO : Rows X.length O) :
    Calls Tryz.prog 75 #[.agg #[vx, vo]] w fun e w' => ∃ v, e = .returned v ∧ NewGrid w.heap.size w' v (tr X) (tr O) ∧ Below w.heap.size w w' := by
  have h := transpose_any vx vo X O w hX hO hlen hn rX rO
  have e : reloc mvT false X.length O = tr O := by rw [reloc_mvT, hlen]; rfl
  rw [e] at h
  exact h
theorem allocked {W : World} {w : World} {t : TypeId} {a b : Value} (hb : Below (W.alloc (.cells #[a, b] t)).heap.size (W.alloc (.cells #[a, b] t)) w) : Arr w W.heap.size t [a, b] := (Arr.new W t [a, b]).below hb (by simp)
theorem allockedD {W : World} {w : World} {t : TypeId} {a b : Value} (hb : Below (W.alloc (.cells #[a, b] t)).drew.heap.size (W.alloc (.cells #[a, b] t)).drew w) : Arr w W.heap.size t [a, b] := (Arr.new W t [a, b]).below (w := (W.alloc (.cells #[a, b] t)).drew) hb (by show W.heap.size < (W.alloc _).heap.size; simp)
theorem gres_parts {B : Nat} {w : World} {R : Int × List Int × List Int} {v : Value} (h : if R.1 = 0 then NewGrid B w v R.2.1 R.2.2 else v = .agg #[.slice none 0 0, .slice none 0 0]) :
    ∃ A0 n0 c0 A1 n1 c1, v = .agg #[.slice A0 n0 c0, .slice A1 n1 c1] ∧ (R.1 = 0 → ∀ W : World, (∀ b, B ≤ b → b < w.heap.size → W.heap[b]? = w.heap[b]?) → Ints W (.slice A0 n0 c0) R.2.1 ∧ Ints W (.slice A1 n1 c1) R.2.2) := by
  by_cases h0 : R.1 = 0
  · rw [if_pos h0] at h
    obtain ⟨gx, go, rfl, _, b1, b2, h1, h2⟩ := h
    refine ⟨_, _, _, _, _, _, rfl, fun _ W hW => ⟨Ints.of_arr (t := 3) ?_, Ints.of_arr (t := 3) ?_⟩⟩
    · exact (hW gx b1 h1.lt).trans h1
    · exact (hW go b2 h2.lt).trans h2
  · rw [if_neg h0] at h
    exact ⟨_, _, _, _, _, _, h, fun h' => absurd h' h0⟩
theorem heap_set2 (w : World) (r i j b : Nat) (u v : Value) (h : b ≠ r) : ((w.setCell ⟨r, i, none⟩ u).setCell ⟨r, j, none⟩ v).heap[b]? = w.heap[b]? := by
  rw [Below.heap_setCell _ _ _ _ h, Below.heap_setCell _ _ _ _ h]
set_option maxHeartbeats 1000000 in
theorem apply_rows (vx vo : Value) (X O : List Int) (k : Int) (rows : Bool) (a v : Int) (w : World) (hX : Ints w vx X) (hO : Ints w vo O) (hl : X.length ≤ 1000) (hl' : O.length ≤ 1000) (hv : validB X O = true) (hk : ¬ limAt k X.length = 0) (hr : ¬ (a < 0 ∨ limAt k X.length ≤ a ∨ v < 0 ∨ limVar k X.length ≤ v)) :
    Calls Tryz.prog 50 #[.agg #[vx, vo], .agg #[.int .i64 k, .bool true, .int .i64 a, .int .i64 v]] w (GRes w.heap.size w (applyM X O k true a v)) := by
  have hfin := Lib.hid (show applyM X O k true a v = if (colsM (tr X) (tr O) k a.toNat v.toNat).1 = 0 then (0, tr (colsM (tr X) (tr O) k a.toNat v.toNat).2.1, tr (colsM (tr X) (tr O) k a.toNat v.toNat).2.2) else ((colsM (tr X) (tr O) k a.toNat v.toNat).1, [], []) by simp only [applyM]; rw [if_neg (by simp [hv]), if_neg hk, if_neg hr, if_neg (by simp)])
  have hd : (limAt k X.length == 0) = false := by simpa using hk
  have vf := Lib.hid (validB_facts hv)
  have hkk := (not_congr (limAt_zero (k := k) (n := X.length) (by have := vf.out.1; omega))).1 hk
  have HK := Lib.hid (Decidable.not_not.1 hkk)
  have HR := Lib.hid hr
  have r1 : 0 ≤ a := by omega
  have r2 : a < limAt k X.length := by omega
  have r3 : 0 ≤ v := by omega
  have r4 : v < limVar k X.length := by omega
  clear hk hkk hr
  obtain ⟨a, rfl⟩ := Int.eq_ofNat_of_zero_le r1
  obtain ⟨v, rfl⟩ := Int.eq_ofNat_of_zero_le r3
  rw [Int.toNat_natCast, Int.toNat_natCast] at hfin
  have HRR := Lib.hid (fun h0 => colsM_rows (X := tr X) (O := tr O) (a := a) (v := v) HK.out (by rw [tr_length]; exact r2) (by rw [tr_length]; exact r4) (by rw [tr_length]; exact vf.out.1) (by rw [tr_length, tr_length]; exact vf.out.2.2.1) (by rw [tr_length]; exact tr_rows (by have := vf.out.1; omega)) (by rw [tr_length]; have := tr_rows (l := O) (by have := vf.out; omega); rw [← vf.out.2.2.1] at this; exact this) h0)
  have hX0 := hX
  have hO0 := hO
  obtain ⟨A, c, rfl, hc, hh⟩ := hX
  obtain ⟨A', c', rfl, hc', hh'⟩ := hO
  clear hh hh'
  go_enter Tryz.func50, Tryz.ntmps50
  go_wp2_with fail
  have hW : Arr (((w.alloc (.cells #[.slice A X.length c, .slice A' O.length c'] 24)).alloc (.cells #[.int .i64 k, .bool true, .int .i64 (a : Int), .int .i64 (v : Int)] 94)).alloc (.cells #[.slice none 0 0, .slice none 0 0] 24)) w.heap.size 24 [.slice A X.length c, .slice A' O.length c'] ∧ Arr (((w.alloc (.cells #[.slice A X.length c, .slice A' O.length c'] 24)).alloc (.cells #[.int .i64 k, .bool true, .int .i64 (a : Int), .int .i64 (v : Int)] 94)).alloc (.cells #[.slice none 0 0, .slice none 0 0] 24)) (w.heap.size + 1) 94 [.int .i64 k, .bool true, .int .i64 (a : Int), .int .i64 (v : Int)] ∧ Arr (((w.alloc (.cells #[.slice A X.length c, .slice A' O.length c'] 24)).alloc (.cells #[.int .i64 k, .bool true, .int .i64 (a : Int), .int .i64 (v : Int)] 94)).alloc (.cells #[.slice none 0 0, .slice none 0 0] 24)) (w.heap.size + 2) 24 [.slice none 0 0, .slice none 0 0] ∧ Below w.heap.size w (((w.alloc (.cells #[.slice A X.length c, .slice A' O.length c'] 24)).alloc (.cells #[.int .i64 k, .bool true, .int .i64 (a : Int), .int .i64 (v : Int)] 94)).alloc (.cells #[.slice none 0 0, .slice none 0 0] 24)) ∧ (((w.alloc (.cells #[.slice A X.length c, .slice A' O.length c'] 24)).alloc (.cells #[.int .i64 k, .bool true, .int .i64 (a : Int), .int .i64 (v : Int)] 94)).alloc (.cells #[.slice none 0 0, .slice none 0 0] 24)).heap.size = w.heap.size + 3 :=
    ⟨((Arr.new _ _ [_, _]).alloc _).alloc _, (Arr.newAt (w.alloc _) _ [_, _, _, _] _ (by simp)).alloc _, Arr.newAt ((w.alloc _).alloc _) _ [_, _] _ (by simp),
      (((Below.refl _ _).alloc (Nat.le_refl _) _).alloc (by simp) _).alloc (by simp <;> omega) _, by simp⟩
  generalize (((w.alloc (.cells #[.slice A X.length c, .slice A' O.length c'] 24)).alloc (.cells #[.int .i64 k, .bool true, .int .i64 (a : Int), .int .i64 (v : Int)] 94)).alloc (.cells #[.slice none 0 0, .slice none 0 0] 24)) = w4 at hW ⊢
  obtain ⟨q0, q1, q2, hb4, hs4⟩ := hW
  refine (valid_any _ _ X O _ (hX0.below hb4) (hO0.below hb4) hl hl').mono ?_
  rintro e w5 ⟨rfl, hb5⟩
  have hbw5 := hb4.trans (hb5.mono hb4.size)
  have p0 := q0.below hb5 q0.lt
  have p1 := q1.below hb5 q1.lt
  have p2 := q2.below hb5 q2.lt
  have hsz := hb5.size
  rw [hs4] at hsz
  clear q0 q1 q2 hb5 hb4 hs4
  have y0 := p0.cell 0
  have y1 := p0.cell 1
  have z0 := p1.cell 0
  have z1 := p1.cell 1
  have z2 := p1.cell 2
  have z3 := p1.cell 3
  have y2 := p2.cell 0
  have y3 := p2.cell 1
  have y4 := p2.frozen 0
  have y5 := p2.frozen 1
  rw [hv]
  go_wp2_with fail
  refine (limits_any k X.length _ (by omega) (by have := (validB_facts hv).2.1; omega)).mono ?_
  rintro e w6 ⟨rfl, rfl⟩
  have HC := Lib.hid (fun vx vo W hx ho => columns_any vx vo (tr X) (tr O) true a v W hx ho (by rw [tr_length]; exact vf.out.2.1) (by rw [tr_length]; exact vf.out.1) (by rw [tr_length, tr_length]; exact vf.out.2.2.1) (by rw [tr_length]; exact tr_rows (by have := vf.out.1; omega)) (by rw [tr_length]; have := tr_rows (l := O) (by have := vf.out; omega); rw [← vf.out.2.2.1] at this; exact this) k HK.out (by rw [tr_length]; exact r2) (by rw [tr_length]; exact r4))
  have HT := Lib.hid (fun W (hS : W.cell? ⟨w.heap.size, 0, none⟩ = some (.slice A X.length c) ∧ W.cell? ⟨w.heap.size, 1, none⟩ = some (.slice A' O.length c') ∧ W.cell? ⟨w.heap.size + 1, 0, none⟩ = some (.int .i64 k) ∧ W.cell? ⟨w.heap.size + 1, 1, none⟩ = some (.bool true) ∧ W.cell? ⟨w.heap.size + 1, 2, none⟩ = some (.int .i64 (a : Int)) ∧ W.cell? ⟨w.heap.size + 1, 3, none⟩ = some (.int .i64 (v : Int)) ∧ Below w5.heap.size w5 W) => transpose_tr (.slice A X.length c) (.slice A' O.length c') X O W (hX0.below (hbw5.trans (Below.mono hS.2.2.2.2.2.2 hbw5.size))) (hO0.below (hbw5.trans (Below.mono hS.2.2.2.2.2.2 hbw5.size))) vf.out.2.2.1 (by omega) vf.out.2.2.2.1 vf.out.2.2.2.2)
  have HJ := Lib.hid (fun W W' (hS : W.cell? ⟨w.heap.size, 0, none⟩ = some (.slice A X.length c) ∧ W.cell? ⟨w.heap.size, 1, none⟩ = some (.slice A' O.length c') ∧ W.cell? ⟨w.heap.size + 1, 0, none⟩ = some (.int .i64 k) ∧ W.cell? ⟨w.heap.size + 1, 1, none⟩ = some (.bool true) ∧ W.cell? ⟨w.heap.size + 1, 2, none⟩ = some (.int .i64 (a : Int)) ∧ W.cell? ⟨w.heap.size + 1, 3, none⟩ = some (.int .i64 (v : Int)) ∧ Below w5.heap.size w5 W) (hb : Below W.heap.size W W') => Below.trans hS.2.2.2.2.2.2 (hb.mono hS.2.2.2.2.2.2.size))
  have KS := Lib.hid (fun W (hb : Below w5.heap.size w5 W) => (⟨(hb.cell p0.lt).trans y0, (hb.cell p0.lt).trans y1, (hb.cell p1.lt).trans z0, (hb.cell p1.lt).trans z1, (hb.cell p1.lt).trans z2, (hb.cell p1.lt).trans z3, hb⟩ : W.cell? ⟨w.heap.size, 0, none⟩ = some (.slice A X.length c) ∧ W.cell? ⟨w.heap.size, 1, none⟩ = some (.slice A' O.length c') ∧ W.cell? ⟨w.heap.size + 1, 0, none⟩ = some (.int .i64 k) ∧ W.cell? ⟨w.heap.size + 1, 1, none⟩ = some (.bool true) ∧ W.cell? ⟨w.heap.size + 1, 2, none⟩ = some (.int .i64 (a : Int)) ∧ W.cell? ⟨w.heap.size + 1, 3, none⟩ = some (.int .i64 (v : Int)) ∧ Below w5.heap.size w5 W))
  generalize limAt k X.length = la at *
  generalize limVar k X.length = lv at *
  have u1 : decide ((a : Int) < 0) = false := by simp
  have u2 : decide (la ≤ (a : Int)) = false := by simp; omega
  have u3 : decide ((v : Int) < 0) = false := by simp
  have u4 : decide (lv ≤ (v : Int)) = false := by simp; omega
  go_upto_region 10 with fail
  clear u1 u2 u3 u4
  go_cut [8, 9] (fun s8 s9 wx => RowMid w.heap.size wx s8 s9 (colsM (tr X) (tr O) k a v) ∧ Below w.heap.size w wx)
  case first =>
    go_region_held3 (fun w' => w'.cell? ⟨w.heap.size, 0, none⟩ = some (.slice A X.length c) ∧ w'.cell? ⟨w.heap.size, 1, none⟩ = some (.slice A' O.length c') ∧ w'.cell? ⟨w.heap.size + 1, 0, none⟩ = some (.int .i64 k) ∧ w'.cell? ⟨w.heap.size + 1, 1, none⟩ = some (.bool true) ∧ w'.cell? ⟨w.heap.size + 1, 2, none⟩ = some (.int .i64 (a : Int)) ∧ w'.cell? ⟨w.heap.size + 1, 3, none⟩ = some (.int .i64 (v : Int)) ∧ Below w5.heap.size w5 w') ((refine KS.out _ ?_; repeat (first | exact Below.refl _ _ | exact hb8 | exact hb10 | refine Below.drew ?_ | refine Below.alloc ?_ (by first | exact hb10.size | exact hb8.size | exact Nat.le_refl _) _ | refine Below.setCell ?_ (by first | exact hb8.size | exact Nat.le_refl _) _)))
      (first
        | (go_at_call 75; refine (HT.out _ (by assumption)).mono ?_; rintro e w7 ⟨v7, rfl, ⟨gx, go, rfl, e1, e2, e3, a1, a2⟩, hb7⟩; have hb8 := HJ.out _ _ (by assumption) hb7; (first | have hz7 := allocked hb7 | have hz7 := allockedD hb7 | skip); clear hb7; have hi1 := Ints.of_arr a1; have hi2 := Ints.of_arr a2; clear e1 e2 e3 a1 a2)
        | (go_at_call 74; refine (HC.out _ _ _ (by first | exact hi1 | exact hi1.alloc _) (by first | exact hi2 | exact hi2.alloc _)).mono ?_; rintro e w9 ⟨hb9, v9, rfl, hres⟩; obtain ⟨A0, n0, c0, A1, n1, c1, rfl, hin⟩ := gres_parts hres; have hb10 := HJ.out _ _ (by assumption) hb9; (first | have hz9 := Arr.below hz7 hb9 hz7.lt | have hz9 := allocked hb9 | skip); (first | (have x0 := Arr.cell hz9 0; have x1 := Arr.cell hz9 1; have x2 := Arr.frozen hz9 0; have x3 := Arr.frozen hz9 1) | skip); clear hb9 hres))
    · go_wp2_with fail
      go_meet
      exact ⟨⟨w9.heap.size, _, _, rfl, rfl, Arr.new w9 _ [_, _], (p2.below hb10 p2.lt).alloc _, fun h0 => hin h0 _ (fun b _ hb => Below.heap_alloc _ _ _ hb)⟩, hbw5.trans ((hb10.alloc hb10.size _).mono hbw5.size)⟩
    · go_wp2_with fail
      go_meet
      exact ⟨⟨w7.heap.size, _, _, rfl, rfl, (hz9.set 0 _).set 1 _, (p2.below hb10 p2.lt).far2 (r := w7.heap.size) (by have := p2.lt; have := hb8.size; omega), fun h0 => hin h0 _ (fun b hb _ => heap_set2 _ _ _ _ _ _ _ (by simp at hb; omega))⟩, hbw5.trans ((bset2 (r := w7.heap.size) hb10 hb8.size).mono hbw5.size)⟩
    · go_wp2_with fail
      go_meet
      exact ⟨⟨w5.heap.size, _, _, rfl, rfl, (hz9.set 0 _).set 1 _, (p2.below hb10 p2.lt).far2 (r := w5.heap.size) (by have := p2.lt; omega), fun h0 => hin h0 _ (fun b hb _ => heap_set2 _ _ _ _ _ _ _ (by have := hz7.lt; omega))⟩, hbw5.trans ((bset2 (r := w5.heap.size) hb10 (Nat.le_refl _)).mono hbw5.size)⟩
  case rest =>
    clear y0 y1 z0 z1 z2 z3 y2 y3 y4 y5 p0 p1 p2 HC HT HJ KS hd
    obtain ⟨⟨g, v0, v1, rfl, rfl, hg, hr, hin⟩, hbw⟩ := hcut
    generalize colsM (tr X) (tr O) k a v = R at *
    obtain ⟨R1, R2, R3⟩ := R
    simp only at hin HRR hfin
    have s0 := hr.cell 0
    have s1 := hr.cell 1
    have s2 := hr.frozen 0
    have s3 := hr.frozen 1
    have t0 := hg.cell 0
    have t1 := hg.cell 1
    by_cases h0 : R1 = 0
    · subst h0
      have hfin := Lib.hid (hfin.out.trans (if_pos rfl))
      obtain ⟨m, m1, m2, m3, m4, m5, m6⟩ := HRR.out rfl
      obtain ⟨i1, i2⟩ := hin rfl
      have M1 := Lib.hid m1
      have M2 := Lib.hid m2
      clear m1 m2
      go_wp2_with fail
      refine (transpose_tr _ _ R2 R3 _ i1 i2 (by rw [M1.out, M2.out]) (by have := M1.out; have := vf.out; rw [tr_length] at m4; omega) (by rw [M1.out]; exact m5) (by rw [M1.out]; exact m6)).mono ?_
      rintro e w7 ⟨v7, rfl, ⟨gx, go, rfl, e1, e2, e3, a1, a2⟩, hb7⟩
      have hr' := hr.below hb7 hr.lt
      have hbw' := hbw.trans (hb7.mono hbw.size)
      have hlt := hr.lt
      clear s0 s1 s2 s3
      have s0 := hr'.cell 0
      have s1 := hr'.cell 1
      have s2 := hr'.frozen 0
      have s3 := hr'.frozen 1
      have hres := Lib.hid ((hr'.set 0 (.slice (some ⟨gx, 0, none⟩) (tr R2).length (tr R2).length)).set 1 (.slice (some ⟨go, 0, none⟩) (tr R3).length (tr R3).length))
      go_wp2_with fail
      refine bodyPost_ret (v := .tuple #[.agg #[.slice (some ⟨gx, 0, none⟩) (tr R2).length (tr R2).length, .slice (some ⟨go, 0, none⟩) (tr R3).length (tr R3).length], .int .i64 0]) (results_ct Tryz.results50 _ _ (w.heap.size + 2) 24 _ _ rfl hres.out Tryz.underlying24 rfl info_grid) rfl ?_
      rw [hfin.out]
      exact GRes.ok (bset2 (r := w.heap.size + 2) hbw' (by omega)) ⟨gx, go, rfl, e1, by omega, by omega, a1.far2 (r := w.heap.size + 2) (by omega), a2.far2 (r := w.heap.size + 2) (by omega)⟩
    · have hfin := Lib.hid (hfin.out.trans (if_neg h0))
      have hb0 : (R1 != 0) = true := by simpa using h0
      have H0 := Lib.hid h0
      clear h0
      have hres := Lib.hid ((hr.set 0 (.slice none 0 0)).set 1 (.slice none 0 0))
      go_wp2_with fail
      refine bodyPost_ret (v := .tuple #[.agg #[.slice none 0 0, .slice none 0 0], .int .i64 R1]) (results_ct Tryz.results50 _ _ (w.heap.size + 2) 24 _ _ rfl hres.out Tryz.underlying24 rfl info_grid) rfl ?_
      rw [hfin.out]
      exact ⟨bset2 (r := w.heap.size + 2) hbw (by omega), _, rfl, by rw [if_neg H0.out]⟩
end Go.Proofs.YteliflcbegcdlaaGreatDoor

namespace Go.Proofs.YteliflcbegcdlaaGreatDoor
set_option linter.unusedVariables false
open Go.RowKit
/-- each number from 0 on below the length, once -/
def Pm (l : List Int) : Prop := Rows l.length l ∧ l.Nodup
theorem permFrom_iff (n : Nat) : ∀ (l s : List Int), permFrom n s l = true ↔ (Rows n l ∧ (∀ x ∈ l, x ∉ s) ∧ l.Nodup) := by
  intro l
  induction l with
  | nil => intro s; simp [permFrom, Rows]
  | cons y ys ih =>
    intro s
    simp only [permFrom, Bool.and_eq_true, decide_eq_true_eq, Bool.not_eq_true', ih]
    constructor
    · rintro ⟨⟨⟨h1, h2⟩, h3⟩, h4, h5, h6⟩
      refine ⟨fun x hx => ?_, fun x hx => ?_, List.nodup_cons.2 ⟨fun hy => ?_, h6⟩⟩
      · rcases List.mem_cons.1 hx with rfl | hx
        · exact ⟨h1, h2⟩
        · exact h4 x hx
      · rcases List.mem_cons.1 hx with rfl | hx
        · simpa using h3
        · intro hs; exact h5 x hx (List.mem_append.2 (.inl hs))
      · exact h5 y hy (by simp)
    · rintro ⟨h1, h2, h3⟩
      obtain ⟨h4, h5⟩ := List.nodup_cons.1 h3
      refine ⟨⟨h1 y (by simp), by simpa using h2 y (by simp)⟩, fun x hx => h1 x (by simp [hx]), fun x hx hs => ?_, h5⟩
      rcases List.mem_append.1 hs with hs | hs
      · exact h2 x (by simp [hx]) hs
      · rw [List.mem_singleton.1 hs] at hx; exact h4 hx
theorem permB_iff (l : List Int) : permB l = true ↔ Pm l := by
  unfold permB Pm
  rw [permFrom_iff]
  simp
theorem neqB_iff : ∀ (X O : List Int), X.length = O.length → (neqB X O = true ↔ ∀ k (h : k < X.length) (h' : k < O.length), X[k] ≠ O[k]) := by
  intro X
  induction X with
  | nil => intro O h; simp [neqB]
  | cons x xs ih =>
    intro O h
    cases O with
    | nil => simp at h
    | cons o os =>
      have ih' := ih os (by simpa using h)
      simp only [neqB, List.zip_cons_cons, List.all_cons, Bool.and_eq_true] at ih' ⊢
      rw [ih']
      constructor
      · rintro ⟨h1, h2⟩ k hk hk'
        cases k with
        | zero => simpa using h1
        | succ k => simpa using h2 k (by simpa using hk) (by simpa using hk')
      · intro hh
        exact ⟨bne_iff_ne.2 (show x ≠ o from hh 0 (by simp) (by simp)), fun k hk hk' => (show xs[k] ≠ os[k] from hh (k + 1) (by simpa using hk) (by simpa using hk'))⟩
/-- a valid grid -/
structure Vd (X O : List Int) : Prop where
  two : 2 ≤ X.length
  most : X.length ≤ 40
  len : X.length = O.length
  pX : Pm X
  pO : Pm O
  ne : ∀ k (h : k < X.length) (h' : k < O.length), X[k] ≠ O[k]
theorem validB_iff (X O : List Int) : validB X O = true ↔ Vd X O := by
  simp only [validB, Bool.and_eq_true, decide_eq_true_eq, permB_iff]
  constructor
  · rintro ⟨⟨⟨⟨⟨h1, h2⟩, h3⟩, h4⟩, h5⟩, h6⟩
    exact ⟨h1, h2, h3.symm, h5, h6, (neqB_iff X O h3.symm).1 h4⟩
  · rintro ⟨h1, h2, h3, h4, h5, h6⟩
    exact ⟨⟨⟨⟨⟨h1, h2⟩, h3.symm⟩, (neqB_iff X O h3).2 h6⟩, h4⟩, h5⟩
theorem Pm.inj {l : List Int} (h : Pm l) {i j : Nat} (hi : i < l.length) (hj : j < l.length) (e : l[i] = l[j]) : i = j := (List.getElem_inj h.2).1 e
theorem Pm.get {l : List Int} (h : Pm l) {i : Nat} (hi : i < l.length) : 0 ≤ l[i] ∧ l[i] < l.length := h.1.get hi
/-- every row occurs -/
theorem Pm.surj {l : List Int} (h : Pm l) {j : Nat} (hj : j < l.length) : ∃ k, ∃ hk : k < l.length, l[k] = (j : Int) := by
  have hm : (j : Int) ∈ l := by
    apply Classical.byContradiction
    intro hn
    have h1 : ((j : Int) :: l).Nodup := List.nodup_cons.2 ⟨hn, h.2⟩
    have h2 : ((j : Int) :: l) ⊆ (List.range l.length).map (fun i : Nat => (i : Int)) := by
      intro x hx
      rcases List.mem_cons.1 hx with rfl | hx
      · exact List.mem_map.2 ⟨j, List.mem_range.2 hj, rfl⟩
      · obtain ⟨h3, h4⟩ := h.1 x hx
        exact List.mem_map.2 ⟨x.toNat, List.mem_range.2 (by omega), by omega⟩
    have h3 := h1.length_le_of_subset h2
    simp at h3
    omega
  obtain ⟨k, hk, e⟩ := List.mem_iff_getElem.1 hm
  exact ⟨k, hk, e⟩
theorem Pm.mk_inj {l : List Int} (h : Rows l.length l) (hi : ∀ i j (hi : i < l.length) (hj : j < l.length), l[i] = l[j] → i = j) : Pm l := by
  refine ⟨h, ?_⟩
  rw [List.nodup_iff_pairwise_ne, List.pairwise_iff_getElem]
  intro i j hi' hj' hlt e
  have := hi i j hi' hj' e
  omega
section
variable {mv : Int → Int → Bool → Int × Int} {b : Bool}
theorem relStep_other {i : Nat} {x : Int} {acc : List Int} {j : Nat} (h : (mv i x b).1 ≠ (j : Int)) : (relStep mv b i x acc)[j]? = acc[j]? := by
  unfold relStep
  split
  · rw [List.getElem?_set_ne (by omega)]
  · rfl
theorem relTo_other (xs : List Int) : ∀ (i : Nat) (acc : List Int) (j : Nat), (∀ k (h : k < xs.length), (mv (i + k : Nat) xs[k] b).1 ≠ (j : Int)) → (relTo mv b i xs acc)[j]? = acc[j]? := by
  induction xs with
  | nil => intro i acc j _; rfl
  | cons x xs ih =>
    intro i acc j h
    rw [relTo, ih (i + 1) _ j (fun k hk => by have := h (k + 1) (by simpa using hk); rw [show i + 1 + k = i + (k + 1) from by omega]; simpa using this)]
    exact relStep_other (by have := h 0 (by simp); simpa using this)
theorem relTo_get (xs : List Int) : ∀ (i : Nat) (acc : List Int) (j k : Nat) (hk : k < xs.length), j < acc.length → (mv (i + k : Nat) xs[k] b).1 = (j : Int) →
    (∀ k' (h : k' < xs.length), k' ≠ k → (mv (i + k' : Nat) xs[k'] b).1 ≠ (j : Int)) → (relTo mv b i xs acc)[j]? = some (mv (i + k : Nat) xs[k] b).2 := by
  induction xs with
  | nil => intro i acc j k hk; simp at hk
  | cons x xs ih =>
    intro i acc j k hk hj he hne
    rw [relTo]
    cases k with
    | zero =>
      rw [relTo_other xs (i + 1) _ j (fun k hk => by have := hne (k + 1) (by simpa using hk) (by omega); rw [show i + 1 + k = i + (k + 1) from by omega]; simpa using this)]
      simp only [Nat.add_zero, List.getElem_cons_zero] at he ⊢
      unfold relStep
      rw [if_pos (by omega), he]
      simp [hj]
    | succ k =>
      have := ih (i + 1) (relStep mv b i x acc) j k (by simpa using hk) (by rw [relStep_length]; exact hj) (by rw [show i + 1 + k = i + (k + 1) from by omega]; simpa using he)
        (fun k' h hk' => by have := hne (k' + 1) (by simpa using h) (by omega); rw [show i + 1 + k' = i + (k' + 1) from by omega]; simpa using this)
      rw [this, show i + 1 + k = i + (k + 1) from by omega]
      simp
/-- what stands at the place j: the mark of the one column that is led there -/
theorem reloc_get {xs : List Int} {n j k : Nat} (hk : k < xs.length) (hj : j < n) (he : (mv k xs[k] b).1 = (j : Int))
    (hne : ∀ k' (h : k' < xs.length), k' ≠ k → (mv k' xs[k'] b).1 ≠ (j : Int)) : (reloc mv b n xs)[j]? = some (mv k xs[k] b).2 := by
  have := relTo_get (mv := mv) (b := b) xs 0 (List.replicate n 0) j k hk (by simpa using hj) (by simpa using he) (fun k' h hk' => by simpa using hne k' h hk')
  simpa [reloc] using this
end
/-- the transposed list leads back -/
theorem tr_get {l : List Int} (h : Pm l) {k : Nat} (hk : k < l.length) : (tr l)[l[k].toNat]? = some (k : Int) := by
  have hg := h.get hk
  refine (reloc_get (mv := mvT) hk (by omega) (by simp only [mvT]; omega) (fun k' h' hne => ?_)).trans rfl
  simp only [mvT]
  intro e
  exact hne (h.inj h' hk (by omega))
theorem tr_get' {l : List Int} (h : Pm l) {j : Nat} (hj : j < l.length) : ∃ k, ∃ hk : k < l.length, l[k] = (j : Int) ∧ (tr l)[j]? = some (k : Int) := by
  obtain ⟨k, hk, e⟩ := h.surj hj
  refine ⟨k, hk, e, ?_⟩
  have := tr_get h hk
  rw [e] at this
  exact this
theorem tr_pm {l : List Int} (h : Pm l) : Pm (tr l) := by
  refine Pm.mk_inj ?_ (fun i j hi hj e => ?_)
  · rw [tr_length]
    intro x hx
    obtain ⟨j, hj, rfl⟩ := List.mem_iff_getElem.1 hx
    rw [tr_length] at hj
    obtain ⟨k, hk, _, e⟩ := tr_get' h hj
    have := (List.getElem?_eq_some_iff.1 e).2
    omega
  · rw [tr_length] at hi hj
    obtain ⟨k, hk, e1, e2⟩ := tr_get' h hi
    obtain ⟨k', hk', e3, e4⟩ := tr_get' h hj
    have e5 := (List.getElem?_eq_some_iff.1 e2).2
    have e6 := (List.getElem?_eq_some_iff.1 e4).2
    have : k = k' := by omega
    subst this
    omega
theorem tr_tr {l : List Int} (h : Pm l) : tr (tr l) = l := by
  apply List.ext_getElem?
  intro k
  by_cases hk : k < l.length
  · have hg := h.get hk
    have e1 := tr_get h hk
    have hlt : l[k].toNat < (tr l).length := by rw [tr_length]; omega
    have e2 := tr_get (tr_pm h) hlt
    have e3 := (List.getElem?_eq_some_iff.1 e1).2
    rw [e3] at e2
    simp only [Int.toNat_natCast] at e2
    rw [e2, List.getElem?_eq_getElem hk]
    congr 1
    omega
  · rw [List.getElem?_eq_none (by rw [tr_length, tr_length]; omega), List.getElem?_eq_none (by omega)]
theorem tr_vd {X O : List Int} (h : Vd X O) : Vd (tr X) (tr O) := by
  refine ⟨by rw [tr_length]; exact h.two, by rw [tr_length]; exact h.most, by rw [tr_length, tr_length]; exact h.len, tr_pm h.pX, tr_pm h.pO, fun j hj hj' e => ?_⟩
  rw [tr_length] at hj hj'
  obtain ⟨k, hk, e1, e2⟩ := tr_get' h.pX hj
  obtain ⟨k', hk', e3, e4⟩ := tr_get' h.pO hj'
  have e5 := (List.getElem?_eq_some_iff.1 e2).2
  have e6 := (List.getElem?_eq_some_iff.1 e4).2
  have : k = k' := by omega
  subst this
  exact h.ne k hk hk' (by omega)
end Go.Proofs.YteliflcbegcdlaaGreatDoor

namespace Go.Proofs.YteliflcbegcdlaaGreatDoor
set_option linter.unusedVariables false
open Go.RowKit
def rotL (X : List Int) : List Int := X.drop 1 ++ X.take 1
def swapL (X : List Int) (a : Nat) : List Int := (X.set a (X.getD (a + 1) 0)).set (a + 1) (X.getD a 0)
def lowr (r : Int) (x : Int) : Int := if r < x then x - 1 else x
def upr (r : Int) (too : Bool) (x : Int) : Int := if r < x ∨ (x = r ∧ too = true) then x + 1 else x
def delL (X : List Int) (a : Nat) (r : Int) : List Int := (X.take a ++ X.drop (a + 1)).map (lowr r)
def addL (X : List Int) (a : Nat) (r : Int) (too : Bool) (y : Int) : List Int := (X.map (upr r too)).take a ++ y :: (X.map (upr r too)).drop a
theorem rotL_length (X : List Int) : (rotL X).length = X.length := by simp [rotL]; omega
theorem swapL_length (X : List Int) (a : Nat) : (swapL X a).length = X.length := by simp [swapL]
theorem delL_length (X : List Int) (a : Nat) (r : Int) (h : a < X.length) : (delL X a r).length = X.length - 1 := by simp [delL]; omega
theorem addL_length (X : List Int) (a : Nat) (r : Int) (t : Bool) (y : Int) (h : a ≤ X.length) : (addL X a r t y).length = X.length + 1 := by simp [addL]; omega
theorem rotL_get (X : List Int) (j : Nat) (hj : j < X.length) : (rotL X)[j]? = X[(j + 1) % X.length]? := by
  unfold rotL
  by_cases h : j + 1 < X.length
  · rw [Nat.mod_eq_of_lt h, List.getElem?_append_left (by simp; omega), List.getElem?_drop, Nat.add_comm]
  · have e : j + 1 = X.length := by omega
    rw [e, Nat.mod_self, List.getElem?_append_right (by simp; omega), List.length_drop, List.getElem?_take]
    rw [show j - (X.length - 1) = 0 from by omega]
    simp
theorem swapL_get (X : List Int) (a j : Nat) (ha : a + 1 < X.length) : (swapL X a)[j]? = X[if j = a then a + 1 else if j = a + 1 then a else j]? := by
  unfold swapL
  by_cases h1 : j = a + 1
  · subst h1
    rw [if_neg (by omega), if_pos rfl, List.getElem?_set_self (by simp; omega), List.getD_eq_getElem?_getD, List.getElem?_eq_getElem (by omega)]
    rfl
  · rw [List.getElem?_set_ne (by omega)]
    by_cases h2 : j = a
    · subst h2
      rw [if_pos rfl, List.getElem?_set_self (by omega), List.getD_eq_getElem?_getD, List.getElem?_eq_getElem (by omega)]
      rfl
    · rw [List.getElem?_set_ne (by omega), if_neg h2, if_neg h1]
theorem delL_get (X : List Int) (a j : Nat) (r : Int) (ha : a < X.length) : (delL X a r)[j]? = (X[if j < a then j else j + 1]?).map (lowr r) := by
  unfold delL
  rw [List.getElem?_map]
  congr 1
  by_cases h : j < a
  · rw [if_pos h, List.getElem?_append_left (by simp; omega), List.getElem?_take, if_pos h]
  · rw [if_neg h, List.getElem?_append_right (by simp; omega), List.getElem?_drop, List.length_take]
    congr 1
    omega
theorem addL_get (X : List Int) (a j : Nat) (r : Int) (t : Bool) (y : Int) (ha : a ≤ X.length) :
    (addL X a r t y)[j]? = if j = a then some y else (X[if j < a then j else j - 1]?).map (upr r t) := by
  unfold addL
  by_cases h : j < a
  · rw [if_neg (by omega), if_pos h, List.getElem?_append_left (by simp; omega), List.getElem?_take, if_pos h, List.getElem?_map]
  · rw [List.getElem?_append_right (by simp; omega), List.length_take, List.length_map]
    by_cases h2 : j = a
    · subst h2
      rw [if_pos rfl, show j - min j X.length = 0 from by omega]
      rfl
    · rw [if_neg h2, if_neg h, show j - min a X.length = (j - 1 - a) + 1 from by omega, List.getElem?_cons_succ, List.getElem?_drop, List.getElem?_map]
      rw [show a + (j - 1 - a) = j - 1 from by omega]
theorem mvRot_col (n k j : Nat) (hn : 2 ≤ n) (hk : k < n) (hj : j < n) : (((k : Int) + n - 1) % (n : Int) = (j : Int)) ↔ k = (j + 1) % n := by
  by_cases h : j + 1 < n
  · rw [Nat.mod_eq_of_lt h]
    by_cases h0 : k = 0
    · subst h0
      rw [show (((0 : Nat) : Int) + n - 1) = ((n - 1 : Nat) : Int) from by omega, ← Int.natCast_emod, Nat.mod_eq_of_lt (by omega)]
      omega
    · rw [show ((k : Int) + n - 1) = ((k - 1 + n : Nat) : Int) from by omega, ← Int.natCast_emod, Nat.add_mod_right, Nat.mod_eq_of_lt (by omega)]
      omega
  · have e : j + 1 = n := by omega
    rw [e, Nat.mod_self]
    by_cases h0 : k = 0
    · subst h0
      rw [show (((0 : Nat) : Int) + n - 1) = ((n - 1 : Nat) : Int) from by omega, ← Int.natCast_emod, Nat.mod_eq_of_lt (by omega)]
      omega
    · rw [show ((k : Int) + n - 1) = ((k - 1 + n : Nat) : Int) from by omega, ← Int.natCast_emod, Nat.add_mod_right, Nat.mod_eq_of_lt (by omega)]
      omega
theorem reloc_rot (X : List Int) (b : Bool) (hn : 2 ≤ X.length) : reloc (mvRot X.length) b X.length X = rotL X := by
  apply List.ext_getElem?
  intro j
  by_cases hj : j < X.length
  · rw [rotL_get X j hj]
    have hk : (j + 1) % X.length < X.length := Nat.mod_lt _ (by omega)
    rw [List.getElem?_eq_getElem hk]
    refine (reloc_get (mv := mvRot X.length) hk hj ?_ (fun k' h hne => ?_)).trans rfl
    · exact (mvRot_col _ _ _ hn hk hj).2 rfl
    · intro e
      exact hne ((mvRot_col _ _ _ hn h hj).1 e)
  · rw [List.getElem?_eq_none (by rw [reloc_length]; omega), List.getElem?_eq_none (by rw [rotL_length]; omega)]
theorem reloc_swap (X : List Int) (a : Nat) (b : Bool) (ha : a + 1 < X.length) : reloc (mvSwap a) b X.length X = swapL X a := by
  apply List.ext_getElem?
  intro j
  by_cases hj : j < X.length
  · rw [swapL_get X a j ha]
    have hk : (if j = a then a + 1 else if j = a + 1 then a else j) < X.length := by split <;> (try split) <;> omega
    rw [List.getElem?_eq_getElem hk]
    refine (reloc_get (mv := mvSwap a) hk hj ?_ (fun k' h hne => ?_)).trans rfl
    · simp only [mvSwap]
      repeat' split
      all_goals omega
    · intro e
      apply hne
      simp only [mvSwap] at e
      revert e
      repeat' split
      all_goals omega
  · rw [List.getElem?_eq_none (by rw [reloc_length]; omega), List.getElem?_eq_none (by rw [swapL_length]; omega)]
theorem reloc_del (X : List Int) (a : Nat) (low : Int) (b : Bool) (ha : a < X.length) : reloc (mvDel low a) b (X.length - 1) X = delL X a low := by
  apply List.ext_getElem?
  intro j
  by_cases hj : j < X.length - 1
  · rw [delL_get X a j low ha]
    have hk : (if j < a then j else j + 1) < X.length := by split <;> omega
    rw [List.getElem?_eq_getElem hk]
    refine (reloc_get (mv := mvDel low a) hk hj ?_ (fun k' h hne => ?_)).trans rfl
    · simp only [mvDel]
      repeat' split
      all_goals omega
    · intro e
      apply hne
      simp only [mvDel] at e
      revert e
      repeat' split
      all_goals omega
  · rw [List.getElem?_eq_none (by rw [reloc_length]; omega), List.getElem?_eq_none (by rw [delL_length _ _ _ ha]; omega)]
theorem reloc_add (X : List Int) (a : Nat) (r : Int) (st b : Bool) (y : Int) (ha : a ≤ X.length) : (reloc (mvAdd r st a) b (X.length + 1) X).set a y = addL X a r (b != st) y := by
  apply List.ext_getElem?
  intro j
  by_cases hj : j < X.length + 1
  · rw [addL_get X a j r _ y ha]
    by_cases h2 : j = a
    · subst h2
      rw [if_pos rfl, List.getElem?_set_self (by rw [reloc_length]; omega)]
    · rw [if_neg h2, List.getElem?_set_ne (by omega)]
      have hk : (if j < a then j else j - 1) < X.length := by split <;> omega
      rw [List.getElem?_eq_getElem hk]
      refine (reloc_get (mv := mvAdd r st a) hk hj ?_ (fun k' h hne => ?_)).trans ?_
      · simp only [mvAdd]
        repeat' split
        all_goals omega
      · intro e
        apply hne
        simp only [mvAdd] at e
        revert e
        repeat' split
        all_goals omega
      · simp [mvAdd, upr]
  · rw [List.getElem?_eq_none (by rw [List.length_set, reloc_length]; omega), List.getElem?_eq_none (by rw [addL_length _ _ _ _ _ ha]; omega)]
end Go.Proofs.YteliflcbegcdlaaGreatDoor

namespace Go.Proofs.YteliflcbegcdlaaGreatDoor
set_option linter.unusedVariables false
open Go.RowKit
/-- a move of columns, as operations on lists -/
def colsL (X O : List Int) (k : Int) (a v : Nat) : Int × List Int × List Int :=
  if k = 1 then (0, rotL X, rotL O)
  else if k = 2 then (if commB (X.getD a 0) (O.getD a 0) (X.getD (a + 1) 0) (O.getD (a + 1) 0) then (0, swapL X a, swapL O a) else (6, [], []))
  else if k = 3 then (if desOk X O a (X.getD a 0) (O.getD a 0) then (0, delL X a (minG (X.getD a 0) (O.getD a 0)), delL O a (minG (X.getD a 0) (O.getD a 0))) else (6, [], []))
  else if X.length = 40 then (5, [], [])
  else (0, addL X a (v / 2 : Nat) (true != decide (v % 2 = 0)) (if decide (v % 2 = 0) = true then (v / 2 : Nat) + 1 else (v / 2 : Nat)), addL O a (v / 2 : Nat) (false != decide (v % 2 = 0)) (if decide (v % 2 = 0) = true then (v / 2 : Nat) else (v / 2 : Nat) + 1))
theorem colsM_eq {X O : List Int} {k : Int} {a v : Nat} (hl : 2 ≤ X.length) (hlen : X.length = O.length) (hk : 1 ≤ k ∧ k ≤ 4) (ha : a < limAt k X.length) : colsM X O k a v = colsL X O k a v := by
  unfold colsM colsL
  by_cases k1 : k = 1
  · rw [if_pos k1, if_pos k1]
    unfold rotM
    rw [reloc_rot X true hl]
    have : reloc (mvRot X.length) false X.length O = rotL O := by rw [hlen]; exact reloc_rot O false (by omega)
    rw [this]
  rw [if_neg k1, if_neg k1]
  by_cases k2 : k = 2
  · rw [if_pos k2, if_pos k2]
    have ha' : a + 1 < X.length := by rw [k2] at ha; simp only [limAt] at ha; simp at ha; omega
    unfold swapM
    have : reloc (mvSwap a) false X.length O = swapL O a := by rw [hlen]; exact reloc_swap O a false (by omega)
    rw [reloc_swap X a true ha', this]
  rw [if_neg k2, if_neg k2]
  by_cases k3 : k = 3
  · rw [if_pos k3, if_pos k3]
    have ha' : a < X.length := by rw [k3] at ha; simp only [limAt] at ha; simpa using ha
    unfold desM
    have : reloc (mvDel (minG (X.getD a 0) (O.getD a 0)) a) false (X.length - 1) O = delL O a (minG (X.getD a 0) (O.getD a 0)) := by rw [hlen]; exact reloc_del O a _ false (by omega)
    rw [reloc_del X a _ true ha', this]
  rw [if_neg k3, if_neg k3]
  have k4 : k = 4 := by omega
  subst k4
  have ha' : a ≤ X.length := by simp only [limAt] at ha; simp at ha; omega
  unfold staM staX staO
  have : ∀ st y, (reloc (mvAdd (v / 2 : Nat) st a) false (X.length + 1) O).set a y = addL O a (v / 2 : Nat) (false != st) y := by intro st y; rw [hlen]; exact reloc_add O a _ st false y (by omega)
  rw [reloc_add X a _ _ true _ ha', this]
theorem Vd.of_get {X O : List Int} {n : Nat} (h2 : 2 ≤ n) (h40 : n ≤ 40) (lX : X.length = n) (lO : O.length = n) (rX : ∀ j (h : j < X.length), 0 ≤ X[j] ∧ X[j] < n) (rO : ∀ j (h : j < O.length), 0 ≤ O[j] ∧ O[j] < n)
    (iX : ∀ i j (hi : i < X.length) (hj : j < X.length), X[i] = X[j] → i = j) (iO : ∀ i j (hi : i < O.length) (hj : j < O.length), O[i] = O[j] → i = j) (hne : ∀ k (h : k < X.length) (h' : k < O.length), X[k] ≠ O[k]) : Vd X O := by
  refine ⟨by omega, by omega, by omega, Pm.mk_inj ?_ iX, Pm.mk_inj ?_ iO, hne⟩
  · intro x hx
    obtain ⟨j, hj, rfl⟩ := List.mem_iff_getElem.1 hx
    rw [lX]; exact rX j hj
  · intro x hx
    obtain ⟨j, hj, rfl⟩ := List.mem_iff_getElem.1 hx
    rw [lO]; exact rO j hj
theorem get_of {l : List Int} {j : Nat} (hj : j < l.length) {x : Int} (h : l[j]? = some x) : l[j] = x := (List.getElem?_eq_some_iff.1 h).2
theorem rotL_at (X : List Int) {j : Nat} (hj : j < (rotL X).length) : ∃ h : (j + 1) % X.length < X.length, (rotL X)[j] = X[(j + 1) % X.length] := by
  rw [rotL_length] at hj
  have hk : (j + 1) % X.length < X.length := Nat.mod_lt _ (by omega)
  exact ⟨hk, get_of _ ((rotL_get X j hj).trans (List.getElem?_eq_getElem hk))⟩
theorem mod_inj {i j n : Nat} (hi : i < n) (hj : j < n) (h : (i + 1) % n = (j + 1) % n) : i = j := by
  by_cases h1 : i + 1 < n
  · rw [Nat.mod_eq_of_lt h1] at h
    by_cases h2 : j + 1 < n
    · rw [Nat.mod_eq_of_lt h2] at h; omega
    · rw [show j + 1 = n from by omega, Nat.mod_self] at h; omega
  · rw [show i + 1 = n from by omega, Nat.mod_self] at h
    by_cases h2 : j + 1 < n
    · rw [Nat.mod_eq_of_lt h2] at h; omega
    · omega
theorem rotL_vd {X O : List Int} (h : Vd X O) : Vd (rotL X) (rotL O) := by
  refine Vd.of_get h.two h.most (rotL_length X) (by rw [rotL_length]; exact h.len.symm) (fun j hj => ?_) (fun j hj => ?_) (fun i j hi hj e => ?_) (fun i j hi hj e => ?_) (fun k hk hk' e => ?_)
  · obtain ⟨h1, e1⟩ := rotL_at X hj
    rw [e1]; exact h.pX.get h1
  · obtain ⟨h1, e1⟩ := rotL_at O hj
    rw [e1, h.len]; exact h.pO.get h1
  · obtain ⟨h1, e1⟩ := rotL_at X hi
    obtain ⟨h2, e2⟩ := rotL_at X hj
    rw [rotL_length] at hi hj
    exact mod_inj hi hj (h.pX.inj h1 h2 (by omega))
  · obtain ⟨h1, e1⟩ := rotL_at O hi
    obtain ⟨h2, e2⟩ := rotL_at O hj
    rw [rotL_length] at hi hj
    exact mod_inj hi hj (h.pO.inj h1 h2 (by omega))
  · obtain ⟨h1, e1⟩ := rotL_at X hk
    obtain ⟨h2, e2⟩ := rotL_at O hk'
    rw [e1, e2] at e
    have hl := h.len
    have e3 : (k + 1) % X.length = (k + 1) % O.length := by rw [hl]
    exact h.ne ((k + 1) % X.length) h1 (by omega) (by rw [e]; congr 1; exact e3.symm)
theorem swapL_at (X : List Int) {a j : Nat} (ha : a + 1 < X.length) (hj : j < (swapL X a).length) : ∃ c, ∃ h : c < X.length, (c = if j = a then a + 1 else if j = a + 1 then a else j) ∧ (swapL X a)[j] = X[c] := by
  rw [swapL_length] at hj
  have hk : (if j = a then a + 1 else if j = a + 1 then a else j) < X.length := by split <;> (try split) <;> omega
  exact ⟨_, hk, rfl, get_of _ ((swapL_get X a j ha).trans (List.getElem?_eq_getElem hk))⟩
theorem swapL_vd {X O : List Int} {a : Nat} (h : Vd X O) (ha : a + 1 < X.length) : Vd (swapL X a) (swapL O a) := by
  have hao : a + 1 < O.length := by have := h.len; omega
  refine Vd.of_get h.two h.most (swapL_length X a) (by rw [swapL_length]; exact h.len.symm) (fun j hj => ?_) (fun j hj => ?_) (fun i j hi hj e => ?_) (fun i j hi hj e => ?_) (fun k hk hk' e => ?_)
  · obtain ⟨c, h1, _, e1⟩ := swapL_at X ha hj
    rw [e1]; exact h.pX.get h1
  · obtain ⟨c, h1, _, e1⟩ := swapL_at O hao hj
    rw [e1, h.len]; exact h.pO.get h1
  · obtain ⟨c, h1, q1, e1⟩ := swapL_at X ha hi
    obtain ⟨d, h2, q2, e2⟩ := swapL_at X ha hj
    have := h.pX.inj h1 h2 (by omega)
    subst this
    revert q1 q2
    repeat' split
    all_goals omega
  · obtain ⟨c, h1, q1, e1⟩ := swapL_at O hao hi
    obtain ⟨d, h2, q2, e2⟩ := swapL_at O hao hj
    have := h.pO.inj h1 h2 (by omega)
    subst this
    revert q1 q2
    repeat' split
    all_goals omega
  · obtain ⟨c, h1, q1, e1⟩ := swapL_at X ha hk
    obtain ⟨d, h2, q2, e2⟩ := swapL_at O hao hk'
    have : c = d := by rw [q1, q2]
    subst this
    exact h.ne c h1 h2 (by omega)
theorem delL_at (X : List Int) {a j : Nat} {r : Int} (ha : a < X.length) (hj : j < (delL X a r).length) : ∃ c, ∃ h : c < X.length, c ≠ a ∧ (c = if j < a then j else j + 1) ∧ (delL X a r)[j] = lowr r X[c] := by
  rw [delL_length _ _ _ ha] at hj
  have hk : (if j < a then j else j + 1) < X.length := by split <;> omega
  refine ⟨_, hk, by split <;> omega, rfl, get_of _ ((delL_get X a j r ha).trans ?_)⟩
  rw [List.getElem?_eq_getElem hk]; rfl
theorem desAll_spec (a : Nat) (x o : Int) : ∀ (X O : List Int) (i : Nat), X.length = O.length → desAll a x o i X O = true → ∀ k (h : k < X.length) (h' : k < O.length), i + k ≠ a → ¬ (O[k] = x ∧ X[k] = o) := by
  intro X
  induction X with
  | nil => intro O i _ _ k h; simp at h
  | cons p ps ih =>
    intro O i hl hd k h h' hne hh
    cases O with
    | nil => simp at hl
    | cons q qs =>
      rw [desAll, Bool.and_eq_true] at hd
      cases k with
      | zero =>
        simp only [List.getElem_cons_zero] at hh
        have := hd.1
        simp [hh.1, hh.2] at this
        omega
      | succ k =>
        exact ih qs (i + 1) (by simpa using hl) hd.2 k (by simpa using h) (by simpa using h') (by omega) (by simpa using hh)
theorem delL_vd {X O : List Int} {a : Nat} (h : Vd X O) (ha : a < X.length) (hd : desOk X O a (X.getD a 0) (O.getD a 0) = true) :
    Vd (delL X a (minG (X.getD a 0) (O.getD a 0))) (delL O a (minG (X.getD a 0) (O.getD a 0))) := by
  have hao : a < O.length := by have := h.len; omega
  have gx : X.getD a 0 = X[a] := by simp [List.getD_eq_getElem?_getD, ha]
  have go : O.getD a 0 = O[a] := by simp [List.getD_eq_getElem?_getD, hao]
  rw [gx, go] at hd ⊢
  simp only [desOk, Bool.and_eq_true, decide_eq_true_eq] at hd
  obtain ⟨⟨h3, hm⟩, hall⟩ := hd
  have hsp := desAll_spec a X[a] O[a] X O 0 h.len hall
  have bx := h.pX.get ha
  have bo := h.pO.get hao
  have hl := h.len
  have hlow : (minG X[a] O[a] = X[a] ∧ O[a] = X[a] + 1) ∨ (minG X[a] O[a] = O[a] ∧ X[a] = O[a] + 1) := by
    unfold minG maxG at *
    revert hm
    repeat' split
    all_goals omega
  generalize minG X[a] O[a] = low at *
  clear hm
  refine Vd.of_get (n := X.length - 1) (by omega) (by have := h.most; omega) (delL_length _ _ _ ha) (by rw [delL_length _ _ _ hao]; omega) (fun j hj => ?_) (fun j hj => ?_) (fun i j hi hj e => ?_) (fun i j hi hj e => ?_) (fun k hk hk' e => ?_)
  · obtain ⟨c, h1, h2, _, e1⟩ := delL_at X ha hj
    have := h.pX.get h1
    have hne : X[c] ≠ X[a] := fun e => h2 (h.pX.inj h1 ha e)
    rw [e1]; unfold lowr; split <;> omega
  · obtain ⟨c, h1, h2, _, e1⟩ := delL_at O hao hj
    have := h.pO.get h1
    have hne : O[c] ≠ O[a] := fun e => h2 (h.pO.inj h1 hao e)
    rw [e1]; unfold lowr; split <;> omega
  · obtain ⟨c, h1, h2, q1, e1⟩ := delL_at X ha hi
    obtain ⟨d, h3, h4, q2, e2⟩ := delL_at X ha hj
    have n1 : X[c] ≠ X[a] := fun e => h2 (h.pX.inj h1 ha e)
    have n2 : X[d] ≠ X[a] := fun e => h4 (h.pX.inj h3 ha e)
    have hcd : X[c] = X[d] := by
      rw [e1, e2] at e; unfold lowr at e
      revert e
      repeat' split
      all_goals omega
    have := h.pX.inj h1 h3 hcd
    subst this
    revert q1 q2
    repeat' split
    all_goals omega
  · obtain ⟨c, h1, h2, q1, e1⟩ := delL_at O hao hi
    obtain ⟨d, h3, h4, q2, e2⟩ := delL_at O hao hj
    have n1 : O[c] ≠ O[a] := fun e => h2 (h.pO.inj h1 hao e)
    have n2 : O[d] ≠ O[a] := fun e => h4 (h.pO.inj h3 hao e)
    have hcd : O[c] = O[d] := by
      rw [e1, e2] at e; unfold lowr at e
      revert e
      repeat' split
      all_goals omega
    have := h.pO.inj h1 h3 hcd
    subst this
    revert q1 q2
    repeat' split
    all_goals omega
  · obtain ⟨c, h1, h2, q1, e1⟩ := delL_at X ha hk
    obtain ⟨d, h3, h4, q2, e2⟩ := delL_at O hao hk'
    have : c = d := by rw [q1, q2]
    subst this
    have n1 : X[c] ≠ X[a] := fun e => h2 (h.pX.inj h1 ha e)
    have n2 : O[c] ≠ O[a] := fun e => h4 (h.pO.inj h3 hao e)
    have n3 := h.ne c h1 h3
    have n4 := hsp c h1 h3 (by omega)
    rw [e1, e2] at e; unfold lowr at e
    apply n4
    revert e
    repeat' split
    all_goals omega
theorem addL_at (X : List Int) {a j : Nat} {r y : Int} {t : Bool} (ha : a ≤ X.length) (hj : j < (addL X a r t y).length) :
    (j = a ∧ (addL X a r t y)[j] = y) ∨ (j ≠ a ∧ ∃ c, ∃ h : c < X.length, (c = if j < a then j else j - 1) ∧ (addL X a r t y)[j] = upr r t X[c]) := by
  have hg := addL_get X a j r t y ha
  by_cases e : j = a
  · rw [if_pos e] at hg
    exact .inl ⟨e, get_of hj hg⟩
  · rw [if_neg e] at hg
    rw [addL_length _ _ _ _ _ ha] at hj
    have hk : (if j < a then j else j - 1) < X.length := by split <;> omega
    refine .inr ⟨e, _, hk, rfl, get_of _ (hg.trans ?_)⟩
    rw [List.getElem?_eq_getElem hk]; rfl
theorem addL_pm_aux {X : List Int} {a : Nat} {r y : Int} {t : Bool} (h : Pm X) (ha : a ≤ X.length) (hr : 0 ≤ r ∧ r < X.length) (hy : y = if t = true then r else r + 1) :
    (∀ j (h : j < (addL X a r t y).length), 0 ≤ (addL X a r t y)[j] ∧ (addL X a r t y)[j] < (X.length + 1 : Nat)) ∧ (∀ i j (hi : i < (addL X a r t y).length) (hj : j < (addL X a r t y).length), (addL X a r t y)[i] = (addL X a r t y)[j] → i = j) := by
  have hny : ∀ x, upr r t x ≠ y := by
    intro x; rw [hy]; unfold upr
    cases t <;> simp <;> split <;> omega
  refine ⟨fun j hj => ?_, fun i j hi hj e => ?_⟩
  · rcases addL_at X ha hj with ⟨_, e1⟩ | ⟨_, c, h1, _, e1⟩
    · rw [e1, hy]; split <;> omega
    · have := h.get h1
      rw [e1]; unfold upr; split <;> omega
  · rcases addL_at X ha hi with ⟨q1, e1⟩ | ⟨q1, c, h1, p1, e1⟩
    · rcases addL_at X ha hj with ⟨q2, e2⟩ | ⟨q2, d, h2, p2, e2⟩
      · omega
      · rw [e1, e2] at e; exact absurd e.symm (hny _)
    · rcases addL_at X ha hj with ⟨q2, e2⟩ | ⟨q2, d, h2, p2, e2⟩
      · rw [e1, e2] at e; exact absurd e (hny _)
      · have hcd : X[c] = X[d] := by
          rw [e1, e2] at e; unfold upr at e
          revert e
          cases t <;> simp <;> repeat' split
          all_goals omega
        have := h.inj h1 h2 hcd
        subst this
        revert p1 p2
        repeat' split
        all_goals omega
theorem addL_vd {X O : List Int} {a r : Nat} {st : Bool} (h : Vd X O) (h40 : X.length ≠ 40) (ha : a ≤ X.length) (hr : r < X.length) :
    Vd (addL X a r (true != st) (if st = true then (r : Int) + 1 else r)) (addL O a r (false != st) (if st = true then (r : Int) else r + 1)) := by
  have hl := h.len
  have hx := addL_pm_aux (a := a) (r := r) (t := (true != st)) (y := if st = true then (r : Int) + 1 else r) h.pX ha (by omega) (by cases st <;> rfl)
  have ho := addL_pm_aux (a := a) (r := r) (t := (false != st)) (y := if st = true then (r : Int) else r + 1) h.pO (by omega) (by omega) (by cases st <;> rfl)
  refine Vd.of_get (n := X.length + 1) (by omega) (by have := h.most; omega) (addL_length _ _ _ _ _ ha) (by rw [addL_length _ _ _ _ _ (by omega)]; omega) hx.1 (by rw [hl]; exact ho.1) hx.2 ho.2 (fun k hk hk' e => ?_)
  rcases addL_at X ha hk with ⟨q1, e1⟩ | ⟨q1, c, h1, p1, e1⟩
  · rcases addL_at O (by omega) hk' with ⟨q2, e2⟩ | ⟨q2, d, h2, p2, e2⟩
    · rw [e1, e2] at e
      revert e
      split <;> omega
    · omega
  · rcases addL_at O (by omega) hk' with ⟨q2, e2⟩ | ⟨q2, d, h2, p2, e2⟩
    · omega
    · have : c = d := by rw [p1, p2]
      subst this
      have hne := h.ne c h1 h2
      rw [e1, e2] at e; unfold upr at e
      revert e
      cases st <;> simp <;> repeat' split
      all_goals omega
theorem colsL_vd {X O : List Int} {k : Int} {a v : Nat} (h : Vd X O) (hk : 1 ≤ k ∧ k ≤ 4) (ha : a < limAt k X.length) (hv : v < limVar k X.length) (h0 : (colsL X O k a v).1 = 0) : Vd (colsL X O k a v).2.1 (colsL X O k a v).2.2 := by
  unfold colsL at *
  by_cases k1 : k = 1
  · simp only [if_pos k1]
    exact rotL_vd h
  simp only [if_neg k1] at h0 ⊢
  by_cases k2 : k = 2
  · simp only [if_pos k2] at h0 ⊢
    have ha' : a + 1 < X.length := by rw [k2] at ha; simp only [limAt] at ha; simp at ha; omega
    split at h0
    · rename_i hc
      simp only [if_pos hc]
      exact swapL_vd h ha'
    · simp at h0
  simp only [if_neg k2] at h0 ⊢
  by_cases k3 : k = 3
  · simp only [if_pos k3] at h0 ⊢
    have ha' : a < X.length := by rw [k3] at ha; simp only [limAt] at ha; simpa using ha
    split at h0
    · rename_i hc
      simp only [if_pos hc]
      exact delL_vd h ha' hc
    · simp at h0
  simp only [if_neg k3] at h0 ⊢
  have k4 : k = 4 := by omega
  subst k4
  have ha' : a ≤ X.length := by simp only [limAt] at ha; simp at ha; omega
  have hv' : v < 2 * X.length := by simp only [limVar] at hv; simp at hv; omega
  split at h0
  · simp at h0
  · rename_i hc
    simp only [if_neg hc]
    exact addL_vd h hc ha' (by omega)
end Go.Proofs.YteliflcbegcdlaaGreatDoor

namespace Go.Proofs.YteliflcbegcdlaaGreatDoor
set_option linter.unusedVariables false
open Go.RowKit
theorem apply_any (vx vo : Value) (X O : List Int) (k : Int) (rows : Bool) (a v : Int) (w : World) (hX : Ints w vx X) (hO : Ints w vo O) (hl : X.length ≤ 1000) (hl' : O.length ≤ 1000) :
    Calls Tryz.prog 50 #[.agg #[vx, vo], .agg #[.int .i64 k, .bool rows, .int .i64 a, .int .i64 v]] w (GRes w.heap.size w (applyM X O k rows a v)) := by
  cases hv : validB X O with
  | false => exact apply_invalid vx vo X O k rows a v w hX hO hl hl' hv
  | true =>
    by_cases hk : limAt k X.length = 0
    · exact apply_kind vx vo X O k rows a v w hX hO hl hl' hv hk
    · by_cases hr : a < 0 ∨ limAt k X.length ≤ a ∨ v < 0 ∨ limVar k X.length ≤ v
      · exact apply_range vx vo X O k rows a v w hX hO hl hl' hv hk hr
      · cases rows with
        | false => exact apply_cols vx vo X O k false a v w hX hO hl hl' hv hk hr
        | true => exact apply_rows vx vo X O k true a v w hX hO hl hl' hv hk hr
end Go.Proofs.YteliflcbegcdlaaGreatDoor

namespace Go.Proofs.YteliflcbegcdlaaGreatDoor
open Go.RowKit
set_option linter.unusedVariables false
/-- what Apply returns, said alike for errors and for grids -/
def GRd (B : Nat) (w : World) (r : Int × List Int × List Int) (e : Ending) (w' : World) : Prop :=
  Below B w w' ∧ ∃ A0 n0 c0 A1 n1 c1, e = .returned (.tuple #[.agg #[.slice A0 n0 c0, .slice A1 n1 c1], .int .i64 r.1]) ∧ Ints w' (.slice A0 n0 c0) r.2.1 ∧ Ints w' (.slice A1 n1 c1) r.2.2
theorem colsM_err (X O : List Int) (k : Int) (a v : Nat) (h : (colsM X O k a v).1 ≠ 0) : (colsM X O k a v).2 = ([], []) := by
  unfold colsM swapM desM staM rotM at *
  revert h
  repeat' split
  all_goals simp
theorem applyM_err (X O : List Int) (k : Int) (rows : Bool) (a v : Int) (h : (applyM X O k rows a v).1 ≠ 0) : (applyM X O k rows a v).2 = ([], []) := by
  unfold applyM at *
  split
  · rfl
  split
  · rfl
  split
  · rfl
  rename_i h1 h2 h3
  rw [if_neg h1, if_neg h2, if_neg h3] at h
  split
  · rename_i h4
    rw [if_pos h4] at h
    exact colsM_err _ _ _ _ _ h
  · rename_i h4
    rw [if_neg h4] at h
    split
    · rename_i h5
      rw [if_pos h5] at h
      simp at h
    · rfl
end Go.Proofs.YteliflcbegcdlaaGreatDoor

namespace Go.Proofs.YteliflcbegcdlaaGreatDoor
set_option linter.unusedVariables false
open Go.RowKit
/-- the list, or the transposed one -/
def vw (rows : Bool) (l : List Int) : List Int := if rows = true then tr l else l
theorem vw_length (rows : Bool) (l : List Int) : (vw rows l).length = l.length := by unfold vw; split; exact tr_length l; rfl
theorem vw_vw {rows : Bool} {l : List Int} (h : Pm l) : vw rows (vw rows l) = l := by cases rows; rfl; exact tr_tr h
theorem vw_vd {rows : Bool} {X O : List Int} (h : Vd X O) : Vd (vw rows X) (vw rows O) := by cases rows; exact h; exact tr_vd h
def inRange (k a v : Int) (n : Nat) : Prop := (1 ≤ k ∧ k ≤ 4) ∧ (0 ≤ a ∧ a < limAt k n) ∧ (0 ≤ v ∧ v < limVar k n)
theorem colsL_err (X O : List Int) (k : Int) (a v : Nat) (h : (colsL X O k a v).1 ≠ 0) : (colsL X O k a v).2 = ([], []) := by
  unfold colsL at *
  revert h
  repeat' split
  all_goals simp
theorem applyM_vw {X O : List Int} {k a v : Int} {rows : Bool} (h : Vd X O) (hr : inRange k a v X.length) :
    applyM X O k rows a v = if (colsL (vw rows X) (vw rows O) k a.toNat v.toNat).1 = 0 then (0, vw rows (colsL (vw rows X) (vw rows O) k a.toNat v.toNat).2.1, vw rows (colsL (vw rows X) (vw rows O) k a.toNat v.toNat).2.2) else ((colsL (vw rows X) (vw rows O) k a.toNat v.toNat).1, [], []) := by
  obtain ⟨hk, ⟨a0, a1⟩, v0, v1⟩ := hr
  have hk0 : ¬ limAt k X.length = 0 := by rw [limAt_zero (by have := h.two; omega)]; simp; omega
  have hv : validB X O = true := (validB_iff X O).2 h
  unfold applyM
  rw [if_neg (by simp [hv]), if_neg hk0, if_neg (by omega)]
  cases rows with
  | false =>
    rw [if_pos rfl, colsM_eq h.two h.len hk (by omega)]
    show _ = if (colsL X O k a.toNat v.toNat).1 = 0 then (0, (colsL X O k a.toNat v.toNat).2.1, (colsL X O k a.toNat v.toNat).2.2) else ((colsL X O k a.toNat v.toNat).1, [], [])
    split
    · rename_i h0
      rw [← h0]
    · rename_i h0
      have := colsL_err _ _ _ _ _ h0
      rw [← this]
  | true =>
    rw [if_neg (by simp), colsM_eq (by rw [tr_length]; exact h.two) (by rw [tr_length, tr_length]; exact h.len) hk (by rw [tr_length]; omega)]
    rfl
theorem applyM_inv {X O X1 O1 : List Int} {k a v : Int} {rows : Bool} (h : applyM X O k rows a v = (0, X1, O1)) :
    Vd X O ∧ inRange k a v X.length ∧ ∃ Y P, colsL (vw rows X) (vw rows O) k a.toNat v.toNat = (0, Y, P) ∧ X1 = vw rows Y ∧ O1 = vw rows P := by
  have hv : validB X O = true := by
    cases hv : validB X O with
    | true => rfl
    | false => unfold applyM at h; rw [if_pos hv] at h; simp at h
  have hvd := (validB_iff X O).1 hv
  have hr : inRange k a v X.length := by
    unfold applyM at h
    rw [if_neg (by simp [hv])] at h
    split at h
    · simp at h
    · rename_i h1
      split at h
      · simp at h
      · rename_i h2
        rw [limAt_zero (by have := hvd.two; omega)] at h1
        exact ⟨Decidable.not_not.1 h1, by omega, by omega⟩
  refine ⟨hvd, hr, ?_⟩
  rw [applyM_vw hvd hr] at h
  split at h
  · rename_i h0
    generalize colsL (vw rows X) (vw rows O) k a.toNat v.toNat = R at *
    obtain ⟨c, Y, P⟩ := R
    simp only at h0 h
    injection h with _ h
    injection h with h1 h2
    exact ⟨Y, P, by rw [h0], h1.symm, h2.symm⟩
  · rename_i h0
    injection h with h _
    exact absurd h h0
theorem applyM_of {X O Y P : List Int} {k a v : Int} {rows : Bool} (h : Vd X O) (hr : inRange k a v X.length) (hc : colsL (vw rows X) (vw rows O) k a.toNat v.toNat = (0, Y, P)) : applyM X O k rows a v = (0, vw rows Y, vw rows P) := by
  rw [applyM_vw h hr, hc]
  rfl
theorem applyM_res_vd {X O X1 O1 : List Int} {k a v : Int} {rows : Bool} (h : applyM X O k rows a v = (0, X1, O1)) : Vd X1 O1 := by
  obtain ⟨hv, hr, Y, P, hc, rfl, rfl⟩ := applyM_inv h
  have := colsL_vd (a := a.toNat) (v := v.toNat) (vw_vd (rows := rows) hv) hr.1 (by rw [vw_length]; have := hr.2.1; omega) (by rw [vw_length]; have := hr.2.2; omega) (by rw [hc])
  rw [hc] at this
  exact vw_vd this
/-- a move that undoes a move of columns undoes it for rows too -/
theorem undo_lift {X O X1 O1 : List Int} {k a v k' a' v' : Int} {rows : Bool} (h : applyM X O k rows a v = (0, X1, O1))
    (hu : ∀ Y P Y1 P1 : List Int, Vd Y P → Y.length = X.length → inRange k a v Y.length → colsL Y P k a.toNat v.toNat = (0, Y1, P1) → inRange k' a' v' Y1.length ∧ colsL Y1 P1 k' a'.toNat v'.toNat = (0, Y, P)) :
    applyM X1 O1 k' rows a' v' = (0, X, O) := by
  have hv1 := applyM_res_vd h
  obtain ⟨hv, hr, Y, P, hc, rfl, rfl⟩ := applyM_inv h
  have hY : Vd Y P := by
    have := colsL_vd (a := a.toNat) (v := v.toNat) (vw_vd (rows := rows) hv) hr.1 (by rw [vw_length]; have := hr.2.1; omega) (by rw [vw_length]; have := hr.2.2; omega) (by rw [hc])
    rw [hc] at this
    exact this
  obtain ⟨h1, h2⟩ := hu (vw rows X) (vw rows O) Y P (vw_vd hv) (vw_length _ _) (by rw [vw_length]; exact hr) hc
  have := applyM_of (rows := rows) hv1 (by rw [vw_length]; exact h1) (by rw [vw_vw hY.pX, vw_vw hY.pO]; exact h2)
  rw [this, vw_vw hv.pX, vw_vw hv.pO]
theorem getD_get? (l : List Int) (i : Nat) : l.getD i 0 = (l[i]?).getD 0 := List.getD_eq_getElem?_getD
theorem lowr_upr (r x : Int) (t : Bool) : lowr r (upr r t x) = x := by
  unfold lowr upr
  split <;> split <;> (try rename_i h1 h2) <;> omega
theorem delL_addL (X : List Int) (a : Nat) (r y : Int) (t : Bool) (ha : a ≤ X.length) : delL (addL X a r t y) a r = X := by
  apply List.ext_getElem?
  intro j
  rw [delL_get _ a j r (by rw [addL_length _ _ _ _ _ ha]; omega), addL_get X a _ r t y ha]
  rw [if_neg (by split <;> omega)]
  have : (if (if j < a then j else j + 1) < a then (if j < a then j else j + 1) else (if j < a then j else j + 1) - 1) = j := by
    repeat' split
    all_goals omega
  rw [this]
  cases X[j]? with
  | none => rfl
  | some x => simp [lowr_upr]
theorem desAll_of (a : Nat) (x o : Int) : ∀ (X O : List Int) (i : Nat), X.length = O.length → (∀ k (h : k < X.length) (h' : k < O.length), i + k ≠ a → ¬ (O[k] = x ∧ X[k] = o)) → desAll a x o i X O = true := by
  intro X
  induction X with
  | nil => intro O i _ _; cases O <;> rfl
  | cons p ps ih =>
    intro O i hl hh
    cases O with
    | nil => simp at hl
    | cons q qs =>
      rw [desAll, Bool.and_eq_true]
      refine ⟨?_, ih qs (i + 1) (by simpa using hl) (fun k h h' hne => ?_)⟩
      · have := hh 0 (by simp) (by simp)
        simp only [List.getElem_cons_zero] at this
        by_cases h1 : i = a
        · simp [h1]
        by_cases h2 : q = x
        · by_cases h3 : p = o
          · exact absurd ⟨h2, h3⟩ (this (by omega))
          · simp [h3]
        · simp [h2]
      · have := hh (k + 1) (by simpa using h) (by simpa using h') (by omega)
        simpa using this
theorem addL_self (X : List Int) (a : Nat) (r y : Int) (t : Bool) (ha : a ≤ X.length) : (addL X a r t y).getD a 0 = y := by
  rw [getD_get?, addL_get _ _ _ _ _ _ ha, if_pos rfl]; rfl
theorem undo_sta {X O X1 O1 : List Int} {a v : Int} {rows : Bool} (h : applyM X O 4 rows a v = (0, X1, O1)) : applyM X1 O1 3 rows a 0 = (0, X, O) := by
  refine undo_lift h (fun Y P Y1 P1 hv _ hr hc => ?_)
  have hlen := hv.len
  have ha : a.toNat ≤ Y.length := by have := hr.2.1; simp [limAt] at this; omega
  have hv2 : v.toNat < 2 * Y.length := by have := hr.2.2; simp [limVar] at this; omega
  unfold colsL at hc
  rw [if_neg (by decide), if_neg (by decide), if_neg (by decide)] at hc
  split at hc
  · simp at hc
  rename_i h40
  injection hc with _ hc
  injection hc with e1 e2
  have hst : ∃ st, decide (v.toNat % 2 = 0) = st := ⟨_, rfl⟩
  obtain ⟨st, hst⟩ := hst
  have hrr : ∃ r, v.toNat / 2 = r := ⟨_, rfl⟩
  obtain ⟨r, hrr⟩ := hrr
  rw [hst, hrr] at e1 e2
  have hrl : r < Y.length := by omega
  have hvd := addL_vd (st := st) hv h40 ha hrl
  rw [e1, e2] at hvd
  have gx : Y1.getD a.toNat 0 = if st = true then (r : Int) + 1 else r := by rw [← e1]; exact addL_self _ _ _ _ _ ha
  have go : P1.getD a.toNat 0 = if st = true then (r : Int) else r + 1 := by rw [← e2]; exact addL_self _ _ _ _ _ (by omega)
  have hl1 : Y1.length = Y.length + 1 := by rw [← e1]; exact addL_length _ _ _ _ _ ha
  have hl2 : P1.length = P.length + 1 := by rw [← e2]; exact addL_length _ _ _ _ _ (by omega)
  refine ⟨⟨by omega, by have := hr.2.1; simp [limAt] at this ⊢; omega, by simp [limVar]⟩, ?_⟩
  have hmin : minG (Y1.getD a.toNat 0) (P1.getD a.toNat 0) = r := by
    rw [gx, go]; unfold minG
    cases st <;> simp <;> omega
  have hok : desOk Y1 P1 a.toNat (Y1.getD a.toNat 0) (P1.getD a.toNat 0) = true := by
    unfold desOk
    rw [Bool.and_eq_true, Bool.and_eq_true]
    refine ⟨⟨by simp; have := hv.two; omega, ?_⟩, desAll_of _ _ _ _ _ _ hvd.len (fun k h h' hne hh => ?_)⟩
    · rw [hmin, gx, go]; unfold maxG
      cases st <;> simp <;> omega
    · rw [gx, go] at hh
      have hx := hv.ne
      subst e1 e2
      rcases addL_at Y ha h with ⟨q1, _⟩ | ⟨q1, c, h1, p1, e3⟩
      · omega
      · rcases addL_at P (by omega) h' with ⟨q2, _⟩ | ⟨q2, d, h2, p2, e4⟩
        · omega
        · have : c = d := by rw [p1, p2]
          subst this
          have hne2 := hx c h1 h2
          rw [e3, e4] at hh
          unfold upr at hh
          revert hh
          cases st <;> simp <;> repeat' split
          all_goals omega
  unfold colsL
  rw [if_neg (by decide), if_neg (by decide), if_pos rfl, if_pos hok, hmin]
  subst e1 e2
  rw [delL_addL _ _ _ _ _ ha, delL_addL _ _ _ _ _ (by omega)]
end Go.Proofs.YteliflcbegcdlaaGreatDoor

namespace Go.Proofs.YteliflcbegcdlaaGreatDoor
open Go.RowKit
set_option linter.unusedVariables false
theorem mid_of2 {g gx go : Nat} (w wx : World) (vx vo : Value) (n m : Nat)
    (h0 : wx.heap[w.heap.size]? = some (.cells #[vx, vo] 24 (0, 0))) (h1 : wx.heap[w.heap.size + 1]? = some (.cells #[.slice none 0 0, .slice none 0 0] 24 (0, 0)))
    (hg : wx.heap[g]? = some (.cells #[.slice (some ⟨gx, 0, none⟩) n n, .slice (some ⟨go, 0, none⟩) m m] 24 (0, 0)))
    (hx : wx.heap[gx]? = some (.cells (rowOf (List.replicate n (Value.int IntKind.i64 0))) 3 (0, 0))) (ho : wx.heap[go]? = some (.cells (rowOf (List.replicate m (Value.int IntKind.i64 0))) 3 (0, 0)))
    (e1 : gx ≠ go) (e2 : g ≠ gx) (e3 : g ≠ go) (e4 : w.heap.size + 2 ≤ g) (e5 : w.heap.size + 2 ≤ gx) (e6 : w.heap.size + 2 ≤ go) :
    Mid w.heap.size wx (.pointer (some ⟨g, 0, none⟩)) (.slice (some ⟨gx, 0, none⟩) n n) (.slice (some ⟨go, 0, none⟩) m m) vx vo (List.replicate n 0) (List.replicate m 0) := by
  refine ⟨g, gx, go, rfl, by rw [List.length_replicate], by rw [List.length_replicate], e1, e2, e3, e4, e5, e6, ?_, ?_, ?_, h0, _, _, h1⟩
  · simp only [List.length_replicate]; exact hg
  · rw [ints_zero]; exact hx
  · rw [ints_zero]; exact ho
theorem Mid3.drew {B : Nat} {w : World} {g gx go : Nat} {vx vo : Value} {X O : List Int} (h : Mid3 B w g gx go vx vo X O) : Mid3 B w.drew g gx go vx vo X O := h
theorem relStep_mvT (b : Bool) (i : Nat) {x : Int} (acc : List Int) (h : 0 ≤ x) : relStep mvT b i x acc = acc.set x.toNat i := by
  unfold relStep; exact if_pos h
end Go.Proofs.YteliflcbegcdlaaGreatDoor

namespace Go.Proofs.YteliflcbegcdlaaGreatDoor
open Go.RowKit
set_option linter.unusedVariables false
def mvTr (n cols rows : Int) (c r : Int) (_ : Bool) : Int × Int := ((c + cols) % n, (r + rows) % n)
def trl (cols rows : Nat) (l : List Int) : List Int := reloc (mvTr l.length cols rows) true l.length l
theorem relStep_mvTr (n cols rows i : Nat) (x : Int) (acc : List Int) (h : 0 < n) : relStep (mvTr n cols rows) true i x acc = acc.set ((i + cols) % n) ((x + rows) % n) := by
  unfold relStep
  have e : (mvTr n cols rows i x true).1 = ((i + cols) % n : Nat) := by simp [mvTr]
  rw [if_pos (by rw [e]; omega), e]
  rfl
set_option maxHeartbeats 2000000 in
theorem translate_any (vx vo : Value) (X O : List Int) (cols rows : Nat) (w : World) (hX : Ints w vx X) (hO : Ints w vo O) (hlen : X.length = O.length) (hn : X.length ≤ 1000) (hp : 0 < X.length) (hcl : cols ≤ 1000) (hrw : rows ≤ 1000) (rX : Rows X.length X) (rO : Rows X.length O) :
    Calls Tryz.prog 54 #[.agg #[vx, vo], .int .i64 cols, .int .i64 rows] w fun e w' => ∃ v, e = .returned v ∧ NewGrid w.heap.size w' v (trl cols rows X) (trl cols rows O) ∧ Below w.heap.size w w' := by
  obtain ⟨i0, hi0, hz0, hz1, hz2⟩ := info_parts info_int
  have hmk := fun W => run_make_one (P := Tryz.prog) 22 3 i0 (.int .i64 0) Tryz.underlying22 hi0 hz0 hz1 rfl (by rw [hz2]; decide) X.length (by omega) W
  clear hi0 hz0 hz1 hz2
  have HL := Lib.hid hlen
  clear hlen
  have hX0 := hX
  have hO0 := hO
  obtain ⟨A, c, rfl, hc, hh⟩ := hX
  obtain ⟨A', c', rfl, hc', hh'⟩ := hO
  clear hh hh'
  go_enter Tryz.func54, Tryz.ntmps54
  go_upto_region 2 with fail
  have hW : ((w.alloc (.cells #[.slice A X.length c, .slice A' O.length c'] 24)).alloc (.cells #[.slice none 0 0, .slice none 0 0] 24)).heap[w.heap.size]? = some (.cells #[.slice A X.length c, .slice A' O.length c'] 24 (0, 0)) ∧ ((w.alloc (.cells #[.slice A X.length c, .slice A' O.length c'] 24)).alloc (.cells #[.slice none 0 0, .slice none 0 0] 24)).heap[w.heap.size + 1]? = some (.cells #[.slice none 0 0, .slice none 0 0] 24 (0, 0)) ∧ Below w.heap.size w ((w.alloc (.cells #[.slice A X.length c, .slice A' O.length c'] 24)).alloc (.cells #[.slice none 0 0, .slice none 0 0] 24)) ∧ ((w.alloc (.cells #[.slice A X.length c, .slice A' O.length c'] 24)).alloc (.cells #[.slice none 0 0, .slice none 0 0] 24)).heap.size = w.heap.size + 2 :=
    ⟨(Arr.new _ _ [_, _]).alloc _, Arr.newAt (w.alloc _) _ [_, _] _ (by simp), ((Below.refl _ _).alloc (Nat.le_refl _) _).alloc (by simp) _, by simp⟩
  generalize ((w.alloc (.cells #[.slice A X.length c, .slice A' O.length c'] 24)).alloc (.cells #[.slice none 0 0, .slice none 0 0] 24)) = w2 at hW ⊢
  obtain ⟨hw0, hw1, hb2, hs2⟩ := hW
  have HW0 := Lib.hid hw0
  have HW1 := Lib.hid hw1
  have HS2 := Lib.hid hs2
  clear hw0 hw1 hs2
  go_cut [8, 15, 17] (fun s8 s15 s17 wx => Mid w.heap.size wx s8 s15 s17 (.slice A X.length c) (.slice A' O.length c') (List.replicate X.length 0) (List.replicate X.length 0) ∧ Below w.heap.size w wx)
  case first =>
    go_region
    all_goals
      go_wp2_with fail
      go_meet
      have hs2 := HS2.out
      have hw0 := HW0.out
      have hw1 := HW1.out
      refine ⟨?_, ?_⟩
      rotate_left
      · repeat (first | exact hb2 | refine Below.alloc ?_ (by simp [hs2] <;> omega) _ | refine Below.drew ?_)
      exact mid_of2 w _ _ _ X.length X.length (by simp only [heap_push, heap_drew, Array.getElem?_push, Array.size_push]; repeat (first | rw [if_pos trivial] | rw [if_neg (by omega)] | exact hw0 | exact hw1)) (by simp only [heap_push, heap_drew, Array.getElem?_push, Array.size_push]; repeat (first | rw [if_pos trivial] | rw [if_neg (by omega)] | exact hw0 | exact hw1)) (by simp only [heap_push, heap_drew, Array.getElem?_push, Array.size_push]; repeat (first | rw [if_pos trivial] | rw [if_neg (by omega)] | exact hw0 | exact hw1)) (by simp only [heap_push, heap_drew, Array.getElem?_push, Array.size_push]; repeat (first | rw [if_pos trivial] | rw [if_neg (by omega)] | exact hw0 | exact hw1)) (by simp only [heap_push, heap_drew, Array.getElem?_push, Array.size_push]; repeat (first | rw [if_pos trivial] | rw [if_neg (by omega)] | exact hw0 | exact hw1)) (by omega) (by omega) (by omega) (by omega) (by omega) (by omega)
  case rest =>
    clear hmk
    obtain ⟨⟨g, gx, go, rfl, e14, e16, hm⟩, hb⟩ := hcut
    clear e14 e16
    go_wp2_with fail
    go_loopw [20] (fun i wr => ∃ (k : Nat) (aX aO : List Int), k ≤ X.length ∧ i = .int .i64 k ∧ Mid3 w.heap.size wr g gx go (.slice A X.length c) (.slice A' O.length c') aX aO ∧ Below w.heap.size w wr ∧
      Hid (aX.length = X.length ∧ aO.length = X.length ∧ trl cols rows X = relTo (mvTr X.length cols rows) true k (X.drop k) aX ∧ trl cols rows O = relTo (mvTr X.length cols rows) true k (O.drop k) aO)) (fun i _ => X.length - (intOf i).toNat)
    case atStart =>
      exact ⟨0, _, _, Nat.zero_le _, rfl, hm, hb, by simp, by simp, rfl, by simp only [trl, reloc, HL.out, List.drop_zero]⟩
    case round =>
      obtain ⟨k, aX, aO, hk, rfl, hm', hb', H⟩ := hrel
      clear hb hm
      by_cases hlt : k < X.length
      · obtain ⟨b, o, rfl, hbl, hcell⟩ := hX0.at_ hlt
        have hltO : k < O.length := by have := HL.out; omega
        obtain ⟨b', o', rfl, hbl', hcell'⟩ := hO0.at_ hltO
        have hcX := (hb'.cell (p := ⟨b, o + k, none⟩) hbl).trans hcell
        have rx := rX.get hlt
        have ro := rO.get hltO
        rw [relTo_drop _ true X aX hlt, relTo_drop _ true O aO hltO, relStep_mvTr _ _ _ _ _ _ hp, relStep_mvTr _ _ _ _ _ _ hp] at H
        generalize X[k] = x at *
        generalize O[k] = y at *
        clear hcell
        obtain ⟨x, rfl⟩ := Int.eq_ofNat_of_zero_le rx.1
        obtain ⟨y, rfl⟩ := Int.eq_ofNat_of_zero_le ro.1
        have hq : (k + cols) % X.length < X.length := Nat.mod_lt _ hp
        have hx1 : (k + cols) % X.length < aX.length := by have := H.out.1; omega
        have hy1 : (k + cols) % X.length < aO.length := by have := H.out.2.1; omega
        have zn : ((X.length : Int) == 0) = false := beq_eq_false_iff_ne.2 (by omega)
        have zn2 : ¬ ((X.length : Int) = 0) := by omega
        have zn3 : ¬ (X = []) := by intro h; rw [h] at hp; simp at hp
        have zn4 : ¬ (X.length = 0) := by omega
        have w5 := hm'.2.2.2.2.1
        have w6 := hm'.2.2.2.2.2.1
        have n3 := hm'.2.1.symm
        have n4 := hm'.2.2.1.symm
        have n5 : gx ≠ w.heap.size := by omega
        have n6 : go ≠ w.heap.size := by omega
        have n7 : gx ≠ b := by omega
        have n10 : go ≠ b' := by omega
        go_wp2_with fail
        have eq10 : ((k : Int) + cols) % (X.length : Int) = (((k + cols) % X.length : Nat) : Int) := by simp
        rw [eq10]
        clear eq10
        generalize (k + cols) % X.length = q at *
        have z0 := hm'.2.2.2.2.2.2.2.2.2.1.cell 0
        have z1 := hm'.2.2.2.2.2.2.1.cell 0
        have z2 := (hm'.2.2.2.2.2.2.2.1.cell q).trans (ints_get _ hx1)
        have z3 := hm'.2.2.2.2.2.2.2.1.frozen q
        have z4 : IntKind.i64.wrap ((x : Int) + rows) = (x : Int) + rows := IntWalk.i64_in _ (by omega)
        have z5 : (q : Int) < (aX.length : Int) := by omega
        have z6 : (k : Int) < (X.length : Int) := by omega
        have z7 : (k : Int) < (O.length : Int) := by omega
        go_region_held3 (fun w' => w'.cell? ⟨w.heap.size, 0, none⟩ = some (.slice (some ⟨b, o, none⟩) X.length c) ∧ w'.cell? ⟨g, 0, none⟩ = some (.slice (some ⟨gx, 0, none⟩) aX.length aX.length) ∧ w'.cell? ⟨b, o + k, none⟩ = some (.int .i64 (x : Int))) (go_keep) (first | fail)
        clear z0 z1 z2 z3 z4 z5 z6 z7
        rw [show ((x : Int) + rows).tmod (X.length : Int) = ((x : Int) + rows) % (X.length : Int) from Int.tmod_eq_emod_of_nonneg (by omega)]
        have hm2 := (hm'.setX q (((x : Int) + rows) % (X.length : Int))).drew
        have hb2 := (hb'.setCell (p := ⟨gx, q, none⟩) (by show w.heap.size ≤ gx; omega) (.int .i64 (((x : Int) + rows) % (X.length : Int)))).drew
        have hcO := (hb2.cell (p := ⟨b', o' + k, none⟩) hbl').trans hcell'
        generalize (wr.setCell ⟨gx, q, none⟩ (.int .i64 (((x : Int) + rows) % (X.length : Int)))).drew = wr2 at *
        clear hm' hb' hcX hcell'
        go_wp2_with fail
        have z0 := hm2.2.2.2.2.2.2.2.2.2.1.cell 1
        have z1 := hm2.2.2.2.2.2.2.1.cell 1
        have z2 := (hm2.2.2.2.2.2.2.2.2.1.cell q).trans (ints_get _ hy1)
        have z3 := hm2.2.2.2.2.2.2.2.2.1.frozen q
        have z4 : IntKind.i64.wrap ((y : Int) + rows) = (y : Int) + rows := IntWalk.i64_in _ (by omega)
        have z5 : (q : Int) < (aO.length : Int) := by omega
        have z6 : (k : Int) < (X.length : Int) := by omega
        have z7 : (k : Int) < (O.length : Int) := by omega
        go_region_held3 (fun w' => w'.cell? ⟨w.heap.size, 1, none⟩ = some (.slice (some ⟨b', o', none⟩) O.length c') ∧ w'.cell? ⟨g, 1, none⟩ = some (.slice (some ⟨go, 0, none⟩) aO.length aO.length) ∧ w'.cell? ⟨b', o' + k, none⟩ = some (.int .i64 (y : Int))) (go_keep) (first | fail)
        clear z0 z1 z2 z3 z4 z5 z6 z7
        rw [show ((y : Int) + rows).tmod (X.length : Int) = ((y : Int) + rows) % (X.length : Int) from Int.tmod_eq_emod_of_nonneg (by omega)]
        go_wp2_with fail
        go_roundw
        case rel => exact ⟨k + 1, _, _, by omega, by go_num, (hm2.setO q (((y : Int) + rows) % (X.length : Int))).drew, (hb2.setCell (p := ⟨go, q, none⟩) (by show w.heap.size ≤ go; omega) _).drew, by simp [H.out.1], by simp [H.out.2.1], H.out.2.2.1, H.out.2.2.2⟩
        case measure => simp [intOf]; omega
      · obtain rfl : k = X.length := by omega
        obtain ⟨hl1, hl2, hr1, hr2⟩ := H.out
        rw [List.drop_length] at hr1
        rw [HL.out, List.drop_length] at hr2
        have hg0 := hm'.2.2.2.2.2.2.1.cell 0
        have hg1 := hm'.2.2.2.2.2.2.1.cell 1
        obtain ⟨e1, e2, e3, e4, e5, e6, q1, q2, q3, q4, a, b, q5⟩ := hm'
        have hz0 := q5.cell 0
        have hz1 := q5.cell 1
        have hz2 := q5.frozen 0
        have hz3 := q5.frozen 1
        have R1 := Lib.hid hr1
        have R2 := Lib.hid hr2
        have hres := Lib.hid ((q5.set 0 (.slice (some ⟨gx, 0, none⟩) aX.length aX.length)).set 1 (.slice (some ⟨go, 0, none⟩) aO.length aO.length))
        clear hr1 hr2 hl1 hl2 q1 q4 q5 hX0 hO0
        go_wp2_with fail
        refine bodyPost_ret (v := .agg #[.slice (some ⟨gx, 0, none⟩) aX.length aX.length, .slice (some ⟨go, 0, none⟩) aO.length aO.length]) (results_c Tryz.results54 _ _ (w.heap.size + 1) 24 _ _ rfl hres.out Tryz.underlying24 rfl info_grid) rfl ⟨_, rfl, ?_, ?_⟩
        · rw [R1.out, R2.out]
          exact ⟨gx, go, rfl, e1, by omega, by omega, q2.far2 (r := w.heap.size + 1) (by omega), q3.far2 (r := w.heap.size + 1) (by omega)⟩
        · exact bset2 (r := w.heap.size + 1) hb' (by omega)
end Go.Proofs.YteliflcbegcdlaaGreatDoor

namespace Go.Proofs.YteliflcbegcdlaaGreatDoor
open Go.RowKit
set_option linter.unusedVariables false
/-- Shift as a function: an error, or the translated grid -/
def shiftM (X O : List Int) (cols rows : Int) : Int × List Int × List Int :=
  if validB X O = false then (1, [], []) else (0, trl (cols % X.length).toNat (rows % X.length).toNat X, trl (cols % X.length).toNat (rows % X.length).toNat O)
theorem tmod_shift (c : Int) (n : Nat) (h : 0 < n) : (c.tmod n + n).tmod n = ((c % n).toNat : Int) ∧ -(n : Int) < c.tmod n ∧ c.tmod n < n ∧ (c % n).toNat < n := by
  have h1 := Int.emod_nonneg c (show (n : Int) ≠ 0 by omega)
  have h2 := Int.emod_lt_of_pos c (show (0 : Int) < n by omega)
  have h3 : c.tmod n = c % n ∨ (c.tmod n = c % n - n ∧ c % n ≠ 0) ∨ (c % n = 0 ∧ c.tmod n = 0) := by
    rw [Int.tmod_eq_emod]
    split
    · exact .inl (by omega)
    · rename_i hd
      have : c % n ≠ 0 := fun h => hd (.inr (Int.dvd_of_emod_eq_zero h))
      exact .inr (.inl ⟨by simp, this⟩)
  have h4 : (c.tmod n + n).tmod n = (c.tmod n + n) % n := Int.tmod_eq_emod_of_nonneg (by omega)
  refine ⟨?_, by omega, by omega, by omega⟩
  rw [h4]
  rcases h3 with h3 | ⟨h3, _⟩ | ⟨h3, h5⟩
  · rw [h3, Int.add_emod_right, Int.emod_eq_of_lt h1 h2]; omega
  · rw [h3, show c % n - n + n = c % n from by omega, Int.emod_eq_of_lt h1 h2]; omega
  · rw [h5, h3]; simp
set_option maxHeartbeats 2000000 in
theorem shift_any (vx vo : Value) (X O : List Int) (cols rows : Int) (w : World) (hX : Ints w vx X) (hO : Ints w vo O) (hl : X.length ≤ 1000) (hl' : O.length ≤ 1000) :
    Calls Tryz.prog 34 #[.agg #[vx, vo], .int .i64 cols, .int .i64 rows] w (GRes w.heap.size w (shiftM X O cols rows)) := by
  have hX0 := hX
  have hO0 := hO
  obtain ⟨A, c, rfl, hc, hh⟩ := hX
  obtain ⟨A', c', rfl, hc', hh'⟩ := hO
  clear hh hh'
  go_enter Tryz.func34, Tryz.ntmps34
  go_wp2_with fail
  have hW : Arr ((w.alloc (.cells #[.slice A X.length c, .slice A' O.length c'] 24)).alloc (.cells #[.slice none 0 0, .slice none 0 0] 24)) w.heap.size 24 [.slice A X.length c, .slice A' O.length c'] ∧ Arr ((w.alloc (.cells #[.slice A X.length c, .slice A' O.length c'] 24)).alloc (.cells #[.slice none 0 0, .slice none 0 0] 24)) (w.heap.size + 1) 24 [.slice none 0 0, .slice none 0 0] ∧ Below w.heap.size w ((w.alloc (.cells #[.slice A X.length c, .slice A' O.length c'] 24)).alloc (.cells #[.slice none 0 0, .slice none 0 0] 24)) :=
    ⟨(Arr.new _ _ [_, _]).alloc _, Arr.newAt (w.alloc _) _ [_, _] _ (by simp), ((Below.refl _ _).alloc (Nat.le_refl _) _).alloc (by simp) _⟩
  generalize ((w.alloc (.cells #[.slice A X.length c, .slice A' O.length c'] 24)).alloc (.cells #[.slice none 0 0, .slice none 0 0] 24)) = w4 at hW ⊢
  obtain ⟨q0, q1, hb4⟩ := hW
  refine (valid_any _ _ X O _ (hX0.below hb4) (hO0.below hb4) hl hl').mono ?_
  rintro e w5 ⟨rfl, hb5⟩
  have hbw5 := hb4.trans (hb5.mono hb4.size)
  have p0 := q0.below hb5 q0.lt
  have p1 := q1.below hb5 q1.lt
  clear q0 q1 hb5 hb4
  have y0 := p0.cell 0
  have y1 := p0.cell 1
  have y2 := p1.cell 0
  have y3 := p1.cell 1
  have y4 := p1.frozen 0
  have y5 := p1.frozen 1
  have l1 := p1.lt
  cases hv : validB X O with
  | false =>
    have hfin := Lib.hid (show shiftM X O cols rows = (1, [], []) by unfold shiftM; rw [if_pos hv])
    clear hv
    have hzr := Lib.hid ((p1.set 0 (.slice none 0 0)).set 1 (.slice none 0 0))
    go_wp2_with fail
    refine bodyPost_ret (v := .tuple #[.agg #[.slice none 0 0, .slice none 0 0], .int .i64 1]) (results_ct Tryz.results34 _ _ (w.heap.size + 1) 24 _ _ rfl hzr.out Tryz.underlying24 rfl info_grid) rfl ?_
    rw [hfin.out]
    exact GRes.err (by decide) (bset2 (r := w.heap.size + 1) hbw5 (by omega))
  | true =>
    have vf := (validB_iff X O).1 hv
    have hfin := Lib.hid (show shiftM X O cols rows = (0, trl (cols % X.length).toNat (rows % X.length).toNat X, trl (cols % X.length).toNat (rows % X.length).toNat O) by unfold shiftM; rw [if_neg (by simp [hv])])
    clear hv
    have hn2 := vf.two
    obtain ⟨ec, ec1, ec2, ec3⟩ := tmod_shift cols X.length (by omega)
    obtain ⟨er, er1, er2, er3⟩ := tmod_shift rows X.length (by omega)
    generalize (cols % (X.length : Int)).toNat = pc at *
    generalize (rows % (X.length : Int)).toNat = pr at *
    have wc : IntKind.i64.wrap (cols.tmod X.length + X.length) = cols.tmod X.length + X.length := IntWalk.i64_in _ (by omega)
    have wr : IntKind.i64.wrap (rows.tmod X.length + X.length) = rows.tmod X.length + X.length := IntWalk.i64_in _ (by omega)
    have zn : ((X.length : Int) == 0) = false := beq_eq_false_iff_ne.2 (by omega)
    have zn2 : ¬ ((X.length : Int) = 0) := by omega
    have zn3 : ¬ (X = []) := by intro h; rw [h] at hn2; simp at hn2
    have zn4 : ¬ (X.length = 0) := by omega
    have HT := Lib.hid (fun W (hS : W.cell? ⟨w.heap.size, 0, none⟩ = some (.slice A X.length c) ∧ W.cell? ⟨w.heap.size, 1, none⟩ = some (.slice A' O.length c') ∧ Below w.heap.size w W) => translate_any (.slice A X.length c) (.slice A' O.length c') X O pc pr W (hX0.below hS.2.2) (hO0.below hS.2.2) vf.len hl (by omega) (by omega) (by omega) vf.pX.1 (by have := vf.pO.1; rw [← vf.len] at this; exact this))
    have KS0 := Lib.hid (show w5.drew.cell? ⟨w.heap.size, 0, none⟩ = some (.slice A X.length c) ∧ w5.drew.cell? ⟨w.heap.size, 1, none⟩ = some (.slice A' O.length c') ∧ Below w.heap.size w w5.drew from ⟨y0, y1, hbw5.drew⟩)
    have HJ := Lib.hid (fun W W' (hS : W.cell? ⟨w.heap.size, 0, none⟩ = some (.slice A X.length c) ∧ W.cell? ⟨w.heap.size, 1, none⟩ = some (.slice A' O.length c') ∧ Below w.heap.size w W) (hb : Below W.heap.size W W') => (⟨(hb.cell (block_lt_of_cell hS.1)).trans hS.1, (hb.cell (block_lt_of_cell hS.2.1)).trans hS.2.1, hS.2.2.trans (hb.mono hS.2.2.size)⟩ : W'.cell? ⟨w.heap.size, 0, none⟩ = some (.slice A X.length c) ∧ W'.cell? ⟨w.heap.size, 1, none⟩ = some (.slice A' O.length c') ∧ Below w.heap.size w W'))
    have KS2 := Lib.hid (fun W u u' (hS : W.cell? ⟨w.heap.size, 0, none⟩ = some (.slice A X.length c) ∧ W.cell? ⟨w.heap.size, 1, none⟩ = some (.slice A' O.length c') ∧ Below w.heap.size w W) => (⟨(World.cell?_of_block (heap_set2 W (w.heap.size + 1) 0 1 w.heap.size u u' (by omega))).trans hS.1, (World.cell?_of_block (heap_set2 W (w.heap.size + 1) 0 1 w.heap.size u u' (by omega))).trans hS.2.1, bset2 (r := w.heap.size + 1) hS.2.2 (by omega)⟩ : ((W.setCell ⟨w.heap.size + 1, 0, none⟩ u).setCell ⟨w.heap.size + 1, 1, none⟩ u').cell? ⟨w.heap.size, 0, none⟩ = some (.slice A X.length c) ∧ ((W.setCell ⟨w.heap.size + 1, 0, none⟩ u).setCell ⟨w.heap.size + 1, 1, none⟩ u').cell? ⟨w.heap.size, 1, none⟩ = some (.slice A' O.length c') ∧ Below w.heap.size w ((W.setCell ⟨w.heap.size + 1, 0, none⟩ u).setCell ⟨w.heap.size + 1, 1, none⟩ u')))
    go_wp2_with fail
    go_region_held3 (fun w' => w'.cell? ⟨w.heap.size, 0, none⟩ = some (.slice A X.length c) ∧ w'.cell? ⟨w.heap.size, 1, none⟩ = some (.slice A' O.length c') ∧ Below w.heap.size w w') (first | exact KS0.out | exact hS7 | exact KS2.out _ _ _ hS7)
      (first
        | (go_at_call 54; refine (HT.out _ (by assumption)).mono ?_; rintro e w7 ⟨v7, rfl, ⟨gx, go, rfl, q1, q2, q3, a1, a2⟩, hb7⟩; have hS7 := HJ.out _ _ (by assumption) hb7; have hr := (Arr.drew p1).below hb7 (Arr.drew p1).lt; have s0 := hr.cell 0; have s1 := hr.cell 1; have s2 := hr.frozen 0; have s3 := hr.frozen 1; clear hb7))
    have hres := Lib.hid ((hr.set 0 (.slice (some ⟨gx, 0, none⟩) (trl pc pr X).length (trl pc pr X).length)).set 1 (.slice (some ⟨go, 0, none⟩) (trl pc pr O).length (trl pc pr O).length))
    go_wp2_with fail
    refine bodyPost_ret (v := .tuple #[.agg #[.slice (some ⟨gx, 0, none⟩) (trl pc pr X).length (trl pc pr X).length, .slice (some ⟨go, 0, none⟩) (trl pc pr O).length (trl pc pr O).length], .int .i64 0]) (results_ct Tryz.results34 _ _ (w.heap.size + 1) 24 _ _ rfl hres.out Tryz.underlying24 rfl info_grid) rfl ?_
    rw [hfin.out]
    have hbs := hbw5.size
    have q2' : w5.heap.size ≤ gx := q2
    have q3' : w5.heap.size ≤ go := q3
    exact GRes.ok (bset2 (r := w.heap.size + 1) hS7.2.2 (by omega)) ⟨gx, go, rfl, q1, by omega, by omega, a1.far2 (r := w.heap.size + 1) (by omega), a2.far2 (r := w.heap.size + 1) (by omega)⟩
end Go.Proofs.YteliflcbegcdlaaGreatDoor

namespace Go.Proofs.YteliflcbegcdlaaGreatDoor
set_option linter.unusedVariables false
open Go.RowKit
/-- a slice that reads as xs in every world that has the blocks from B on as they are now -/
def IntsF (B : Nat) (w : World) (v : Value) (xs : List Int) : Prop := ∀ W : World, (∀ b, B ≤ b → b < w.heap.size → W.heap[b]? = w.heap[b]?) → Ints W v xs
theorem IntsF.ints {B : Nat} {w : World} {v : Value} {xs : List Int} (h : IntsF B w v xs) : Ints w v xs := h w (fun _ _ _ => rfl)
theorem IntsF.set2 {B : Nat} {w : World} {v : Value} {xs : List Int} (h : IntsF B w v xs) {r : Nat} (hr : r < B) (i j : Nat) (u u' : Value) : Ints ((w.setCell ⟨r, i, none⟩ u).setCell ⟨r, j, none⟩ u') v xs :=
  h _ (fun b hb _ => heap_set2 w r i j b u u' (by omega))
def GRf (B : Nat) (w : World) (r : Int × List Int × List Int) (e : Ending) (w' : World) : Prop :=
  Below B w w' ∧ ∃ A0 n0 c0 A1 n1 c1, e = .returned (.tuple #[.agg #[.slice A0 n0 c0, .slice A1 n1 c1], .int .i64 r.1]) ∧ IntsF B w' (.slice A0 n0 c0) r.2.1 ∧ IntsF B w' (.slice A1 n1 c1) r.2.2
theorem apply_rf (vx vo : Value) (X O : List Int) (k : Int) (rows : Bool) (a v : Int) (w : World) (hX : Ints w vx X) (hO : Ints w vo O) (hl : X.length ≤ 1000) (hl' : O.length ≤ 1000) :
    Calls Tryz.prog 50 #[.agg #[vx, vo], .agg #[.int .i64 k, .bool rows, .int .i64 a, .int .i64 v]] w (GRf w.heap.size w (applyM X O k rows a v)) := by
  refine (apply_any vx vo X O k rows a v w hX hO hl hl').mono ?_
  rintro e w' ⟨hb, u, rfl, h⟩
  refine ⟨hb, ?_⟩
  by_cases h0 : (applyM X O k rows a v).1 = 0
  · rw [if_pos h0] at h
    obtain ⟨gx, go, rfl, _, b1, b2, h1, h2⟩ := h
    refine ⟨_, _, _, _, _, _, rfl, fun W hW => Ints.of_arr (t := 3) ?_, fun W hW => Ints.of_arr (t := 3) ?_⟩
    · exact (hW gx b1 h1.lt).trans h1
    · exact (hW go b2 h2.lt).trans h2
  · rw [if_neg h0] at h
    subst h
    rw [applyM_err _ _ _ _ _ _ h0]
    exact ⟨_, _, _, _, _, _, rfl, fun W _ => Ints.nil _, fun W _ => Ints.nil _⟩
end Go.Proofs.YteliflcbegcdlaaGreatDoor

namespace Go.Proofs.YteliflcbegcdlaaGreatDoor
open Go.RowKit
set_option linter.unusedVariables false
structure Mv where
  k : Int
  rows : Bool
  a : Int
  v : Int
def Mv.cells (m : Mv) : List Value := [.int .i64 m.k, .bool m.rows, .int .i64 m.a, .int .i64 m.v]
def Mv.app (m : Mv) (X O : List Int) : Int × List Int × List Int := applyM X O m.k m.rows m.a m.v
/-- the value is a slice that reads as the moves ms -/
def Moves (w : World) (v : Value) (ms : List Mv) : Prop :=
  ∃ A c, v = .slice A ms.length c ∧ ∀ k (h : k < ms.length), ∃ b o, A = some ⟨b, o, none⟩ ∧ ∀ j u, ms[k].cells[j]? = some u → w.cell? ⟨b, o + k * 4 + j, none⟩ = some u
theorem Moves.below {w w' : World} {v : Value} {ms : List Mv} (h : Moves w v ms) (hb : Below w.heap.size w w') : Moves w' v ms := by
  obtain ⟨A, c, hv, hx⟩ := h
  refine ⟨A, c, hv, fun k hk => ?_⟩
  obtain ⟨b, o, hA, hc⟩ := hx k hk
  exact ⟨b, o, hA, fun j u hu => (hb.cell (block_lt_of_cell (hc j u hu))).trans (hc j u hu)⟩
theorem Moves.at_ {w : World} {A : Option Addr} {n c k : Nat} {ms : List Mv} (h : Moves w (.slice A n c) ms) (hk : k < ms.length) :
    ∃ b o, A = some ⟨b, o, none⟩ ∧ b < w.heap.size ∧ w.cell? ⟨b, o + k * 4, none⟩ = some (.int .i64 ms[k].k) ∧ w.cell? ⟨b, o + k * 4 + 1, none⟩ = some (.bool ms[k].rows) ∧ w.cell? ⟨b, o + k * 4 + 2, none⟩ = some (.int .i64 ms[k].a) ∧ w.cell? ⟨b, o + k * 4 + 3, none⟩ = some (.int .i64 ms[k].v) := by
  obtain ⟨A', c', hv, hx⟩ := h
  injection hv with h1 h2 h3
  subst h1
  obtain ⟨b, o, hA, hc⟩ := hx k hk
  have h0 := hc 0 _ rfl
  exact ⟨b, o, hA, block_lt_of_cell h0, h0, hc 1 _ rfl, hc 2 _ rfl, hc 3 _ rfl⟩
/-- the slice reads as xs in every world that differs from w in the blocks of E at most -/
def IntsE (E : Nat → Prop) (w : World) (v : Value) (xs : List Int) : Prop := ∀ W : World, (∀ b, ¬ E b → b < w.heap.size → W.heap[b]? = w.heap[b]?) → Ints W v xs
theorem IntsE.ints {E : Nat → Prop} {w : World} {v : Value} {xs : List Int} (h : IntsE E w v xs) : Ints w v xs := h w (fun _ _ _ => rfl)
theorem IntsE.below {E : Nat → Prop} {w w' : World} {v : Value} {xs : List Int} (h : IntsE E w v xs) (hb : Below w.heap.size w w') : IntsE E w' v xs :=
  fun W hW => h W (fun b hE hlt => (hW b hE (Nat.lt_of_lt_of_le hlt hb.size)).trans (hb.block b hlt))
theorem IntsE.set2 {E : Nat → Prop} {w : World} {v : Value} {xs : List Int} (h : IntsE E w v xs) {r : Nat} (hr : E r) (i j : Nat) (u u' : Value) : IntsE E ((w.setCell ⟨r, i, none⟩ u).setCell ⟨r, j, none⟩ u') v xs :=
  fun W hW => h W (fun b hE hlt => (hW b hE (by simpa [World.setCell] using hlt)).trans (heap_set2 w r i j b u u' (fun e => hE (by rw [e]; exact hr))))
theorem IntsE.of_fresh {E : Nat → Prop} {B : Nat} {w : World} {v : Value} {xs : List Int} (h : IntsF B w v xs) (hE : ∀ b, E b → b < B) : IntsE E w v xs :=
  fun W hW => h W (fun b hb hlt => hW b (fun e => by have := hE b e; omega) hlt)
theorem IntsE.nil (E : Nat → Prop) (w : World) : IntsE E w (.slice none 0 0) [] := fun W _ => Ints.nil W
theorem IntsE.of_arr {E : Nat → Prop} {w : World} {g : Nat} {t : TypeId} {xs : List Int} (h : Arr w g t (Go.Proofs.YteliflcbegcdlaaGreatDoor.ints xs)) (hE : ¬ E g) : IntsE E w (.slice (some ⟨g, 0, none⟩) xs.length xs.length) xs :=
  fun W hW => Ints.of_arr (t := t) ((hW g hE h.lt).trans h)
/-- moves one after the other: the error number, the last grid, the place of the first move that fails -/
def playFrom : Nat → List Int → List Int → List Mv → Int × List Int × List Int × Int
  | _, X, O, [] => (0, X, O, -1)
  | i, X, O, m :: ms => if (m.app X O).1 = 0 then playFrom (i + 1) (m.app X O).2.1 (m.app X O).2.2 ms else ((m.app X O).1, [], [], i)
theorem playFrom_drop (X O : List Int) (ms : List Mv) {k : Nat} (h : k < ms.length) : playFrom k X O (ms.drop k) = if (ms[k].app X O).1 = 0 then playFrom (k + 1) (ms[k].app X O).2.1 (ms[k].app X O).2.2 (ms.drop (k + 1)) else ((ms[k].app X O).1, [], [], k) := by
  rw [List.drop_eq_getElem_cons h, playFrom]
def playM (X O : List Int) (ms : List Mv) : Int × List Int × List Int × Int :=
  if validB X O = false then (1, [], [], -1) else playFrom 0 X O ms
theorem trl_zero {l : List Int} (h : Pm l) : trl 0 0 l = l := by
  apply List.ext_getElem?
  intro j
  by_cases hj : j < l.length
  · rw [List.getElem?_eq_getElem hj]
    have hg := h.get hj
    have e1 : ∀ k, k < l.length → (((k : Int) + (0 : Nat)) % (l.length : Int)) = k := fun k hk => by rw [show ((k : Int) + (0 : Nat)) = k from by simp]; exact Int.emod_eq_of_lt (by omega) (by omega)
    refine (reloc_get (mv := mvTr l.length (0 : Nat) (0 : Nat)) hj hj (e1 j hj) (fun k' h' hne e => ?_)).trans ?_
    · have := e1 k' h'
      simp only [mvTr] at e
      omega
    · simp only [mvTr]
      rw [show l[j] + ((0 : Nat) : Int) = l[j] from by simp, Int.emod_eq_of_lt hg.1 hg.2]
  · rw [List.getElem?_eq_none (by unfold trl; rw [reloc_length]; omega), List.getElem?_eq_none (by omega)]
theorem shiftM_zero {X O : List Int} (h : Vd X O) : shiftM X O 0 0 = (0, X, O) := by
  unfold shiftM
  rw [if_neg (by simp [(validB_iff X O).2 h])]
  simp only [Int.zero_emod, Int.toNat_zero]
  rw [trl_zero h.pX, trl_zero h.pO]
end Go.Proofs.YteliflcbegcdlaaGreatDoor

namespace Go.Proofs.YteliflcbegcdlaaGreatDoor
set_option linter.unusedVariables false
open Go.RowKit
def itr (f : Nat → Nat) : Nat → Nat → Nat
  | 0, i => i
  | k + 1, i => f (itr f k i)
theorem itr_add (f : Nat → Nat) (a b i : Nat) : itr f (a + b) i = itr f a (itr f b i) := by
  induction a with
  | zero => rw [Nat.zero_add]; rfl
  | succ a ih => rw [Nat.succ_add, itr, itr, ih]
structure PermF (n : Nat) (f : Nat → Nat) : Prop where
  lt : ∀ i, i < n → f i < n
  inj : ∀ i j, i < n → j < n → f i = f j → i = j
def Rl (f : Nat → Nat) (i j : Nat) : Prop := ∃ k, itr f k i = j
theorem Rl.refl (f : Nat → Nat) (i : Nat) : Rl f i i := ⟨0, rfl⟩
theorem Rl.step (f : Nat → Nat) (i : Nat) : Rl f i (f i) := ⟨1, rfl⟩
theorem Rl.trans {f : Nat → Nat} {i j k : Nat} (h : Rl f i j) (h' : Rl f j k) : Rl f i k := by
  obtain ⟨a, ha⟩ := h
  obtain ⟨b, hb⟩ := h'
  exact ⟨b + a, by rw [itr_add, ha, hb]⟩
theorem len_sub : ∀ (l X : List Nat), l.Nodup → (∀ x ∈ l, x ∈ X) → l.length ≤ X.length := by
  intro l
  induction l with
  | nil => intro X _ _; simp
  | cons a l ih =>
    intro X hn hs
    have ha := hs a List.mem_cons_self
    have := ih (X.erase a) (List.nodup_cons.1 hn).2 (fun x hx => by
      rw [List.mem_erase_of_ne]
      · exact hs x (List.mem_cons_of_mem _ hx)
      · intro e; subst e; exact (List.nodup_cons.1 hn).1 hx)
    rw [List.length_erase_of_mem ha] at this
    have hpos : 0 < X.length := List.length_pos_of_mem ha
    simp only [List.length_cons]
    omega
theorem nodup_map {g : Nat → Nat} : ∀ {l : List Nat}, l.Nodup → (∀ a, a ∈ l → ∀ b, b ∈ l → g a = g b → a = b) → (l.map g).Nodup := by
  intro l
  induction l with
  | nil => intro _ _; simp
  | cons a l ih =>
    intro hn hi
    rw [List.map_cons, List.nodup_cons]
    refine ⟨fun hm => ?_, ih (List.nodup_cons.1 hn).2 (fun x hx y hy => hi x (List.mem_cons_of_mem _ hx) y (List.mem_cons_of_mem _ hy))⟩
    obtain ⟨b, hb, e⟩ := List.mem_map.1 hm
    have := hi b (List.mem_cons_of_mem _ hb) a List.mem_cons_self e
    subst this
    exact (List.nodup_cons.1 hn).1 hb
section
variable {n : Nat} {f : Nat → Nat}
theorem PermF.itr_lt (h : PermF n f) {i : Nat} (hi : i < n) (k : Nat) : itr f k i < n := by
  induction k with
  | zero => exact hi
  | succ k ih => exact h.lt _ ih
theorem PermF.itr_inj (h : PermF n f) {i j : Nat} (hi : i < n) (hj : j < n) : ∀ k, itr f k i = itr f k j → i = j := by
  intro k
  induction k with
  | zero => exact id
  | succ k ih => intro e; exact ih (h.inj _ _ (h.itr_lt hi k) (h.itr_lt hj k) e)
/-- as long as i does not come back, its images are different numbers -/
theorem PermF.apart (h : PermF n f) {i : Nat} (hi : i < n) {m : Nat} (hm : ∀ k, 0 < k → k < m → itr f k i ≠ i) : m ≤ n := by
  have hn : ((List.range m).map (fun k => itr f k i)).Nodup := by
    refine nodup_map List.nodup_range ?_
    intro a ha b hb e
    rw [List.mem_range] at ha hb
    rcases Nat.lt_trichotomy a b with hab | hab | hab
    · exfalso
      have : itr f (b - a) i = i := by
        apply h.itr_inj (h.itr_lt hi _) hi a
        rw [← itr_add, show a + (b - a) = b from by omega]; exact e.symm
      exact hm (b - a) (by omega) (by omega) this
    · exact hab
    · exfalso
      have : itr f (a - b) i = i := by
        apply h.itr_inj (h.itr_lt hi _) hi b
        rw [← itr_add, show b + (a - b) = a from by omega]; exact e
      exact hm (a - b) (by omega) (by omega) this
  have := len_sub _ (List.range n) hn (fun x hx => by
    obtain ⟨k, _, rfl⟩ := List.mem_map.1 hx
    exact List.mem_range.2 (h.itr_lt hi k))
  simpa using this
theorem PermF.back (h : PermF n f) {i : Nat} (hi : i < n) : ∃ k, 0 < k ∧ k ≤ n ∧ itr f k i = i := by
  by_cases hb : ∃ k, 0 < k ∧ k ≤ n ∧ itr f k i = i
  · exact hb
  · have := h.apart hi (m := n + 1) (fun k h1 h2 e => hb ⟨k, h1, by omega, e⟩)
    omega
theorem PermF.symm (h : PermF n f) {i j : Nat} (hi : i < n) (hr : Rl f i j) : Rl f j i := by
  obtain ⟨k, rfl⟩ := hr
  induction k with
  | zero => exact Rl.refl f i
  | succ k ih =>
    refine Rl.trans ?_ ih
    obtain ⟨m, hm, _, e⟩ := h.back (h.itr_lt hi k)
    refine ⟨m - 1, ?_⟩
    show itr f (m - 1) (itr f (k + 1) i) = itr f k i
    have : itr f (m - 1) (itr f 1 (itr f k i)) = itr f k i := by rw [← itr_add, show m - 1 + 1 = m from by omega]; exact e
    exact this
theorem Rl.lt (h : PermF n f) {i j : Nat} (hi : i < n) (hr : Rl f i j) : j < n := by obtain ⟨k, rfl⟩ := hr; exact h.itr_lt hi k
/-- related, to be computed -/
def rB (f : Nat → Nat) (n j i : Nat) : Bool := (List.range (n + 1)).any fun k => itr f k j == i
theorem rB_iff (h : PermF n f) {j i : Nat} (hj : j < n) : rB f n j i = true ↔ Rl f j i := by
  simp only [rB, List.any_eq_true, List.mem_range, beq_iff_eq]
  constructor
  · rintro ⟨k, _, e⟩; exact ⟨k, e⟩
  · rintro ⟨k, e⟩
    induction k using Nat.strongRecOn with
    | _ k ih =>
      by_cases hk : k < n + 1
      · exact ⟨k, hk, e⟩
      · obtain ⟨m, hm, hmn, eb⟩ := h.back hj
        refine ih (k - m) (by omega) ?_
        rw [← e, show k = (k - m) + m from by omega, itr_add, eb]
        congr 1
        omega
/-- the numbers below n that are the least ones of their cycles -/
def heads (f : Nat → Nat) (n : Nat) : List Nat := (List.range n).filter fun i => (List.range i).all fun j => !rB f n j i
def cls (f : Nat → Nat) (n : Nat) : Nat := (heads f n).length
theorem mem_heads (h : PermF n f) {i : Nat} : i ∈ heads f n ↔ i < n ∧ ∀ j, j < i → ¬ Rl f j i := by
  simp only [heads, List.mem_filter, List.mem_range, List.all_eq_true, Bool.not_eq_true']
  constructor
  · rintro ⟨hi, hj⟩
    refine ⟨hi, fun j hlt hr => ?_⟩
    have := hj j hlt
    rw [(rB_iff h (by omega)).2 hr] at this
    cases this
  · rintro ⟨hi, hj⟩
    refine ⟨hi, fun j hlt => ?_⟩
    cases hr : rB f n j i with
    | false => rfl
    | true => exact absurd ((rB_iff h (by omega)).1 hr) (hj j hlt)
theorem heads_nodup : (heads f n).Nodup := List.nodup_range.filter _
theorem exists_head (h : PermF n f) : ∀ i, i < n → ∃ j, j ∈ heads f n ∧ Rl f j i := by
  intro i
  induction i using Nat.strongRecOn with
  | _ i ih =>
    intro hi
    by_cases hh : ∃ j, j < i ∧ Rl f j i
    · obtain ⟨j, hj, hr⟩ := hh
      obtain ⟨k, hk, hr'⟩ := ih j hj (by omega)
      exact ⟨k, hk, hr'.trans hr⟩
    · exact ⟨i, (mem_heads h).2 ⟨hi, fun j hj hr => hh ⟨j, hj, hr⟩⟩, Rl.refl f i⟩
theorem heads_inj (h : PermF n f) {i j : Nat} (hi : i ∈ heads f n) (hj : j ∈ heads f n) (hr : Rl f i j) : i = j := by
  have h1 := (mem_heads h).1 hi
  have h2 := (mem_heads h).1 hj
  rcases Nat.lt_trichotomy i j with hlt | e | hlt
  · exact absurd hr (h2.2 i hlt)
  · exact e
  · exact absurd (h.symm h1.1 hr) (h1.2 j hlt)
end
/-- a list with a choice for each of its elements -/
theorem choose_list {P : Nat → Nat → Prop} : ∀ (l : List Nat), (∀ i ∈ l, ∃ j, P i j) → ∃ g : Nat → Nat, ∀ i ∈ l, P i (g i) := by
  intro l
  induction l with
  | nil => intro _; exact ⟨id, fun i hi => by cases hi⟩
  | cons a l ih =>
    intro h
    obtain ⟨g, hg⟩ := ih (fun i hi => h i (List.mem_cons_of_mem _ hi))
    obtain ⟨j, hj⟩ := h a List.mem_cons_self
    refine ⟨fun i => if i = a then j else g i, fun i hi => ?_⟩
    by_cases e : i = a
    · subst e; simp only [if_true]; exact hj
    · simp only [e, if_false]
      rcases List.mem_cons.1 hi with e' | hi
      · exact absurd e' e
      · exact hg i hi
theorem cls_le {n m : Nat} {f g : Nat → Nat} (hf : PermF n f) (hg : PermF m g) (φ : Nat → Nat) (h1 : ∀ i, i < n → φ i < m) (h2 : ∀ i j, i < n → j < n → Rl g (φ i) (φ j) → Rl f i j) : cls f n ≤ cls g m := by
  obtain ⟨ρ, hρ⟩ := choose_list (P := fun i j => j ∈ heads g m ∧ Rl g j (φ i)) (heads f n) (fun i hi => exists_head hg _ (h1 i ((mem_heads hf).1 hi).1))
  have hn : ((heads f n).map ρ).Nodup := by
    refine nodup_map heads_nodup ?_
    intro i hi j hj e
    have a := hρ i hi
    have b := hρ j hj
    have hi' := ((mem_heads hf).1 hi).1
    have hj' := ((mem_heads hf).1 hj).1
    refine heads_inj hf hi hj (h2 i j hi' hj' ?_)
    refine Rl.trans (hg.symm ((mem_heads hg).1 a.1).1 a.2) ?_
    rw [e]
    exact b.2
  have := len_sub _ (heads g m) hn (fun x hx => by
    obtain ⟨i, hi, rfl⟩ := List.mem_map.1 hx
    exact (hρ i hi).1)
  simpa [cls] using this
/-- a map under which each step is a step or two keeps what is related -/
theorem rl_map {n : Nat} {f g : Nat → Nat} (hf : PermF n f) (φ : Nat → Nat) (h : ∀ i, i < n → Rl g (φ i) (φ (f i))) {i j : Nat} (hi : i < n) (hr : Rl f i j) : Rl g (φ i) (φ j) := by
  obtain ⟨k, rfl⟩ := hr
  induction k with
  | zero => exact Rl.refl g _
  | succ k ih => exact ih.trans (h _ (hf.itr_lt hi k))
theorem cls_eq {n m : Nat} {f g : Nat → Nat} (hf : PermF n f) (hg : PermF m g) (φ ψ : Nat → Nat) (a1 : ∀ i, i < n → φ i < m) (a2 : ∀ j, j < m → ψ j < n)
    (b1 : ∀ i, i < n → Rl g (φ i) (φ (f i))) (b2 : ∀ j, j < m → Rl f (ψ j) (ψ (g j))) (c1 : ∀ i, i < n → Rl f (ψ (φ i)) i) (c2 : ∀ j, j < m → Rl g (φ (ψ j)) j) : cls f n = cls g m := by
  refine Nat.le_antisymm (cls_le hf hg φ a1 (fun i j hi hj hr => ?_)) (cls_le hg hf ψ a2 (fun i j hi hj hr => ?_))
  · exact ((hf.symm (a2 _ (a1 i hi)) (c1 i hi)).trans (rl_map hg ψ b2 (a1 i hi) hr)).trans (c1 j hj)
  · exact ((hg.symm (a1 _ (a2 i hi)) (c2 i hi)).trans (rl_map hf φ b1 (a2 i hi) hr)).trans (c2 j hj)
end Go.Proofs.YteliflcbegcdlaaGreatDoor
