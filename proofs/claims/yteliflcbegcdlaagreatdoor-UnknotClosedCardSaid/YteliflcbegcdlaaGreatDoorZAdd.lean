/- The reference's add. -/
import Derived.Test.YteliflcbegcdlaaGreatDoorZRlt
import Derived.Test.YteliflcbegcdlaaGreatDoorZRef3
import Derived.Test.YteliflcbegcdlaaGreatDoorZRem
namespace Go.Proofs.YteliflcbegcdlaaGreatDoor
open Go.RowKit
set_option linter.unusedVariables false
set_option maxHeartbeats 2000000 in
theorem add_any0 (vx vo : Value) (X O : List Int) (a r : Nat) (w : World) (hX : Ints w vx X) (hO : Ints w vo O) (hl : X.length ≤ 900) (hl' : O.length ≤ 900) (ha : a ≤ X.length) (hb : a ≤ O.length) (hr : r ≤ 1000) (hx : ∀ x ∈ X, -1000 ≤ x ∧ x ≤ 1000) (ho : ∀ x ∈ O, -1000 ≤ x ∧ x ≤ 1000) :
    Calls Tryz.prog 87 #[.agg #[vx, vo], .int .i64 a, .int .i64 r, .int .i64 0] w fun e w' => ∃ v, e = .returned v ∧ OwnG w.heap.size w' v (addL X a r false ((r : Int) + 1)) (addL O a r true (r : Int)) ∧ Below w.heap.size w w' := by
  have hX0 := hX
  have hO0 := hO
  obtain ⟨A, c, rfl, hc, hh⟩ := hX
  obtain ⟨A', c', rfl, hc', hh'⟩ := hO
  clear hh hh'
  go_enter Tryz.func87, Tryz.ntmps87
  go_upto_region 1 with fail
  have hW : Arr ((w.alloc (.cells #[.slice A X.length c, .slice A' O.length c'] 24)).alloc (.cells #[.slice none 0 0, .slice none 0 0] 24)) w.heap.size 24 [.slice A X.length c, .slice A' O.length c'] ∧ Arr ((w.alloc (.cells #[.slice A X.length c, .slice A' O.length c'] 24)).alloc (.cells #[.slice none 0 0, .slice none 0 0] 24)) (w.heap.size + 1) 24 [.slice none 0 0, .slice none 0 0] ∧ Below w.heap.size w ((w.alloc (.cells #[.slice A X.length c, .slice A' O.length c'] 24)).alloc (.cells #[.slice none 0 0, .slice none 0 0] 24)) :=
    ⟨(Arr.new _ _ [_, _]).alloc _, Arr.newAt (w.alloc _) _ [_, _] _ (by simp), ((Below.refl _ _).alloc (Nat.le_refl _) _).alloc (by simp) _⟩
  generalize ((w.alloc (.cells #[.slice A X.length c, .slice A' O.length c'] 24)).alloc (.cells #[.slice none 0 0, .slice none 0 0] 24)) = w4 at hW ⊢
  obtain ⟨p0, p1, hbw⟩ := hW
  have y0 := p0.cell 0
  have y1 := p0.cell 1
  have l1 := p1.lt
  have KS := Lib.hid (fun W (hb : Below w4.heap.size w4 W) => (⟨(hb.cell p0.lt).trans y0, (hb.cell p0.lt).trans y1, hb⟩ : W.cell? ⟨w.heap.size, 0, none⟩ = some (.slice A X.length c) ∧ W.cell? ⟨w.heap.size, 1, none⟩ = some (.slice A' O.length c') ∧ Below w4.heap.size w4 W))
  have HJ := Lib.hid (fun W W' (hS : W.cell? ⟨w.heap.size, 0, none⟩ = some (.slice A X.length c) ∧ W.cell? ⟨w.heap.size, 1, none⟩ = some (.slice A' O.length c') ∧ Below w4.heap.size w4 W) (hb : Below W.heap.size W W') => Below.trans hS.2.2 (hb.mono hS.2.2.size))
  have HX := Lib.hid (fun W (hS : W.cell? ⟨w.heap.size, 0, none⟩ = some (.slice A X.length c) ∧ W.cell? ⟨w.heap.size, 1, none⟩ = some (.slice A' O.length c') ∧ Below w4.heap.size w4 W) => split_any (.slice A X.length c) X r false W (hX0.below (hbw.trans (Below.mono hS.2.2 hbw.size))) (by omega) hx)
  have HO := Lib.hid (fun W (hS : W.cell? ⟨w.heap.size, 0, none⟩ = some (.slice A X.length c) ∧ W.cell? ⟨w.heap.size, 1, none⟩ = some (.slice A' O.length c') ∧ Below w4.heap.size w4 W) => split_any (.slice A' O.length c') O r true W (hO0.below (hbw.trans (Below.mono hS.2.2 hbw.size))) (by omega) ho)
  go_cut [9, 10] (fun s9 s10 wx => Ints wx s9 (X.map (upr r false)) ∧ Ints wx s10 (O.map (upr r true)) ∧ Below w4.heap.size w4 wx)
  case first =>
    go_region_held3 (fun w' => w'.cell? ⟨w.heap.size, 0, none⟩ = some (.slice A X.length c) ∧ w'.cell? ⟨w.heap.size, 1, none⟩ = some (.slice A' O.length c') ∧ Below w4.heap.size w4 w') ((refine KS.out _ ?_; first | exact (Below.refl _ _).drew | exact Below.refl _ _ | exact hb2 | exact hb1))
      (first
        | (go_at_call_of 100 (Value.slice A X.length c); refine (HX.out _ (by assumption)).mono ?_; rintro e w1 ⟨v1, rfl, hown1, hb1'⟩; have hb1 := HJ.out _ _ (by assumption) hb1'; clear hb1')
        | (go_at_call_of 100 (Value.slice A' O.length c'); refine (HO.out _ (by assumption)).mono ?_; rintro e w2 ⟨v2, rfl, hown2, hb2'⟩; have hb2 := HJ.out _ _ (by assumption) hb2'; have hown1' := hown1.below hb2' (Nat.le_refl _); clear hb2'))
    all_goals
      go_wp2_with fail
      go_meet
      exact ⟨hown1'.ints, hown2.ints, hb2⟩
  case rest =>
    clear KS HJ HX HO y0 y1
    obtain ⟨i1, i2, hbc⟩ := hcut
    have hbw' := hbw.trans (hbc.mono hbw.size)
    have p1c := p1.below hbc p1.lt
    obtain ⟨A1, c1, rfl, j1, k1⟩ := id i1
    obtain ⟨A2, c2, rfl, j2, k2⟩ := id i2
    clear k1 k2
    rw [List.length_map] at i1 i2
    have e1 := Lib.hid (show ((X.map (upr r false)).take a ++ ((r : Int) + 1) :: (X.map (upr r false)).drop a) = addL X a r false ((r : Int) + 1) from rfl)
    have e2 := Lib.hid (show ((O.map (upr r true)).take a ++ (r : Int) :: (O.map (upr r true)).drop a) = addL O a r true (r : Int) from rfl)
    go_wp2_with fail
    refine (insert_any _ (X.map (upr r false)) a _ _ i1 (by simp; omega) (by simp; omega)).mono ?_
    rw [e1.out]
    rintro e w6 ⟨v6, rfl, hown6, hb6⟩
    have hbx := hbw'.trans (hb6.mono hbw'.size)
    have p6 := p1c.below hb6 p1c.lt
    have i2' := i2.below hb6
    have lc := p1c.lt
    clear hb6 i1 i2
    go_wp2_with fail
    refine (insert_any _ (O.map (upr r true)) a _ _ i2' (by simp; omega) (by simp; omega)).mono ?_
    rw [e2.out]
    rintro e w7 ⟨v7, rfl, hown7, hb7⟩
    have hby := hbx.trans (hb7.mono hbx.size)
    have p7 := p6.below hb7 p6.lt
    have hown6' := hown6.below hb7 (Nat.le_refl _)
    have l6 := p6.lt
    clear hb7 hown6
    obtain ⟨C0, m0, rfl⟩ := hown6'.form
    obtain ⟨C1, m1, rfl⟩ := hown7.form
    have s0 := p7.cell 0
    have s1 := p7.cell 1
    have s2 := p7.frozen 0
    have s3 := p7.frozen 1
    have hres := Lib.hid ((p7.set 0 (.slice C0 (addL X a r false ((r : Int) + 1)).length m0)).set 1 (.slice C1 (addL O a r true (r : Int)).length m1))
    go_wp2_with fail
    refine bodyPost_ret (v := .agg #[.slice C0 (addL X a r false ((r : Int) + 1)).length m0, .slice C1 (addL O a r true (r : Int)).length m1]) (results_c Tryz.results87 _ _ (w.heap.size + 1) 24 _ _ rfl hres.out Tryz.underlying24 rfl info_grid) rfl ?_
    exact ⟨_, rfl, ⟨_, _, _, _, _, _, rfl, (hown6'.far2 (r := w.heap.size + 1) lc).mono (by omega), (hown7.far2 (r := w.heap.size + 1) l6).mono (by omega)⟩, bset2 (r := w.heap.size + 1) hby (by omega)⟩
set_option maxHeartbeats 2000000 in
theorem add_any1 (vx vo : Value) (X O : List Int) (a r : Nat) (w : World) (hX : Ints w vx X) (hO : Ints w vo O) (hl : X.length ≤ 900) (hl' : O.length ≤ 900) (ha : a ≤ X.length) (hb : a ≤ O.length) (hr : r ≤ 1000) (hx : ∀ x ∈ X, -1000 ≤ x ∧ x ≤ 1000) (ho : ∀ x ∈ O, -1000 ≤ x ∧ x ≤ 1000) :
    Calls Tryz.prog 87 #[.agg #[vx, vo], .int .i64 a, .int .i64 r, .int .i64 1] w fun e w' => ∃ v, e = .returned v ∧ OwnG w.heap.size w' v (addL X a r true (r : Int)) (addL O a r false ((r : Int) + 1)) ∧ Below w.heap.size w w' := by
  have hX0 := hX
  have hO0 := hO
  obtain ⟨A, c, rfl, hc, hh⟩ := hX
  obtain ⟨A', c', rfl, hc', hh'⟩ := hO
  clear hh hh'
  go_enter Tryz.func87, Tryz.ntmps87
  go_upto_region 1 with fail
  have hW : Arr ((w.alloc (.cells #[.slice A X.length c, .slice A' O.length c'] 24)).alloc (.cells #[.slice none 0 0, .slice none 0 0] 24)) w.heap.size 24 [.slice A X.length c, .slice A' O.length c'] ∧ Arr ((w.alloc (.cells #[.slice A X.length c, .slice A' O.length c'] 24)).alloc (.cells #[.slice none 0 0, .slice none 0 0] 24)) (w.heap.size + 1) 24 [.slice none 0 0, .slice none 0 0] ∧ Below w.heap.size w ((w.alloc (.cells #[.slice A X.length c, .slice A' O.length c'] 24)).alloc (.cells #[.slice none 0 0, .slice none 0 0] 24)) :=
    ⟨(Arr.new _ _ [_, _]).alloc _, Arr.newAt (w.alloc _) _ [_, _] _ (by simp), ((Below.refl _ _).alloc (Nat.le_refl _) _).alloc (by simp) _⟩
  generalize ((w.alloc (.cells #[.slice A X.length c, .slice A' O.length c'] 24)).alloc (.cells #[.slice none 0 0, .slice none 0 0] 24)) = w4 at hW ⊢
  obtain ⟨p0, p1, hbw⟩ := hW
  have y0 := p0.cell 0
  have y1 := p0.cell 1
  have l1 := p1.lt
  have KS := Lib.hid (fun W (hb : Below w4.heap.size w4 W) => (⟨(hb.cell p0.lt).trans y0, (hb.cell p0.lt).trans y1, hb⟩ : W.cell? ⟨w.heap.size, 0, none⟩ = some (.slice A X.length c) ∧ W.cell? ⟨w.heap.size, 1, none⟩ = some (.slice A' O.length c') ∧ Below w4.heap.size w4 W))
  have HJ := Lib.hid (fun W W' (hS : W.cell? ⟨w.heap.size, 0, none⟩ = some (.slice A X.length c) ∧ W.cell? ⟨w.heap.size, 1, none⟩ = some (.slice A' O.length c') ∧ Below w4.heap.size w4 W) (hb : Below W.heap.size W W') => Below.trans hS.2.2 (hb.mono hS.2.2.size))
  have HX := Lib.hid (fun W (hS : W.cell? ⟨w.heap.size, 0, none⟩ = some (.slice A X.length c) ∧ W.cell? ⟨w.heap.size, 1, none⟩ = some (.slice A' O.length c') ∧ Below w4.heap.size w4 W) => split_any (.slice A X.length c) X r true W (hX0.below (hbw.trans (Below.mono hS.2.2 hbw.size))) (by omega) hx)
  have HO := Lib.hid (fun W (hS : W.cell? ⟨w.heap.size, 0, none⟩ = some (.slice A X.length c) ∧ W.cell? ⟨w.heap.size, 1, none⟩ = some (.slice A' O.length c') ∧ Below w4.heap.size w4 W) => split_any (.slice A' O.length c') O r false W (hO0.below (hbw.trans (Below.mono hS.2.2 hbw.size))) (by omega) ho)
  go_cut [9, 10] (fun s9 s10 wx => Ints wx s9 (X.map (upr r true)) ∧ Ints wx s10 (O.map (upr r false)) ∧ Below w4.heap.size w4 wx)
  case first =>
    go_region_held3 (fun w' => w'.cell? ⟨w.heap.size, 0, none⟩ = some (.slice A X.length c) ∧ w'.cell? ⟨w.heap.size, 1, none⟩ = some (.slice A' O.length c') ∧ Below w4.heap.size w4 w') ((refine KS.out _ ?_; first | exact (Below.refl _ _).drew | exact Below.refl _ _ | exact hb2 | exact hb1))
      (first
        | (go_at_call_of 100 (Value.slice A X.length c); refine (HX.out _ (by assumption)).mono ?_; rintro e w1 ⟨v1, rfl, hown1, hb1'⟩; have hb1 := HJ.out _ _ (by assumption) hb1'; clear hb1')
        | (go_at_call_of 100 (Value.slice A' O.length c'); refine (HO.out _ (by assumption)).mono ?_; rintro e w2 ⟨v2, rfl, hown2, hb2'⟩; have hb2 := HJ.out _ _ (by assumption) hb2'; have hown1' := hown1.below hb2' (Nat.le_refl _); clear hb2'))
    all_goals
      go_wp2_with fail
      go_meet
      exact ⟨hown1'.ints, hown2.ints, hb2⟩
  case rest =>
    clear KS HJ HX HO y0 y1
    obtain ⟨i1, i2, hbc⟩ := hcut
    have hbw' := hbw.trans (hbc.mono hbw.size)
    have p1c := p1.below hbc p1.lt
    obtain ⟨A1, c1, rfl, j1, k1⟩ := id i1
    obtain ⟨A2, c2, rfl, j2, k2⟩ := id i2
    clear k1 k2
    rw [List.length_map] at i1 i2
    have e1 := Lib.hid (show ((X.map (upr r true)).take a ++ (r : Int) :: (X.map (upr r true)).drop a) = addL X a r true (r : Int) from rfl)
    have e2 := Lib.hid (show ((O.map (upr r false)).take a ++ ((r : Int) + 1) :: (O.map (upr r false)).drop a) = addL O a r false ((r : Int) + 1) from rfl)
    go_wp2_with fail
    refine (insert_any _ (X.map (upr r true)) a _ _ i1 (by simp; omega) (by simp; omega)).mono ?_
    rw [e1.out]
    rintro e w6 ⟨v6, rfl, hown6, hb6⟩
    have hbx := hbw'.trans (hb6.mono hbw'.size)
    have p6 := p1c.below hb6 p1c.lt
    have i2' := i2.below hb6
    have lc := p1c.lt
    clear hb6 i1 i2
    go_wp2_with fail
    refine (insert_any _ (O.map (upr r false)) a _ _ i2' (by simp; omega) (by simp; omega)).mono ?_
    rw [e2.out]
    rintro e w7 ⟨v7, rfl, hown7, hb7⟩
    have hby := hbx.trans (hb7.mono hbx.size)
    have p7 := p6.below hb7 p6.lt
    have hown6' := hown6.below hb7 (Nat.le_refl _)
    have l6 := p6.lt
    clear hb7 hown6
    obtain ⟨C0, m0, rfl⟩ := hown6'.form
    obtain ⟨C1, m1, rfl⟩ := hown7.form
    have s0 := p7.cell 0
    have s1 := p7.cell 1
    have s2 := p7.frozen 0
    have s3 := p7.frozen 1
    have hres := Lib.hid ((p7.set 0 (.slice C0 (addL X a r true (r : Int)).length m0)).set 1 (.slice C1 (addL O a r false ((r : Int) + 1)).length m1))
    go_wp2_with fail
    refine bodyPost_ret (v := .agg #[.slice C0 (addL X a r true (r : Int)).length m0, .slice C1 (addL O a r false ((r : Int) + 1)).length m1]) (results_c Tryz.results87 _ _ (w.heap.size + 1) 24 _ _ rfl hres.out Tryz.underlying24 rfl info_grid) rfl ?_
    exact ⟨_, rfl, ⟨_, _, _, _, _, _, rfl, (hown6'.far2 (r := w.heap.size + 1) lc).mono (by omega), (hown7.far2 (r := w.heap.size + 1) l6).mono (by omega)⟩, bset2 (r := w.heap.size + 1) hby (by omega)⟩
end Go.Proofs.YteliflcbegcdlaaGreatDoor
