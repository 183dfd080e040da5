/- The reference's remove. -/
import Derived.Test.YteliflcbegcdlaaGreatDoorZRlt
import Derived.Test.YteliflcbegcdlaaGreatDoorZReloc
import Derived.Deep.DeepCutAuto
import Derived.Deep.RegionWith
namespace Go.Proofs.YteliflcbegcdlaaGreatDoor
open Go.RowKit
set_option linter.unusedVariables false
/-- the value is a pair of slices of the call's own -/
def OwnG (B : Nat) (w : World) (v : Value) (X O : List Int) : Prop := ∃ A0 n0 c0 A1 n1 c1, v = .agg #[.slice A0 n0 c0, .slice A1 n1 c1] ∧ OwnI 3 B w (.slice A0 n0 c0) X ∧ OwnI 3 B w (.slice A1 n1 c1) O
theorem OwnI.far2 {e : TypeId} {base : Nat} {w : World} {v : Value} {xs : List Int} (h : OwnI e base w v xs) {r : Nat} (hr : r < base) {i j : Nat} {u u' : Value} : OwnI e base ((w.setCell ⟨r, i, none⟩ u).setCell ⟨r, j, none⟩ u') v xs :=
  ownsRow_setCell_below (a := ⟨r, j, none⟩) (ownsRow_setCell_below (a := ⟨r, i, none⟩) h hr u) hr u'
theorem OwnI.mono {e : TypeId} {base base' : Nat} {w : World} {v : Value} {xs : List Int} (h : OwnI e base w v xs) (hb : base' ≤ base) : OwnI e base' w v xs := by
  refine ⟨h.1, ?_⟩
  rcases h.2 with h0 | ⟨g, cap, cur, e1, hg, r⟩
  · exact .inl h0
  · exact .inr ⟨g, cap, cur, e1, by omega, r⟩
set_option maxHeartbeats 2000000 in
theorem remove_any (vx vo : Value) (X O : List Int) (a : Nat) (w : World) (hX : Ints w vx X) (hO : Ints w vo O) (hl : X.length ≤ 1000) (hl' : O.length ≤ 1000) (ha : a < X.length) (hb : a < O.length) (hx : ∀ x ∈ X, -1000 ≤ x ∧ x ≤ 1000) (ho : ∀ x ∈ O, -1000 ≤ x ∧ x ≤ 1000) :
    Calls Tryz.prog 86 #[.agg #[vx, vo], .int .i64 a] w fun e w' => ∃ v, e = .returned v ∧ OwnG w.heap.size w' v (delL X a (minG X[a] O[a])) (delL O a (minG X[a] O[a])) ∧ Below w.heap.size w w' := by
  have hX0 := hX
  have hO0 := hO
  obtain ⟨A, c, rfl, hc, hh⟩ := hX
  obtain ⟨A', c', rfl, hc', hh'⟩ := hO
  clear hh hh'
  obtain ⟨b1, o1, rfl, hlt, c1⟩ := hX0.at_ ha
  obtain ⟨b2, o2, rfl, hlt', c2⟩ := hO0.at_ hb
  have hmm : (if O[a] < X[a] then O[a] else X[a]) = minG X[a] O[a] := rfl
  generalize hlow : minG X[a] O[a] = low at *
  have HM := Lib.hid hmm
  clear hmm hlow
  have ev : ∀ (l : List Int) (r : Int), (l.take a ++ l.drop (a + 1)).map (lowr r) = delL l a r := fun l r => rfl
  have EV := Lib.hid ev
  clear ev
  go_enter Tryz.func86, Tryz.ntmps86
  go_upto_region 1 with fail
  have hW : Arr ((w.alloc (.cells #[.slice (some ⟨b1, o1, none⟩) X.length c, .slice (some ⟨b2, o2, none⟩) O.length c'] 24)).alloc (.cells #[.slice none 0 0, .slice none 0 0] 24)) w.heap.size 24 [.slice (some ⟨b1, o1, none⟩) X.length c, .slice (some ⟨b2, o2, none⟩) O.length c'] ∧ Arr ((w.alloc (.cells #[.slice (some ⟨b1, o1, none⟩) X.length c, .slice (some ⟨b2, o2, none⟩) O.length c'] 24)).alloc (.cells #[.slice none 0 0, .slice none 0 0] 24)) (w.heap.size + 1) 24 [.slice none 0 0, .slice none 0 0] ∧ Below w.heap.size w ((w.alloc (.cells #[.slice (some ⟨b1, o1, none⟩) X.length c, .slice (some ⟨b2, o2, none⟩) O.length c'] 24)).alloc (.cells #[.slice none 0 0, .slice none 0 0] 24)) :=
    ⟨(Arr.new _ _ [_, _]).alloc _, Arr.newAt (w.alloc _) _ [_, _] _ (by simp), ((Below.refl _ _).alloc (Nat.le_refl _) _).alloc (by simp) _⟩
  generalize ((w.alloc (.cells #[.slice (some ⟨b1, o1, none⟩) X.length c, .slice (some ⟨b2, o2, none⟩) O.length c'] 24)).alloc (.cells #[.slice none 0 0, .slice none 0 0] 24)) = w4 at hW ⊢
  obtain ⟨q0, q1, hb4⟩ := hW
  have d0 := q0.cell 0
  have d1 := q0.cell 1
  have e1 := (hb4.cell (p := ⟨b1, o1 + a, none⟩) hlt).trans c1
  have e2 := (hb4.cell (p := ⟨b2, o2 + a, none⟩) hlt').trans c2
  go_cut [5] (fun s5 wx => s5 = .int .i64 low ∧ Arr wx w.heap.size 24 [.slice (some ⟨b1, o1, none⟩) X.length c, .slice (some ⟨b2, o2, none⟩) O.length c'] ∧ Arr wx (w.heap.size + 1) 24 [.slice none 0 0, .slice none 0 0] ∧ Below w.heap.size w wx)
  case first =>
    go_quiet (fail)
    rw [HM.out]
    go_wp2_with fail
    go_meet
    exact ⟨rfl, q0.drewN _, q1.drewN _, bdrewN hb4 _⟩
  case rest =>
    clear d0 d1 e1 e2 c1 c2 q0 q1 hb4
    obtain ⟨rfl, p0, p1, hbw⟩ := hcut
    have y0 := p0.cell 0
    have y1 := p0.cell 1
    have l1 := p1.lt
    have KS0 := Lib.hid (show wc.drew.cell? ⟨w.heap.size, 0, none⟩ = some (.slice (some ⟨b1, o1, none⟩) X.length c) ∧ wc.drew.cell? ⟨w.heap.size, 1, none⟩ = some (.slice (some ⟨b2, o2, none⟩) O.length c') ∧ Below w.heap.size w wc.drew from ⟨y0, y1, hbw.drew⟩)
    have HJ := Lib.hid (fun W W' (hS : W.cell? ⟨w.heap.size, 0, none⟩ = some (.slice (some ⟨b1, o1, none⟩) X.length c) ∧ W.cell? ⟨w.heap.size, 1, none⟩ = some (.slice (some ⟨b2, o2, none⟩) O.length c') ∧ Below w.heap.size w W) (hb : Below W.heap.size W W') => (⟨(hb.cell (block_lt_of_cell hS.1)).trans hS.1, (hb.cell (block_lt_of_cell hS.2.1)).trans hS.2.1, hS.2.2.trans (hb.mono hS.2.2.size)⟩ : W'.cell? ⟨w.heap.size, 0, none⟩ = some (.slice (some ⟨b1, o1, none⟩) X.length c) ∧ W'.cell? ⟨w.heap.size, 1, none⟩ = some (.slice (some ⟨b2, o2, none⟩) O.length c') ∧ Below w.heap.size w W'))
    have KS2 := Lib.hid (fun W u u' (hS : W.cell? ⟨w.heap.size, 0, none⟩ = some (.slice (some ⟨b1, o1, none⟩) X.length c) ∧ W.cell? ⟨w.heap.size, 1, none⟩ = some (.slice (some ⟨b2, o2, none⟩) O.length c') ∧ Below w.heap.size w W) => (⟨(World.cell?_of_block (heap_set2 W (w.heap.size + 1) 0 1 w.heap.size u u' (by omega))).trans hS.1, (World.cell?_of_block (heap_set2 W (w.heap.size + 1) 0 1 w.heap.size u u' (by omega))).trans hS.2.1, bset2 (r := w.heap.size + 1) hS.2.2 (by omega)⟩ : ((W.setCell ⟨w.heap.size + 1, 0, none⟩ u).setCell ⟨w.heap.size + 1, 1, none⟩ u').cell? ⟨w.heap.size, 0, none⟩ = some (.slice (some ⟨b1, o1, none⟩) X.length c) ∧ ((W.setCell ⟨w.heap.size + 1, 0, none⟩ u).setCell ⟨w.heap.size + 1, 1, none⟩ u').cell? ⟨w.heap.size, 1, none⟩ = some (.slice (some ⟨b2, o2, none⟩) O.length c') ∧ Below w.heap.size w ((W.setCell ⟨w.heap.size + 1, 0, none⟩ u).setCell ⟨w.heap.size + 1, 1, none⟩ u')))
    have HWX := Lib.hid (fun W (hS : W.cell? ⟨w.heap.size, 0, none⟩ = some (.slice (some ⟨b1, o1, none⟩) X.length c) ∧ W.cell? ⟨w.heap.size, 1, none⟩ = some (.slice (some ⟨b2, o2, none⟩) O.length c') ∧ Below w.heap.size w W) => without_any (Value.slice (some ⟨b1, o1, none⟩) X.length c) X a W (hX0.below hS.2.2) hl ha)
    have HWO := Lib.hid (fun W (hS : W.cell? ⟨w.heap.size, 0, none⟩ = some (.slice (some ⟨b1, o1, none⟩) X.length c) ∧ W.cell? ⟨w.heap.size, 1, none⟩ = some (.slice (some ⟨b2, o2, none⟩) O.length c') ∧ Below w.heap.size w W) => without_any (Value.slice (some ⟨b2, o2, none⟩) O.length c') O a W (hO0.below hS.2.2) hl' hb)
    have HLX := Lib.hid (fun v W (h : Ints W v (X.take a ++ X.drop (a + 1))) => lower_any v _ low W h (by simp; omega) (fun x hx' => hx x (by rcases List.mem_append.1 hx' with h | h; exact List.mem_of_mem_take h; exact List.mem_of_mem_drop h)))
    have HLO := Lib.hid (fun v W (h : Ints W v (O.take a ++ O.drop (a + 1))) => lower_any v _ low W h (by simp; omega) (fun x hx' => ho x (by rcases List.mem_append.1 hx' with h | h; exact List.mem_of_mem_take h; exact List.mem_of_mem_drop h)))
    rw [EV.out] at HLX HLO
    go_wp2_with fail
    go_region_held3 (fun w' => w'.cell? ⟨w.heap.size, 0, none⟩ = some (.slice (some ⟨b1, o1, none⟩) X.length c) ∧ w'.cell? ⟨w.heap.size, 1, none⟩ = some (.slice (some ⟨b2, o2, none⟩) O.length c') ∧ Below w.heap.size w w') (first | exact KS0.out | exact hS1 | exact hS2 | exact hS3 | exact hS4 | exact KS2.out _ _ _ hS4)
      (first
        | (go_at_call_of 99 (Value.slice (some ⟨b1, o1, none⟩) X.length c); refine (HWX.out _ (by assumption)).mono ?_; rintro e w1 ⟨v1, rfl, hown1, hb1⟩; have hS1 := HJ.out _ _ (by assumption) hb1; have p11 := (Arr.drew p1).below hb1 (Arr.drew p1).lt; have i1 := hown1.ints; clear hown1 hb1)
        | (go_at_call_of 98 v1; refine (HLX.out _ _ i1).mono ?_; rintro e w2 ⟨v2, rfl, hown2, hb2⟩; have hS2 := HJ.out _ _ (by assumption) hb2; have p12 := p11.below hb2 p11.lt; have bs2 := p11.lt; clear hb2)
        | (go_at_call_of 99 (Value.slice (some ⟨b2, o2, none⟩) O.length c'); refine (HWO.out _ (by assumption)).mono ?_; rintro e w3 ⟨v3, rfl, hown3, hb3⟩; have hS3 := HJ.out _ _ (by assumption) hb3; have p13 := p12.below hb3 p12.lt; have hown2' := hown2.below hb3 (Nat.le_refl _); have i3 := hown3.ints; clear hown3 hb3)
        | (go_at_call_of 98 v3; refine (HLO.out _ _ i3).mono ?_; rintro e w5 ⟨v4, rfl, hown4, hb4⟩; have hS4 := HJ.out _ _ (by assumption) hb4; have p14 := p13.below hb4 p13.lt; have bs4 := p13.lt; have hown2'' := hown2'.below hb4 (Nat.le_refl _); obtain ⟨C0, m0, rfl⟩ := hown2''.form; obtain ⟨C1, m1, rfl⟩ := hown4.form; have s0 := p14.cell 0; have s1 := p14.cell 1; have s2 := p14.frozen 0; have s3 := p14.frozen 1))
    all_goals
      have hres := Lib.hid ((p14.set 0 (.slice C0 (delL X a low).length m0)).set 1 (.slice C1 (delL O a low).length m1))
      go_wp2_with fail
      refine bodyPost_ret (v := .agg #[.slice C0 (delL X a low).length m0, .slice C1 (delL O a low).length m1]) (results_c Tryz.results86 _ _ (w.heap.size + 1) 24 _ _ rfl hres.out Tryz.underlying24 rfl info_grid) rfl ?_
      exact ⟨_, rfl, ⟨_, _, _, _, _, _, rfl, (hown2''.far2 (r := w.heap.size + 1) bs2).mono (by omega), (hown4.far2 (r := w.heap.size + 1) bs4).mono (by omega)⟩, bset2 (r := w.heap.size + 1) hS4.2.2 (by omega)⟩
end Go.Proofs.YteliflcbegcdlaaGreatDoor
