/- the laws' great, fits; the reference's Degree. -/
import Derived.Test.YtlbihllmpbhhcaaGreatDoorFde
import Derived.Test.YtlbihllmpbhhcaaGreatDoorPsh
namespace Go.Proofs.YtlbihllmpbhhcaaGreatDoor
open Go.RowKit
set_option linter.unusedVariables false

theorem fitB_g1 {ws comp : List Int} {gen : Int} (h : gen < 0) : fitB ws comp gen = false := by
  unfold fitB
  rw [decide_eq_false (by omega : ¬ 0 ≤ gen)]; simp
theorem fitB_g2 {ws comp : List Int} {gen : Int} (h : (comp.length : Int) ≤ gen) : fitB ws comp gen = false := by
  unfold fitB
  rw [decide_eq_false (by omega : ¬ gen < comp.length)]; simp
theorem fitB_v {ws comp : List Int} {gen : Int} (h : vldW ws comp.length = false) : fitB ws comp gen = false := by
  unfold fitB
  rw [h]; simp
theorem fitB_c {ws comp : List Int} {gen c : Int} (hm : c ∈ comp) (h : 1000 < c ∨ c < -1000) : fitB ws comp gen = false := by
  unfold fitB
  have : comp.all (fun c => decide (-1000 ≤ c ∧ c ≤ 1000)) = false := by
    rw [List.all_eq_false]
    exact ⟨c, hm, by simp; omega⟩
  rw [this]; simp
set_option maxHeartbeats 2000000 in
set_option maxRecDepth 100000 in
theorem fits_any (vw vc : Value) (ws comp : List Int) (gen : Int) (w : World) (hw : Ints w vw ws) (hc : Ints w vc comp) (hl : ws.length ≤ 4611686018427387904) (hcl : comp.length ≤ 1000000) :
    Calls Tryz.prog 7 #[vw, .int .i64 gen, vc] w fun e w' => e = .returned (.bool (fitB ws comp gen)) ∧ w = w' := by
  obtain ⟨V, hV⟩ : ∃ V, V = fitB ws comp gen := ⟨_, rfl⟩
  rw [← hV]
  have HV := Lib.hid hV
  have HW := Lib.hid hw
  have HC := Lib.hid hc
  clear hV
  obtain ⟨A, c, rfl, _, _⟩ := hw
  obtain ⟨A2, c2, rfl, _, _⟩ := hc
  by_cases c1 : gen < 0
  · have HF := Lib.hid (HV.out.trans (fitB_g1 c1))
    go_enter Tryz.func7, Tryz.ntmps7
    go_wp2_with fail
    go_ret
    exact ⟨by rw [HF.out]; rfl, rfl⟩
  by_cases c3 : gen ≥ (comp.length : Int)
  · have HF := Lib.hid (HV.out.trans (fitB_g2 c3))
    go_enter Tryz.func7, Tryz.ntmps7
    go_wp2_with fail
    go_ret
    exact ⟨by rw [HF.out]; rfl, rfl⟩
  go_enter Tryz.func7, Tryz.ntmps7
  go_wp2_with fail
  go_loopg [8, 21] comp.length (fun gk s8 s21 wr => ∃ k : Nat, k ≤ comp.length ∧ gk = comp.length - k ∧ s21 = .int .i64 (k : Int) ∧ Hid (∀ x ∈ comp.take k, -1000 ≤ x ∧ x ≤ 1000) ∧ w = wr)
  case atStart => exact ⟨0, Nat.zero_le _, rfl, rfl, Lib.hid (fun x hx => by simp at hx), rfl⟩
  case round =>
    obtain ⟨k, hk, rfl, rfl, HK, rfl⟩ := hrel
    by_cases hlt : k < comp.length
    · have z1 : (k : Int) < (comp.length : Int) := by omega
      obtain ⟨b, o, ⟨c', hv⟩, hbl, hcell⟩ := ints_at HC.out hlt
      injection hv with hv1 hv2 hv3
      subst hv1 hv3
      clear hv2
      have HBB := Lib.hid (fun h => fitB_c (ws := ws) (gen := gen) (List.getElem_mem hlt) h)
      have HKN := Lib.hid (fun (h : -1000 ≤ comp[k] ∧ comp[k] ≤ 1000) => (show ∀ x ∈ comp.take (k + 1), -1000 ≤ x ∧ x ≤ 1000 from fun x hx => by
        rw [take_snocI hlt] at hx
        rcases List.mem_append.1 hx with hx | hx
        · exact HK.out x hx
        · rw [List.mem_singleton.1 hx]; exact h))
      clear HK
      generalize comp[k] = x at *
      by_cases c4 : x < -1000
      · have HE := Lib.hid (HV.out.trans (HBB.out (.inr c4)))
        clear HBB HKN
        go_wp2_with fail
        go_ret
        exact ⟨by rw [HE.out]; rfl, rfl⟩
      · by_cases c5 : x > 1000
        · have HE := Lib.hid (HV.out.trans (HBB.out (.inl c5)))
          clear HBB HKN
          go_wp2_with fail
          go_ret
          exact ⟨by rw [HE.out]; rfl, rfl⟩
        · have HK2 := Lib.hid (HKN.out (by omega))
          clear HBB HKN
          go_wp2_with fail
          go_roundg (comp.length - (k + 1))
          case measure => omega
          case rel => exact ⟨k + 1, by omega, rfl, by go_num, HK2, rfl⟩
    · have z1 : ¬ ((k : Int) < (comp.length : Int)) := by omega
      have hkn : k = comp.length := by omega
      have HCC := Lib.hid (show ∀ x ∈ comp, -1000 ≤ x ∧ x ≤ 1000 from fun x hx => HK.out x (by rw [hkn, List.take_length]; exact hx))
      clear hkn HK
      go_wp2_with fail
      go_loopg [10, 34] ws.length (fun gk s10 s34 wr => ∃ j : Nat, j ≤ ws.length ∧ gk = ws.length - j ∧ s34 = .int .i64 (j : Int) ∧ Hid (∀ x ∈ ws.take j, x ≠ 0 ∧ x ≤ comp.length ∧ -(comp.length : Int) ≤ x) ∧ w = wr)
      case atStart => exact ⟨0, Nat.zero_le _, rfl, rfl, Lib.hid (fun x hx => by simp at hx), rfl⟩
      case round =>
        obtain ⟨j, hj, rfl, rfl, HJ, rfl⟩ := hrel
        by_cases hlt : j < ws.length
        · have z2 : (j : Int) < (ws.length : Int) := by omega
          obtain ⟨b, o, ⟨c', hv⟩, hbl, hcell⟩ := ints_at HW.out hlt
          injection hv with hv1 hv2 hv3
          subst hv1 hv3
          clear hv2
          have HBB := Lib.hid (fun (h : badL comp.length ws[j] = true) => (show V = false from HV.out.trans (fitB_v (any_take_bad hlt h))))
          have HJN := Lib.hid (fun (h : ws[j] ≠ 0 ∧ ws[j] ≤ comp.length ∧ -(comp.length : Int) ≤ ws[j]) => (show ∀ x ∈ ws.take (j + 1), x ≠ 0 ∧ x ≤ comp.length ∧ -(comp.length : Int) ≤ x from fun x hx => by
            rw [take_snocI hlt] at hx
            rcases List.mem_append.1 hx with hx | hx
            · exact HJ.out x hx
            · rw [List.mem_singleton.1 hx]; exact h))
          clear HJ
          generalize ws[j] = x at *
          by_cases d1 : x = 0
          · have z3 : (x == 0) = true := by simp [d1]
            have HE := Lib.hid (HBB.out (badL_true (.inr (.inl d1))))
            clear HBB HJN d1
            go_wp2_with fail
            go_ret
            exact ⟨by rw [HE.out]; rfl, rfl⟩
          · have z3 : (x == 0) = false := by simp [d1]
            by_cases d2 : x > (comp.length : Int)
            · have HE := Lib.hid (HBB.out (badL_true (.inr (.inr (.inl d2)))))
              clear HBB HJN
              go_wp2_with fail
              go_ret
              exact ⟨by rw [HE.out]; rfl, rfl⟩
            · by_cases d3 : x < -(comp.length : Int)
              · have HE := Lib.hid (HBB.out (badL_true (.inr (.inr (.inr d3)))))
                clear HBB HJN
                go_wp2_with fail
                go_ret
                exact ⟨by rw [HE.out]; rfl, rfl⟩
              · have HJ2 := Lib.hid (HJN.out ⟨d1, by omega, by omega⟩)
                clear HBB HJN d1
                go_wp2_with fail
                go_roundg (ws.length - (j + 1))
                case measure => omega
                case rel => exact ⟨j + 1, by omega, rfl, by go_num, HJ2, rfl⟩
        · have z2 : ¬ ((j : Int) < (ws.length : Int)) := by omega
          have hjn : j = ws.length := by omega
          have HE := Lib.hid (show V = true from HV.out.trans (fitB_ok (by omega) (by omega) (vldW_iff.2 fun x hx => by
            have := HJ.out x (by rw [hjn, List.take_length]; exact hx)
            exact ⟨by omega, this.1, this.2.1, this.2.2⟩) HCC.out))
          clear hjn HJ
          go_wp2_with fail
          go_ret
          exact ⟨by rw [HE.out]; rfl, rfl⟩
/-- great: words of more than 40 letters, or more than 8 generators -/
def grB (vs : List (Option Addr × Nat × Nat)) (n : Nat) : Bool := vs.any (fun p => decide (40 < p.2.1)) || decide (8 < n)
def slv (p : Option Addr × Nat × Nat) : Value := .slice p.1 p.2.1 p.2.2
set_option maxHeartbeats 2000000 in
set_option maxRecDepth 100000 in
theorem great_any (A : Option Addr) (n c : Nat) (b : Nat) (vs : List (Option Addr × Nat × Nat)) (w : World) (ha : Arr w b 38 (vs.map slv)) (hn : n ≤ 9223372036854775807) (hvl : vs.length ≤ 1000) (hv : ∀ p ∈ vs, p.2.1 ≤ 9223372036854775807) :
    Calls Tryz.prog 6 #[.slice A n c, .slice (some ⟨b, 0, none⟩) vs.length vs.length] w fun e w' => e = .returned (.bool (grB vs n)) ∧ w = w' := by
  obtain ⟨V, hV⟩ : ∃ V, V = grB vs n := ⟨_, rfl⟩
  rw [← hV]
  have HV := Lib.hid hV
  have HA := Lib.hid ha
  have HB := Lib.hid hv
  clear hV ha hv
  go_enter Tryz.func6, Tryz.ntmps6
  go_wp2_with fail
  go_loopg [6, 9] vs.length (fun gk s6 s9 wr => ∃ k : Nat, k ≤ vs.length ∧ gk = vs.length - k ∧ s9 = .int .i64 (k : Int) ∧ Hid (∀ p ∈ vs.take k, p.2.1 ≤ 40) ∧ w = wr)
  case atStart => exact ⟨0, Nat.zero_le _, rfl, rfl, Lib.hid (fun x hx => by simp at hx), rfl⟩
  case round =>
    obtain ⟨k, hk, rfl, rfl, HK, rfl⟩ := hrel
    by_cases hlt : k < vs.length
    · have z1 : (k : Int) < (vs.length : Int) := by omega
      have hcell : w.cell? ⟨b, k, none⟩ = some (slv vs[k]) := by rw [HA.out.cell, List.getElem?_map, List.getElem?_eq_getElem hlt]; rfl
      have HBB := Lib.hid (fun (h : 40 < vs[k].2.1) => (show V = true from by
        rw [HV.out]; unfold grB
        rw [List.any_eq_true.2 ⟨vs[k], List.getElem_mem hlt, decide_eq_true h⟩]; rfl))
      have HKN := Lib.hid (fun (h : vs[k].2.1 ≤ 40) => (show ∀ p ∈ vs.take (k + 1), p.2.1 ≤ 40 from fun x hx => by
        rw [List.take_add_one, List.getElem?_eq_getElem hlt] at hx
        rcases List.mem_append.1 hx with hx | hx
        · exact HK.out x hx
        · simp at hx; rw [hx]; exact h))
      have hb2 := HB.out vs[k] (List.getElem_mem hlt)
      clear HK
      generalize vs[k] = p at *
      obtain ⟨p1, p2, p3⟩ := p
      unfold slv at hcell
      dsimp only at *
      by_cases c4 : (p2 : Int) > 40
      · have HE := Lib.hid (HBB.out (by omega))
        clear HBB HKN
        go_wp2_with fail
        go_ret
        exact ⟨by rw [HE.out]; rfl, rfl⟩
      · have HK2 := Lib.hid (HKN.out (by omega))
        clear HBB HKN
        go_wp2_with fail
        go_roundg (vs.length - (k + 1))
        case measure => omega
        case rel => exact ⟨k + 1, by omega, rfl, by go_num, HK2, rfl⟩
    · have z1 : ¬ ((k : Int) < (vs.length : Int)) := by omega
      have hkn : k = vs.length := by omega
      have HE := Lib.hid (show V = decide ((n : Int) > 8) from by
        rw [HV.out]; unfold grB
        have : vs.any (fun p => decide (40 < p.2.1)) = false := by
          rw [List.any_eq_false]
          intro p hp
          have := HK.out p (by rw [hkn, List.take_length]; exact hp)
          simp; omega
        rw [this, Bool.false_or]
        exact decide_eq_decide.2 (by omega))
      clear hkn HK
      go_wp2_with fail
      go_ret
      exact ⟨by rw [HE.out]; rfl, rfl⟩
end Go.Proofs.YtlbihllmpbhhcaaGreatDoor
