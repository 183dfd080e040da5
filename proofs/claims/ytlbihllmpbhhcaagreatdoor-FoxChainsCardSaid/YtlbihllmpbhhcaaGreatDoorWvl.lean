/- word.Valid. -/
import Derived.Test.YtlbihllmpbhhcaaGreatDoorPrt
import Derived.Test.YtlbihllmpbhhcaaGreatDoorPsh
namespace Go.Proofs.YtlbihllmpbhhcaaGreatDoor
open Go.RowKit
set_option linter.unusedVariables false

/-- a letter that is none for the rank -/
def badL (rank x : Int) : Bool := decide (rank < 1) || x == 0 || decide (rank < x) || decide (x < -rank)
def vldW (ws : List Int) (rank : Int) : Bool := !(ws.any (badL rank))
theorem badL_true {rank x : Int} (h : rank < 1 ∨ x = 0 ∨ rank < x ∨ x < -rank) : badL rank x = true := by
  unfold badL
  rcases h with h | h | h | h <;> simp [h]
theorem badL_false {rank x : Int} (h : ¬ (rank < 1 ∨ x = 0 ∨ rank < x ∨ x < -rank)) : badL rank x = false := by
  unfold badL
  have h1 : ¬ rank < 1 := fun e => h (.inl e)
  have h2 : ¬ x = 0 := fun e => h (.inr (.inl e))
  have h3 : ¬ rank < x := fun e => h (.inr (.inr (.inl e)))
  have h4 : ¬ x < -rank := fun e => h (.inr (.inr (.inr e)))
  simp [h1, h2, h3, h4]
theorem vldW_iff {ws : List Int} {rank : Int} : vldW ws rank = true ↔ ∀ x ∈ ws, 1 ≤ rank ∧ x ≠ 0 ∧ x ≤ rank ∧ -rank ≤ x := by
  unfold vldW
  rw [Bool.not_eq_true', List.any_eq_false]
  constructor
  · intro h x hx
    have h1 := h x hx
    have : ¬ (rank < 1 ∨ x = 0 ∨ rank < x ∨ x < -rank) := fun e => h1 (badL_true e)
    omega
  · intro h x hx
    have h1 := h x hx
    rw [badL_false (by omega)]; simp
theorem any_take_bad {ws : List Int} {rank : Int} {k : Nat} (hk : k < ws.length) (h : badL rank ws[k] = true) : vldW ws rank = false := by
  unfold vldW
  rw [Bool.not_eq_false', List.any_eq_true]
  exact ⟨_, List.getElem_mem hk, h⟩
set_option maxHeartbeats 1000000 in
theorem wvalid_any (vw : Value) (ws : List Int) (rank : Int) (w : World) (hw : Ints w vw ws) (hr : -1000000 ≤ rank ∧ rank ≤ 9223372036854775807) (hl : ws.length ≤ 4611686018427387904) :
    Calls Tryz.prog 17 #[vw, .int .i64 rank] w fun e w' => e = .returned (.bool (vldW ws rank)) ∧ w = w' := by
  have HW := Lib.hid hw
  obtain ⟨A, c, rfl, hcap, _⟩ := hw
  obtain ⟨V, hV⟩ : ∃ V, V = vldW ws rank := ⟨_, rfl⟩
  rw [← hV]
  have HV := Lib.hid hV
  clear hV
  go_enter Tryz.func17, Tryz.ntmps17
  go_wp2_with fail
  go_loopg [6, 9] ws.length (fun gk s6 s9 wr => ∃ k : Nat, k ≤ ws.length ∧ gk = ws.length - k ∧ s9 = .int .i64 (k : Int) ∧ Hid (∀ x ∈ ws.take k, badL rank x = false) ∧ w = wr)
  case atStart => exact ⟨0, Nat.zero_le _, rfl, rfl, Lib.hid (fun x hx => by simp at hx), rfl⟩
  case round =>
    obtain ⟨k, hk, rfl, rfl, HK, rfl⟩ := hrel
    by_cases hlt : k < ws.length
    · have z1 : (k : Int) < (ws.length : Int) := by omega
      obtain ⟨b, o, ⟨c', hv⟩, hbl, hcell⟩ := ints_atZ HW.out hlt
      injection hv with hv1 hv2 hv3
      subst hv1 hv3
      clear hv2
      have HBB := Lib.hid (fun h => any_take_bad (rank := rank) hlt (badL_true h))
      have HKN := Lib.hid (fun (h : ¬ (rank < 1 ∨ ws[k] = 0 ∨ rank < ws[k] ∨ ws[k] < -rank)) => (show ∀ x ∈ ws.take (k + 1), badL rank x = false from fun x hx => by
        rw [take_snocZ hlt] at hx
        rcases List.mem_append.1 hx with hx | hx
        · exact HK.out x hx
        · rw [List.mem_singleton.1 hx]; exact badL_false h))
      clear HK
      generalize ws[k] = x at *
      by_cases c1 : rank < 1
      · have HB := Lib.hid (HBB.out (.inl c1))
        clear HBB HKN
        go_wp2_with fail
        go_ret
        exact ⟨by rw [HV.out, HB.out]; rfl, rfl⟩
      · by_cases c2 : x = 0
        · have HB := Lib.hid (HBB.out (.inr (.inl c2)))
          have z2 : (x == 0) = true := by simp [c2]
          clear HBB HKN c2
          go_wp2_with fail
          go_ret
          exact ⟨by rw [HV.out, HB.out]; rfl, rfl⟩
        · have z2 : (x == 0) = false := by simp [c2]
          by_cases c3 : rank < x
          · have HB := Lib.hid (HBB.out (.inr (.inr (.inl c3))))
            clear HBB HKN c2
            go_wp2_with fail
            go_ret
            exact ⟨by rw [HV.out, HB.out]; rfl, rfl⟩
          · by_cases c4 : x < -rank
            · have HB := Lib.hid (HBB.out (.inr (.inr (.inr c4))))
              clear HBB HKN c2
              go_wp2_with fail
              go_ret
              exact ⟨by rw [HV.out, HB.out]; rfl, rfl⟩
            · have HK2 := Lib.hid (HKN.out (by omega))
              clear HBB HKN c2
              go_wp2_with fail
              go_roundg (ws.length - (k + 1))
              case measure => omega
              case rel => exact ⟨k + 1, by omega, rfl, by go_num, HK2, rfl⟩
    · have z1 : ¬ ((k : Int) < (ws.length : Int)) := by omega
      have hkn : k = ws.length := by omega
      have HB := Lib.hid (show vldW ws rank = true from by
        unfold vldW
        rw [Bool.not_eq_true', List.any_eq_false]
        intro x hx
        rw [HK.out x (by rw [hkn, List.take_length]; exact hx)]; simp)
      clear hkn HK
      go_wp2_with fail
      go_ret
      exact ⟨by rw [HV.out, HB.out]; rfl, rfl⟩
end Go.Proofs.YtlbihllmpbhhcaaGreatDoor
