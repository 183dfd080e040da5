/- the reference's Degree. -/
import Derived.Test.YtlbihllmpbhhcaaGreatDoorRdp
namespace Go.Proofs.YtlbihllmpbhhcaaGreatDoor
open Go.RowKit
set_option linter.unusedVariables false

theorem stepD_pos {comp : List Int} {d x : Int} {i : Nat} (h : x - 1 = (i : Int)) (hi : i < comp.length) : stepD comp d x = d + comp[i] := by
  unfold stepD cg
  rw [if_pos (by omega), h, Int.toNat_natCast, List.getElem?_eq_getElem hi]; rfl
theorem stepD_neg {comp : List Int} {d x : Int} {i : Nat} (h : -x - 1 = (i : Int)) (hi : i < comp.length) : stepD comp d x = d - comp[i] := by
  unfold stepD cg
  rw [if_neg (by omega), h, Int.toNat_natCast, List.getElem?_eq_getElem hi]; rfl
set_option maxHeartbeats 1000000 in
set_option maxRecDepth 100000 in
theorem degree_any (vw vc : Value) (ws comp : List Int) (w : World) (hw : Ints w vw ws) (hc : Ints w vc comp) (hl : ws.length ≤ 100000) (hcl : comp.length ≤ 1000000) (hx : ∀ x ∈ ws, x ≠ 0 ∧ x ≤ comp.length ∧ -(comp.length : Int) ≤ x) (hcb : ∀ c ∈ comp, -1000 ≤ c ∧ c ≤ 1000) :
    Calls Tryz.prog 14 #[vw, vc] w fun e w' => e = .returned (.int .i64 (dg comp ws)) ∧ w = w' := by
  have HW := Lib.hid hw
  have HC := Lib.hid hc
  have HX := Lib.hid hx
  have HCB := Lib.hid hcb
  obtain ⟨A, c, rfl, _, _⟩ := hw
  obtain ⟨A2, c2, rfl, _, _⟩ := hc
  clear hx hcb
  obtain ⟨R, hR⟩ : ∃ R, R = dg comp ws := ⟨_, rfl⟩
  rw [← hR]
  have HR := Lib.hid hR
  clear hR
  go_enter Tryz.func14, Tryz.ntmps14
  go_wp2_with fail
  go_loopg [5, 6] ws.length (fun gk s5 s6 wr => ∃ (k : Nat) (d : Int), k ≤ ws.length ∧ gk = ws.length - k ∧ s6 = .int .i64 (k : Int) ∧ s5 = .int .i64 d ∧ Hid (d = degW comp (ws.take k) 0) ∧ (-1000 * (k : Int) ≤ d ∧ d ≤ 1000 * (k : Int)) ∧ w = wr)
  case atStart => exact ⟨0, 0, Nat.zero_le _, rfl, rfl, rfl, Lib.hid rfl, by omega, rfl⟩
  case round =>
    obtain ⟨k, d, hk, rfl, rfl, rfl, HD, hd, rfl⟩ := hrel
    by_cases hlt : k < ws.length
    · have z1 : (k : Int) < (ws.length : Int) := by omega
      obtain ⟨b, o, ⟨c', hv⟩, _, hcell⟩ := ints_at HW.out hlt
      injection hv with hv1 hv2 hv3
      subst hv1 hv3
      clear hv2
      have hxk := HX.out ws[k] (List.getElem_mem hlt)
      have HS := Lib.hid (show degW comp (ws.take (k + 1)) 0 = stepD comp d ws[k] from by rw [take_snocI hlt, degW_snoc, ← HD.out])
      clear HD
      generalize ws[k] = x at *
      by_cases hp : x > 0
      · obtain ⟨iz, hi⟩ : ∃ i : Nat, x - 1 = (i : Int) := ⟨(x - 1).toNat, by omega⟩
        have hil : iz < comp.length := by omega
        have z2 : (iz : Int) < (comp.length : Int) := by omega
        obtain ⟨b2, o2, ⟨c2', hv⟩, _, hcell2⟩ := ints_at HC.out hil
        injection hv with hv1 hv2 hv3
        subst hv1 hv3
        clear hv2
        have hcv := HCB.out comp[iz] (List.getElem_mem hil)
        have HS2 := Lib.hid (HS.out.trans (stepD_pos hi hil))
        clear HS
        generalize comp[iz] = cv at *
        go_wp2_with fail
        go_roundg (ws.length - (k + 1))
        case measure => omega
        case rel => exact ⟨k + 1, d + cv, by omega, rfl, by go_num, rfl, Lib.hid HS2.out.symm, by omega, rfl⟩
      · obtain ⟨iz, hi⟩ : ∃ i : Nat, -x - 1 = (i : Int) := ⟨(-x - 1).toNat, by omega⟩
        have hil : iz < comp.length := by omega
        have z2 : (iz : Int) < (comp.length : Int) := by omega
        obtain ⟨b2, o2, ⟨c2', hv⟩, _, hcell2⟩ := ints_at HC.out hil
        injection hv with hv1 hv2 hv3
        subst hv1 hv3
        clear hv2
        have hcv := HCB.out comp[iz] (List.getElem_mem hil)
        have HS2 := Lib.hid (HS.out.trans (stepD_neg hi hil))
        clear HS
        generalize comp[iz] = cv at *
        go_wp2_with fail
        go_roundg (ws.length - (k + 1))
        case measure => omega
        case rel => exact ⟨k + 1, d - cv, by omega, rfl, by go_num, rfl, Lib.hid HS2.out.symm, by omega, rfl⟩
    · have z1 : ¬ (k : Int) < (ws.length : Int) := by omega
      have HE := Lib.hid (show R = d from by rw [HR.out, HD.out, List.take_of_length_le (by omega)]; rfl)
      clear HD
      go_wp2_with fail
      go_ret
      exact ⟨by rw [HE.out]; rfl, rfl⟩
theorem dg_bd {ws comp : List Int} (hcb : ∀ c ∈ comp, -1000 ≤ c ∧ c ≤ 1000) : -1000 * (ws.length : Int) ≤ dg comp ws ∧ dg comp ws ≤ 1000 * (ws.length : Int) := by
  have := degW_bd (N := 1000) (by omega) hcb ws 0
  unfold dg; omega
end Go.Proofs.YtlbihllmpbhhcaaGreatDoor
