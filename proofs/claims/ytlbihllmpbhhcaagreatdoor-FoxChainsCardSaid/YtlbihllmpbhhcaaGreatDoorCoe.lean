/- laurent: Low, High, Coef. -/
import Derived.Test.YtlbihllmpbhhcaaGreatDoorPad
import Derived.Test.YtlbihllmpbhhcaaGreatDoorShelf
namespace Go.Proofs.YtlbihllmpbhhcaaGreatDoor
open Go.RowKit
set_option linter.unusedVariables false

def lowL (l : List (Int × Int)) : Int := (l.head?.map (·.1)).getD 0
def highL (l : List (Int × Int)) : Int := (l.getLast?.map (·.1)).getD 0
theorem lowL_0 {l : List (Int × Int)} (h : 0 < l.length) : lowL l = l[0].1 := by
  cases l with
  | nil => simp at h
  | cons t l => rfl
theorem highL_0 {l : List (Int × Int)} (h : 0 < l.length) : highL l = (l[l.length - 1]'(by omega)).1 := by
  unfold highL
  rw [List.getLast?_eq_getElem?, List.getElem?_eq_getElem (by omega)]; rfl
set_option maxHeartbeats 1000000 in
theorem Low_any (vp : Value) (p : Pol) (w : World) (hp : PolyV w vp p) (okp : okP p) : Calls Tryz.prog 23 #[vp] w fun e w' => e = .returned (.int .i64 (lowL (p.getD []))) ∧ Below w.heap.size w w' := by
  have hl : (p.getD []).length ≤ 4611686018427387904 := by
    cases p with
    | none => simp
    | some l => have := okp.2.len okp.1; simp only [Option.getD_some]; omega
  obtain ⟨A, c, rfl, hx⟩ := hp
  have HX := Lib.hid (fun W (hb : Below w.heap.size w W) => hx.below hb)
  clear hx okp
  generalize p.isNone = b1 at *
  generalize p.getD [] = l at *
  have hb : Below w.heap.size w (w.alloc (.cells #[.bool b1, .slice A l.length c] 28)) := (Below.refl _ _).alloc (Nat.le_refl _) _
  rcases Nat.eq_zero_or_pos l.length with h0 | h0
  · have z1 : ((l.length : Int) == 0) = true := by rw [beq_iff_eq]; omega
    have HE := Lib.hid (show lowL l = 0 from by rw [List.eq_nil_of_length_eq_zero h0]; rfl)
    clear h0
    go_enter Tryz.func23, Tryz.ntmps23
    go_wp2_with fail
    go_ret
    exact ⟨by rw [HE.out]; rfl, hb⟩
  · have z1 : ((l.length : Int) == 0) = false := by rw [beq_eq_false_iff_ne]; omega
    have HE := Lib.hid (lowL_0 h0)
    obtain ⟨b, o, rfl, _, y0, _⟩ := (HX.out _ hb).at_ h0
    simp only [Nat.zero_mul, Nat.add_zero] at y0
    have z2 : (0 : Int) < (l.length : Int) := by omega
    clear HX
    go_enter Tryz.func23, Tryz.ntmps23
    go_wp2_with fail
    go_ret
    exact ⟨by rw [HE.out]; rfl, hb⟩
set_option maxHeartbeats 1000000 in
theorem High_any (vp : Value) (p : Pol) (w : World) (hp : PolyV w vp p) (okp : okP p) : Calls Tryz.prog 24 #[vp] w fun e w' => e = .returned (.int .i64 (highL (p.getD []))) ∧ Below w.heap.size w w' := by
  have hl : (p.getD []).length ≤ 4611686018427387904 := by
    cases p with
    | none => simp
    | some l => have := okp.2.len okp.1; simp only [Option.getD_some]; omega
  obtain ⟨A, c, rfl, hx⟩ := hp
  have HX := Lib.hid (fun W (hb : Below w.heap.size w W) => hx.below hb)
  clear hx okp
  generalize p.isNone = b1 at *
  generalize p.getD [] = l at *
  have hb : Below w.heap.size w (w.alloc (.cells #[.bool b1, .slice A l.length c] 28)) := (Below.refl _ _).alloc (Nat.le_refl _) _
  rcases Nat.eq_zero_or_pos l.length with h0 | h0
  · have z1 : ((l.length : Int) == 0) = true := by rw [beq_iff_eq]; omega
    have HE := Lib.hid (show highL l = 0 from by rw [List.eq_nil_of_length_eq_zero h0]; rfl)
    clear h0
    go_enter Tryz.func24, Tryz.ntmps24
    go_wp2_with fail
    go_ret
    exact ⟨by rw [HE.out]; rfl, hb⟩
  · have z1 : ((l.length : Int) == 0) = false := by rw [beq_eq_false_iff_ne]; omega
    have HE := Lib.hid (highL_0 h0)
    obtain ⟨b, o, rfl, _, y0, _⟩ := (HX.out _ hb).at_ (show l.length - 1 < l.length by omega)
    have HE2 := Lib.hid (show highL l = (l[l.length - 1]).1 from HE.out)
    generalize (l[l.length - 1]).1 = x at *
    obtain ⟨m, hm⟩ : ∃ m : Nat, m = l.length - 1 := ⟨_, rfl⟩
    have e1 : (l.length : Int) - 1 = (m : Int) := by omega
    have z2 : (m : Int) < (l.length : Int) := by omega
    rw [← hm] at y0
    clear HX hm HE
    go_enter Tryz.func24, Tryz.ntmps24
    go_wp2_with fail
    go_ret
    exact ⟨by rw [HE2.out]; rfl, hb⟩
theorem cmpI (a e : Int) : (Lib.compareInt a e < 0 ↔ a < e) ∧ (Lib.compareInt a e = 0 ↔ a = e) ∧ -1 ≤ Lib.compareInt a e ∧ Lib.compareInt a e ≤ 1 := by
  unfold Lib.compareInt
  split
  · simp; omega
  · split <;> simp <;> omega
/-- what the search returns -/
def BsfR (l : List (Int × Int)) (e : Int) (w : World) (en : Ending) (w' : World) : Prop := Below w.heap.size w w' ∧ ∃ (i : Nat) (ok : Bool), en = .returned (.tuple #[.int .i64 (i : Int), .bool ok]) ∧ i ≤ l.length ∧ (ok = true → ∃ h : i < l.length, l[i].1 = e) ∧ (ok = false → cf l e = 0)
end Go.Proofs.YtlbihllmpbhhcaaGreatDoor
