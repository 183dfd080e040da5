/- Rows of chapter 38: a matrix of integers that came in; the tables. -/
import Derived.Test.YtbkgpfalljgdcaaGreatDoorZRowF
import Derived.Deep.Matrix
import Derived.Test.YtbkgpfalljgdcaaGreatDoorZSfp
import Derived.Test.YtbkgpfalljgdcaaGreatDoorZItp
namespace Go.Proofs.YtbkgpfalljgdcaaGreatDoor
open Go.ChangeShapes Go.WideShapes Go.ChangeAt Go.RowKit Go.Joins
set_option linter.unusedVariables false

theorem tab6_datum : (Rows.laid_math_bits_deBruijn64tab : DataW Unit) = Lib.tabData .u8 (Lib.deBruijn64tab.map fun k : Nat => (k : Int)) := by rfl
theorem tb6_of_laid {W : World} (h : laidMetH Tryz.prog laid3 W) : Tb6 W := by
  rw [MakeChecks.laidMetH_plain _ _ _ (by kernel_rfl)] at h
  have h2 := laidMet.tail h
  rw [tab6_datum] at h2
  exact Lib.tabIs_of_head (g := (Tryz.prog.globalNamed "math/bits.deBruijn64tab").getD 0) (t := 168) (e := 5) (n := 64) (by kernel_rfl) (by kernel_rfl) (by kernel_rfl) (by kernel_rfl) (by kernel_rfl) (by kernel_rfl) h2
section
variable {H : Type} {enc : TypeId × Value → H} {P : Program} {w : World} {base : Nat} {held : Bool}
theorem mati_of_trod {t e q : TypeId} {fuel : Nat} {v : Value} {x : DataW H × List MemPlace} (ht : P.underlying t = some (.slice e)) (he : P.underlying e = some (.slice q)) (hq : P.underlying q = some (.int .i64)) (ce : P.cellsOf e = 1) (cq : P.cellsOf q = 1)
    (h : DataW.trod enc P w base (fun _ => true) held fuel t [v] = some x) : ∃ wss, MatI w v wss ∧ wss.length ≤ 9223372036854775807 ∧ (∀ ws ∈ wss, ws.length ≤ 9223372036854775807) ∧ ∀ ws ∈ wss, ∀ x ∈ ws, -9223372036854775808 ≤ x ∧ x ≤ 9223372036854775807 := by
  rcases Go.Deep.open_int_rows ht he hq ce cq h with ⟨hcs, _⟩ | ⟨a, len, cap, A, L, C, Z, hcs, _, hl, hm, _, hr⟩
  · injection hcs with e1 _
    subst e1
    exact ⟨[], ⟨none, 0, rfl, Nat.le_refl _, fun k x hk => by simp at hk⟩, by simp, fun ws hw => (by cases hw), fun ws hw => (by cases hw)⟩
  · injection hcs with e1 _
    subst e1
    have hlen : ((List.range len).map fun r => (Z r).take (L r)).length = len := by simp
    have hml : (maxLen : Nat) = 9223372036854775807 := by unfold maxLen; rfl
    refine ⟨(List.range len).map fun r => (Z r).take (L r), ⟨some a, cap, by rw [hlen], by rw [hlen]; exact hl, fun k ws hk => ?_⟩, by rw [hlen]; omega, fun ws hw => ?_, fun ws hw x hx => ?_⟩
    · have hk2 : k < len := by have := (List.getElem?_eq_some_iff.1 hk).1; simpa using this
      obtain ⟨h1, h2, h3, h4, h5, h6, h7⟩ := hr k (by omega)
      obtain ⟨b, o, sp⟩ := a
      have hsp : sp = none := by
        have := (hr 0 (by omega)).1
        simpa [Addr.add] using World.cell?_spot this
      subst hsp
      have hadd : (⟨b, o, none⟩ : Addr).add k = ⟨b, o + k, none⟩ := by unfold Addr.add; split <;> simp_all
      rw [hadd] at h1
      refine ⟨b, o, rfl, _, h1, ?_⟩
      have hg : ws = (Z k).take (L k) := by
        rw [List.getElem?_map, List.getElem?_range hk2] at hk
        injection hk with hk
        exact hk.symm
      subst hg
      refine ⟨A k, C k, by simp [Nat.min_eq_left (show L k ≤ (Z k).length by omega)], by simp; omega, fun i y hi => ?_⟩
      have hiL : i < L k := by
        have := (List.getElem?_eq_some_iff.1 hi).1
        simp at this; omega
      rw [List.getElem?_take, if_pos hiL] at hi
      cases hA : A k with
      | none => have := h6 hA; omega
      | some a' =>
        obtain ⟨_, h8⟩ := h7 a' hA
        have h9 := h8 i (by omega)
        have h90 := h8 0 (by omega)
        obtain ⟨b', o', sp'⟩ := a'
        have hsp' : sp' = none := by simpa [Addr.add] using World.cell?_spot h90
        subst hsp'
        have hadd' : (⟨b', o', none⟩ : Addr).add i = ⟨b', o' + i, none⟩ := by unfold Addr.add; split <;> simp_all
        rw [hadd', List.getD_eq_getElem?_getD, hi] at h9
        exact ⟨b', o', rfl, h9⟩
    · obtain ⟨r, hr1, rfl⟩ := List.mem_map.1 hw
      obtain ⟨h1, h2, h3, h4, _⟩ := hr r (by have := List.mem_range.1 hr1; omega)
      simp; omega
    · obtain ⟨r, hr1, rfl⟩ := List.mem_map.1 hw
      obtain ⟨h1, h2, h3, h4, h5, _⟩ := hr r (by have := List.mem_range.1 hr1; omega)
      have h6 := h5 x (List.mem_of_mem_take hx)
      simp only [Lit.wf, Bool.and_eq_true, decide_eq_true_eq] at h6
      exact ⟨h6.1, h6.2⟩
end
end Go.Proofs.YtbkgpfalljgdcaaGreatDoor
