/- gridmove.commutes: whether two columns can be exchanged. -/
/- The reference's swappable. -/
import Derived.Test.YteliflcbegcdlaaGreatDoorProg
import Derived.Test.YteliflcbegcdlaaGreatDoorWwBase
import Derived.KernelRfl
import Derived.Outline
import Derived.Deep.DeepCutAuto
import Derived.BigGuardPart
namespace Go.Proofs.YteliflcbegcdlaaGreatDoor
set_option linter.unusedVariables false
open Go.RowKit
def commIv (l h l2 h2 : Int) : Bool :=
  if l = l2 ∨ l = h2 ∨ h = l2 ∨ h = h2 then false
  else decide (h < l2 ∨ h2 < l ∨ (l < l2 ∧ h2 < h) ∨ (l2 < l ∧ h < h2))
def minG (x o : Int) : Int := if o < x then o else x
def maxG (x o : Int) : Int := if x < o then o else x
def commB (x o x2 o2 : Int) : Bool := commIv (minG x o) (maxG x o) (minG x2 o2) (maxG x2 o2)
set_option maxHeartbeats 1000000 in
theorem commutes_any (vx vo : Value) (X O : List Int) (a : Nat) (w : World) (hX : Ints w vx X) (hO : Ints w vo O) (hl : X.length ≤ 1000) (ha : a + 1 < X.length) (hb : a + 1 < O.length) :
    Calls Tryz.prog 92 #[.agg #[vx, vo], .int .i64 a] w fun e w' => e = .returned (.bool (commB X[a] O[a] X[a+1] O[a+1])) ∧ Below w.heap.size w w' := by
  have ha' : a < X.length := by omega
  have hb' : a < O.length := by omega
  have hX0 := hX
  have hO0 := hO
  obtain ⟨A, c, rfl, hc, hh⟩ := hX
  obtain ⟨A', c', rfl, hc', hh'⟩ := hO
  clear hh hh'
  obtain ⟨b1, o1, rfl, hlt, c1⟩ := hX0.at_ ha'
  obtain ⟨b2, o2, rfl, hlt', c2⟩ := hO0.at_ hb'
  obtain ⟨b1', o1', e1, _, c3⟩ := hX0.at_ ha
  obtain ⟨b2', o2', e2, _, c4⟩ := hO0.at_ hb
  injection e1 with e1
  injection e1 with e1 e1'
  injection e2 with e2
  injection e2 with e2 e2'
  subst e1 e1' e2 e2'
  clear hX0 hO0
  generalize hR : commB X[a] O[a] X[a+1] O[a+1] = R
  unfold commB minG maxG at hR
  have HR := Lib.hid hR
  clear hR
  generalize X[a] = x at *
  generalize O[a] = o at *
  generalize X[a+1] = x2 at *
  generalize O[a+1] = o2' at *
  go_enter Tryz.func92, Tryz.ntmps92
  go_upto_region 3 with (go_quiet (fail))
  generalize (if o < x then o else x) = lo at *
  generalize (if x < o then o else x) = hi at *
  generalize (if o2' < x2 then o2' else x2) = lo2 at *
  generalize (if x2 < o2' then o2' else x2) = hi2 at *
  clear c1 c2 c3 c4
  by_cases t0 : lo = lo2
  · have d0 : (lo == lo2) = true := by simpa using t0
    have hfin := Lib.hid (show R = false by rw [← HR.out]; simp only [commIv]; rw [if_pos (by omega)])
    clear t0
    go_wp2
    go_ret
    exact ⟨by rw [hfin.out]; rfl, bdrewN ((Below.refl _ _).alloc (Nat.le_refl _) _) _⟩
  have d0 : (lo == lo2) = false := by simpa using t0
  by_cases t1 : lo = hi2
  · have d1 : (lo == hi2) = true := by simpa using t1
    have hfin := Lib.hid (show R = false by rw [← HR.out]; simp only [commIv]; rw [if_pos (by omega)])
    clear t1
    go_wp2
    go_ret
    exact ⟨by rw [hfin.out]; rfl, bdrewN ((Below.refl _ _).alloc (Nat.le_refl _) _) _⟩
  have d1 : (lo == hi2) = false := by simpa using t1
  by_cases t2 : hi = lo2
  · have d2 : (hi == lo2) = true := by simpa using t2
    have hfin := Lib.hid (show R = false by rw [← HR.out]; simp only [commIv]; rw [if_pos (by omega)])
    clear t2
    go_wp2
    go_ret
    exact ⟨by rw [hfin.out]; rfl, bdrewN ((Below.refl _ _).alloc (Nat.le_refl _) _) _⟩
  have d2 : (hi == lo2) = false := by simpa using t2
  by_cases t3 : hi = hi2
  · have d3 : (hi == hi2) = true := by simpa using t3
    have hfin := Lib.hid (show R = false by rw [← HR.out]; simp only [commIv]; rw [if_pos (by omega)])
    clear t3
    go_wp2
    go_ret
    exact ⟨by rw [hfin.out]; rfl, bdrewN ((Below.refl _ _).alloc (Nat.le_refl _) _) _⟩
  have d3 : (hi == hi2) = false := by simpa using t3
  by_cases t5 : hi < lo2
  · have hfin := Lib.hid (show R = true by rw [← HR.out]; simp only [commIv]; rw [if_neg (by omega)]; simp; omega)
    go_wp2
    go_ret
    exact ⟨by rw [hfin.out]; rfl, bdrewN ((Below.refl _ _).alloc (Nat.le_refl _) _) _⟩
  by_cases t6 : hi2 < lo
  · have hfin := Lib.hid (show R = true by rw [← HR.out]; simp only [commIv]; rw [if_neg (by omega)]; simp; omega)
    go_wp2
    go_ret
    exact ⟨by rw [hfin.out]; rfl, bdrewN ((Below.refl _ _).alloc (Nat.le_refl _) _) _⟩
  by_cases t7 : lo < lo2
  · by_cases t8 : hi2 < hi
    · have hfin := Lib.hid (show R = true by rw [← HR.out]; simp only [commIv]; rw [if_neg (by omega)]; simp; omega)
      go_wp2
      go_ret
      exact ⟨by rw [hfin.out]; rfl, bdrewN ((Below.refl _ _).alloc (Nat.le_refl _) _) _⟩
    · have hfin := Lib.hid (show R = false by rw [← HR.out]; simp only [commIv]; rw [if_neg (by omega)]; simp; omega)
      go_wp2
      go_ret
      exact ⟨by rw [hfin.out]; rfl, bdrewN ((Below.refl _ _).alloc (Nat.le_refl _) _) _⟩
  · have t10 : lo2 < lo := by omega
    by_cases t9 : hi < hi2
    · have hfin := Lib.hid (show R = true by rw [← HR.out]; simp only [commIv]; rw [if_neg (by omega)]; simp; omega)
      go_wp2
      go_ret
      exact ⟨by rw [hfin.out]; rfl, bdrewN ((Below.refl _ _).alloc (Nat.le_refl _) _) _⟩
    · have hfin := Lib.hid (show R = false by rw [← HR.out]; simp only [commIv]; rw [if_neg (by omega)]; simp; omega)
      go_wp2
      go_ret
      exact ⟨by rw [hfin.out]; rfl, bdrewN ((Below.refl _ _).alloc (Nat.le_refl _) _) _⟩
end Go.Proofs.YteliflcbegcdlaaGreatDoor

namespace Go.Proofs.YteliflcbegcdlaaGreatDoor
set_option linter.unusedVariables false
open Go.RowKit
set_option maxHeartbeats 1000000 in
theorem swappable_any (vx vo : Value) (X O : List Int) (a : Nat) (w : World) (hX : Ints w vx X) (hO : Ints w vo O) (hl : X.length ≤ 1000) (ha : a + 1 < X.length) (hb : a + 1 < O.length) :
    Calls Tryz.prog 83 #[.agg #[vx, vo], .int .i64 a] w fun e w' => e = .returned (.bool (commB X[a] O[a] X[a+1] O[a+1])) ∧ Below w.heap.size w w' := by
  have ha' : a < X.length := by omega
  have hb' : a < O.length := by omega
  have hX0 := hX
  have hO0 := hO
  obtain ⟨A, c, rfl, hc, hh⟩ := hX
  obtain ⟨A', c', rfl, hc', hh'⟩ := hO
  clear hh hh'
  obtain ⟨b1, o1, rfl, hlt, c1⟩ := hX0.at_ ha'
  obtain ⟨b2, o2, rfl, hlt', c2⟩ := hO0.at_ hb'
  obtain ⟨b1', o1', e1, _, c3⟩ := hX0.at_ ha
  obtain ⟨b2', o2', e2, _, c4⟩ := hO0.at_ hb
  injection e1 with e1
  injection e1 with e1 e1'
  injection e2 with e2
  injection e2 with e2 e2'
  subst e1 e1' e2 e2'
  clear hX0 hO0
  generalize hR : commB X[a] O[a] X[a+1] O[a+1] = R
  unfold commB minG maxG at hR
  have HR := Lib.hid hR
  clear hR
  generalize X[a] = x at *
  generalize O[a] = o at *
  generalize X[a+1] = x2 at *
  generalize O[a+1] = o2' at *
  go_enter Tryz.func83, Tryz.ntmps83
  go_upto_region 3 with (go_quiet (fail))
  generalize (if o < x then o else x) = lo at *
  generalize (if x < o then o else x) = hi at *
  generalize (if o2' < x2 then o2' else x2) = lo2 at *
  generalize (if x2 < o2' then o2' else x2) = hi2 at *
  clear c1 c2 c3 c4
  by_cases t0 : lo = lo2
  · have d0 : (lo == lo2) = true := by simpa using t0
    have hfin := Lib.hid (show R = false by rw [← HR.out]; simp only [commIv]; rw [if_pos (by omega)])
    clear t0
    go_wp2
    all_goals
      go_ret
      exact ⟨by rw [hfin.out]; rfl, bdrewN ((Below.refl _ _).alloc (Nat.le_refl _) _) _⟩
  have d0 : (lo == lo2) = false := by simpa using t0
  by_cases t1 : lo = hi2
  · have d1 : (lo == hi2) = true := by simpa using t1
    have hfin := Lib.hid (show R = false by rw [← HR.out]; simp only [commIv]; rw [if_pos (by omega)])
    clear t1
    go_wp2
    all_goals
      go_ret
      exact ⟨by rw [hfin.out]; rfl, bdrewN ((Below.refl _ _).alloc (Nat.le_refl _) _) _⟩
  have d1 : (lo == hi2) = false := by simpa using t1
  by_cases t2 : hi = lo2
  · have d2 : (hi == lo2) = true := by simpa using t2
    have hfin := Lib.hid (show R = false by rw [← HR.out]; simp only [commIv]; rw [if_pos (by omega)])
    clear t2
    go_wp2
    all_goals
      go_ret
      exact ⟨by rw [hfin.out]; rfl, bdrewN ((Below.refl _ _).alloc (Nat.le_refl _) _) _⟩
  have d2 : (hi == lo2) = false := by simpa using t2
  by_cases t3 : hi = hi2
  · have d3 : (hi == hi2) = true := by simpa using t3
    have hfin := Lib.hid (show R = false by rw [← HR.out]; simp only [commIv]; rw [if_pos (by omega)])
    clear t3
    go_wp2
    all_goals
      go_ret
      exact ⟨by rw [hfin.out]; rfl, bdrewN ((Below.refl _ _).alloc (Nat.le_refl _) _) _⟩
  have d3 : (hi == hi2) = false := by simpa using t3
  by_cases t5 : hi < lo2
  · have hfin := Lib.hid (show R = true by rw [← HR.out]; simp only [commIv]; rw [if_neg (by omega)]; simp; omega)
    go_wp2
    all_goals
      go_ret
      exact ⟨by rw [hfin.out]; rfl, bdrewN ((Below.refl _ _).alloc (Nat.le_refl _) _) _⟩
  by_cases t6 : hi2 < lo
  · have hfin := Lib.hid (show R = true by rw [← HR.out]; simp only [commIv]; rw [if_neg (by omega)]; simp; omega)
    go_wp2
    all_goals
      go_ret
      exact ⟨by rw [hfin.out]; rfl, bdrewN ((Below.refl _ _).alloc (Nat.le_refl _) _) _⟩
  by_cases t7 : lo < lo2
  · have d11 : decide (lo2 < lo) = false := by simp; omega
    have d12 : ¬ lo2 < lo := by omega
    by_cases t8 : hi2 < hi
    · have hfin := Lib.hid (show R = true by rw [← HR.out]; simp only [commIv]; rw [if_neg (by omega)]; simp; omega)
      go_wp2
      all_goals
        go_ret
        exact ⟨by rw [hfin.out]; rfl, bdrewN ((Below.refl _ _).alloc (Nat.le_refl _) _) _⟩
    · have hfin := Lib.hid (show R = false by rw [← HR.out]; simp only [commIv]; rw [if_neg (by omega)]; simp; omega)
      go_wp2
      all_goals
        go_ret
        exact ⟨by rw [hfin.out]; rfl, bdrewN ((Below.refl _ _).alloc (Nat.le_refl _) _) _⟩
  · have t10 : lo2 < lo := by omega
    by_cases t9 : hi < hi2
    · have hfin := Lib.hid (show R = true by rw [← HR.out]; simp only [commIv]; rw [if_neg (by omega)]; simp; omega)
      go_wp2
      all_goals
        go_ret
        exact ⟨by rw [hfin.out]; rfl, bdrewN ((Below.refl _ _).alloc (Nat.le_refl _) _) _⟩
    · have hfin := Lib.hid (show R = false by rw [← HR.out]; simp only [commIv]; rw [if_neg (by omega)]; simp; omega)
      go_wp2
      all_goals
        go_ret
        exact ⟨by rw [hfin.out]; rfl, bdrewN ((Below.refl _ _).alloc (Nat.le_refl _) _) _⟩
end Go.Proofs.YteliflcbegcdlaaGreatDoor
