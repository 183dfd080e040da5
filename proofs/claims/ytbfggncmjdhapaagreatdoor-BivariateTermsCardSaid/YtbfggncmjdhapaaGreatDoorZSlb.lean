/- unravellaw13.fine. -/
/- Slices of elements of some cells: a part of a slice reads as the part of the list. -/
import Derived.Test.YtbfggncmjdhapaaGreatDoorZBof
import Derived.Test.YtbfggncmjdhapaaGreatDoorZBsm
namespace Go.Proofs.YtbfggncmjdhapaaGreatDoor
open Go.RowKit
set_option linter.unusedVariables false

/-- terms that are fine -/
def fiT (t : T2) : Bool := decide ((-1073741824 ≤ t.2 ∧ t.2 ≤ 1073741824) ∧ (-2097152 ≤ t.1.1 ∧ t.1.1 ≤ 2097152) ∧ (-2097152 ≤ t.1.2 ∧ t.1.2 ≤ 2097152))
def fiL (l : List T2) : Bool := l.all fiT && decide (l.length ≤ 12)
set_option maxHeartbeats 4000000 in
set_option maxRecDepth 100000 in
theorem fineL_any (vl : Value) (l : List T2) (w : World) (hl : SlA tB w vl l) (h64 : l.length ≤ 9223372036854775807) :
    Calls Tryz.prog 24 #[vl] w fun e w' => e = .returned (.bool (fiL l)) ∧ Below w.heap.size w w' := by
  obtain ⟨V, hV⟩ : ∃ V, V = fiL l := ⟨_, rfl⟩
  rw [← hV]
  have HV := Lib.hid hV
  clear hV
  have HL := Lib.hid (fun W (hb : Below w.heap.size w W) => hl.below hb)
  obtain ⟨A, c, rfl, _⟩ := hl
  go_enter Tryz.func24, Tryz.ntmps24
  go_wp2_with fail
  go_loopg [7] l.length (fun gk s7 wr => ∃ (i : Nat), i ≤ l.length ∧ gk = l.length - i ∧ s7 = .int .i64 (i : Int) ∧ Below w.heap.size w wr ∧ Hid (∀ t ∈ l.take i, fiT t = true))
  case atStart => exact ⟨0, Nat.zero_le _, rfl, rfl, Below.refl _ _, Lib.hid (fun t h => by simp at h)⟩
  case round =>
    obtain ⟨i, hi, rfl, rfl, hbr, HT⟩ := hrel
    by_cases hlt : i < l.length
    · have z1 : (i : Int) < (l.length : Int) := by omega
      obtain ⟨b, o', rfl, _, hc0, hc1, hc2⟩ := (HL.out wr hbr).tat3 hlt
      have HNX := Lib.hid (show fiT l[i] = true → ∀ t ∈ l.take (i + 1), fiT t = true from fun h t ht => by
        rw [take_snocB hlt] at ht
        rcases List.mem_append.1 ht with ht | ht
        · exact HT.out t ht
        · rw [List.mem_singleton.1 ht]; exact h)
      have HBD := Lib.hid (show fiT l[i] = false → V = false from fun h => by
        rw [HV.out]
        unfold fiL
        rw [Bool.and_eq_false_iff]
        refine .inl ?_
        rw [List.all_eq_false]
        exact ⟨_, List.getElem_mem hlt, by rw [h]; simp⟩)
      have HSM := Lib.hid (show fiT l[i] = decide ((-1073741824 ≤ l[i].2 ∧ l[i].2 ≤ 1073741824) ∧ (-2097152 ≤ l[i].1.1 ∧ l[i].1.1 ≤ 2097152) ∧ (-2097152 ≤ l[i].1.2 ∧ l[i].1.2 ≤ 2097152)) from rfl)
      generalize fiT l[i] = sm at *
      generalize l[i].1.1 = ea at *
      generalize l[i].1.2 = ez at *
      generalize l[i].2 = cc at *
      have hbn := hbr.alloc hbr.size (.cells #[.int .i64 ea, .int .i64 ez, .int .i64 cc] 34)
      by_cases a1 : cc > 1073741824
      · have HE := Lib.hid (HBD.out (by rw [HSM.out]; exact decide_eq_false (by omega)))
        go_wp2_with fail
        go_ret
        exact ⟨by rw [HE.out]; rfl, hbn⟩
      have d1 : decide (1073741824 < cc) = false := decide_eq_false (by omega)
      by_cases a2 : cc < -1073741824
      · have HE := Lib.hid (HBD.out (by rw [HSM.out]; exact decide_eq_false (by omega)))
        go_wp2_with fail
        go_ret
        exact ⟨by rw [HE.out]; rfl, hbn⟩
      have d2 : decide (cc < -1073741824) = false := decide_eq_false (by omega)
      by_cases a3 : ea > 2097152
      · have HE := Lib.hid (HBD.out (by rw [HSM.out]; exact decide_eq_false (by omega)))
        go_wp2_with fail
        go_ret
        exact ⟨by rw [HE.out]; rfl, hbn⟩
      have d3 : decide (2097152 < ea) = false := decide_eq_false (by omega)
      by_cases a4 : ea < -2097152
      · have HE := Lib.hid (HBD.out (by rw [HSM.out]; exact decide_eq_false (by omega)))
        go_wp2_with fail
        go_ret
        exact ⟨by rw [HE.out]; rfl, hbn⟩
      have d4 : decide (ea < -2097152) = false := decide_eq_false (by omega)
      by_cases a5 : ez > 2097152
      · have HE := Lib.hid (HBD.out (by rw [HSM.out]; exact decide_eq_false (by omega)))
        go_wp2_with fail
        go_ret
        exact ⟨by rw [HE.out]; rfl, hbn⟩
      have d5 : decide (2097152 < ez) = false := decide_eq_false (by omega)
      by_cases a6 : ez < -2097152
      · have HE := Lib.hid (HBD.out (by rw [HSM.out]; exact decide_eq_false (by omega)))
        go_wp2_with fail
        go_ret
        exact ⟨by rw [HE.out]; rfl, hbn⟩
      have d6 : decide (ez < -2097152) = false := decide_eq_false (by omega)
      have HF := Lib.hid (HNX.out (by rw [HSM.out]; exact decide_eq_true (by omega)))
      clear HBD HNX HSM
      go_wp2_with fail
      go_roundg (l.length - (i + 1))
      case measure => omega
      case rel => exact ⟨i + 1, by omega, rfl, by go_num, hbn, HF⟩
    · have z1 : ¬ (i : Int) < (l.length : Int) := by omega
      have hkk : l.take i = l := List.take_of_length_le (by omega)
      rw [hkk] at HT
      have HE := Lib.hid (show V = decide (l.length ≤ 12) from by
        rw [HV.out]
        unfold fiL
        rw [List.all_eq_true.2 HT.out, Bool.true_and])
      by_cases h6 : l.length ≤ 12
      · have z2 : (l.length : Int) ≤ 12 := by omega
        go_wp2_with fail
        go_ret
        exact ⟨by rw [HE.out, decide_eq_true h6]; rfl, hbr⟩
      · have z2 : ¬ (l.length : Int) ≤ 12 := by omega
        go_wp2_with fail
        go_ret
        exact ⟨by rw [HE.out, decide_eq_false h6]; rfl, hbr⟩
end Go.Proofs.YtbfggncmjdhapaaGreatDoor

namespace Go.Proofs.YtbfggncmjdhapaaGreatDoor
open Go.RowKit
set_option linter.unusedVariables false

section
variable {α : Type} {enc : α → List Value} {sz : Nat} {w : World}
theorem flat_len (hl : ∀ x, (enc x).length = sz) (ys : List α) : (ys.flatMap enc).length = ys.length * sz := by
  induction ys with
  | nil => simp
  | cons x xs ih => rw [List.flatMap_cons, List.length_append, ih, hl, List.length_cons, Nat.succ_mul]; omega
theorem flat_get (hl : ∀ x, (enc x).length = sz) : ∀ (ys : List α) (k j : Nat) (h : k < ys.length), j < sz → (ys.flatMap enc)[k * sz + j]? = (enc ys[k])[j]? := by
  intro ys
  induction ys with
  | nil => intro k j h; simp at h
  | cons m l ih =>
    intro k j h hj
    rw [List.flatMap_cons]
    cases k with
    | zero => rw [List.getElem?_append_left (by rw [hl]; omega)]; simp
    | succ k =>
      rw [List.getElem?_append_right (by rw [hl, Nat.succ_mul]; omega)]
      have := ih k j (by simpa using h) hj
      rw [show (k + 1) * sz + j - (enc m).length = k * sz + j from by rw [hl, Nat.succ_mul]; omega, this]
      simp
theorem flat_drop (hl : ∀ x, (enc x).length = sz) : ∀ (k : Nat) (ys : List α), (ys.drop k).flatMap enc = (ys.flatMap enc).drop (k * sz)
  | 0, ys => by simp
  | k + 1, [] => by simp
  | k + 1, y :: ys => by
    have e1 : (enc y).drop ((k + 1) * sz) = [] := List.drop_eq_nil_of_le (by rw [hl, Nat.succ_mul]; omega)
    have e2 : (k + 1) * sz - sz = k * sz := by rw [Nat.succ_mul]; omega
    rw [List.drop_succ_cons, flat_drop hl k ys, List.flatMap_cons, List.drop_append, e1, hl, e2, List.nil_append]
theorem flat_take (hl : ∀ x, (enc x).length = sz) : ∀ (k : Nat) (ys : List α), (ys.take k).flatMap enc = (ys.flatMap enc).take (k * sz)
  | 0, ys => by simp
  | k + 1, [] => by simp
  | k + 1, y :: ys => by
    have e1 : (enc y).take ((k + 1) * sz) = enc y := List.take_of_length_le (by rw [hl, Nat.succ_mul]; omega)
    have e2 : (k + 1) * sz - sz = k * sz := by rw [Nat.succ_mul]; omega
    rw [List.take_succ_cons, List.flatMap_cons, List.flatMap_cons, flat_take hl k ys, List.take_append, e1, hl, e2]
/-- a part of a slice reads as the part of the list -/
theorem SlA.sub (hl : ∀ x, (enc x).length = sz) (hs : 0 < sz) {A : Option Addr} {n c lo hi : Nat} {ys : List α} (h : SlA enc w (.slice A n c) ys) (h1 : lo ≤ hi) (h2 : hi ≤ ys.length) (c' : Nat) (hc : hi - lo ≤ c') (A' : Option Addr) (hA : lo < hi → A' = A.map (·.add (lo * sz))) :
    SlA enc w (.slice A' (hi - lo) c') ((ys.take hi).drop lo) := by
  obtain ⟨A0, c0, hv, hcap, hx⟩ := h
  injection hv with e1 e2 e3
  subst e1
  have hlen : ((ys.take hi).drop lo).length = hi - lo := by simp; omega
  refine ⟨A', c', by rw [hlen], by omega, fun j q hq => ?_⟩
  have hj : j < ((ys.take hi).drop lo).length * sz := by
    have := (List.getElem?_eq_some_iff.1 hq).1
    rwa [flat_len hl] at this
  rw [hlen] at hj
  have hlt : lo < hi := by
    rcases Nat.lt_or_ge lo hi with q | q
    · exact q
    · rw [show hi - lo = 0 by omega, Nat.zero_mul] at hj; omega
  rw [flat_drop hl, List.getElem?_drop, flat_take hl, List.getElem?_take, if_pos (by
    have : lo * sz + (hi - lo) * sz = hi * sz := by rw [← Nat.add_mul]; congr 1; omega
    omega)] at hq
  obtain ⟨b, o, hA0, hcell⟩ := hx _ q hq
  subst hA0
  refine ⟨b, o + lo * sz, ?_, by rw [Nat.add_assoc]; exact hcell⟩
  rw [hA hlt]
  simp only [Option.map_some, Addr.add]
  split <;> simp_all
end
end Go.Proofs.YtbfggncmjdhapaaGreatDoor
