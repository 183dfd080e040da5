/- When a diagram is valid: plain. -/
import Derived.Test.YtcjaloddgilnpaaZFcs
import Derived.Test.YtcjaloddgilnpaaZArq
namespace Go.Proofs.Ytcjaloddgilnpaa
set_option linter.unusedVariables false
open Go.RowKit

def sgB (s : Int) : Bool := s == 1 || s == -1
/-- the tests at a half-edge -/
def mtB (S M : List Int) (h : Nat) : Bool :=
  decide (0 ≤ M[h]?.getD 0) && (decide (M[h]?.getD 0 < ((4 * S.length : Nat) : Int)) && (decide (M[h]?.getD 0 ≠ (h : Int)) && (decide (M[mt M h]?.getD 0 = (h : Int)) && (outB S h != outB S (mt M h)))))
def okB (S M : List Int) (L : Int) : Bool :=
  decide (S.length ≤ 64) && (decide (M.length = 4 * S.length) && (decide (0 ≤ L) && (decide (L ≤ 64) && (S.all sgB && (List.range M.length).all (mtB S M)))))
/-- how many crossings, and how many faces, bear the label c -/
def crN (l : List Nat) (c m : Nat) : Nat := (List.range m).countP fun b => gn l b == c
def fcN (l : List Nat) (c : Nat) (hs : List Nat) : Nat := hs.countP fun h => gn l (h / 4) == c
def spB (M : List Int) (l : List Nat) (c : Nat) : Bool := gn l c != c || fcN l c (hdU (phi M) M.length M.length) == crN l c l.length + 2
def sphR (M : List Int) (n : Nat) : Bool := (List.range n).all (spB M (labK M n n))
def valB (S M : List Int) (L : Int) : Bool := okB S M L && sphR M S.length

theorem crN_succ (l : List Nat) (c m : Nat) : crN l c (m + 1) = crN l c m + (if gn l m = c then 1 else 0) := by
  unfold crN; rw [List.range_succ, List.countP_append, List.countP_singleton]; simp
theorem crN_le (l : List Nat) (c m : Nat) : crN l c m ≤ m := by
  have := List.countP_le_length (p := fun b => gn l b == c) (l := List.range m); simpa [crN] using this
theorem fcN_succ (l : List Nat) (c : Nat) (hs : List Nat) (i : Nat) (hi : i < hs.length) : fcN l c (hs.take (i + 1)) = fcN l c (hs.take i) + (if gn l (hs[i] / 4) = c then 1 else 0) := by
  unfold fcN
  rw [List.take_add_one, List.getElem?_eq_getElem hi, List.countP_append, Option.toList_some, List.countP_singleton]; simp
theorem fcN_le (l : List Nat) (c : Nat) (hs : List Nat) (i : Nat) : fcN l c (hs.take i) ≤ i := by
  have := List.countP_le_length (p := fun h => gn l (h / 4) == c) (l := hs.take i)
  rw [List.length_take] at this
  unfold fcN; omega
theorem hdU_mem {f : Nat → Nat} {n k x : Nat} (h : x ∈ hdU f n k) : x < k := by
  unfold hdU at h; exact List.mem_range.1 (List.mem_filter.1 h).1
theorem sph_bad {M : List Int} {n c : Nat} (hc : c < n) (h : spB M (labK M n n) c = false) : sphR M n = false := by
  rw [Bool.eq_false_iff]
  intro e
  have := List.all_eq_true.1 e c (List.mem_range.2 hc)
  rw [h] at this; cases this
theorem sph_good {M : List Int} {n : Nat} (h : ∀ c, c < n → spB M (labK M n n) c = true) : sphR M n = true :=
  List.all_eq_true.2 fun c hc => h c (List.mem_range.1 hc)

structure Ok (S M : List Int) (L : Int) : Prop where
  n : S.length ≤ 64
  m : M.length = 4 * S.length
  l0 : 0 ≤ L
  l1 : L ≤ 64
  sg : ∀ i (h : i < S.length), S[i] = 1 ∨ S[i] = -1
  pos : ∀ h (hh : h < M.length), 0 ≤ M[h]
  lt : ∀ h, h < M.length → mt M h < M.length
  ne : ∀ h, h < M.length → mt M h ≠ h
  inv : ∀ h, h < M.length → mt M (mt M h) = h
  out : ∀ h, h < M.length → outB S h ≠ outB S (mt M h)
theorem getD_lt {M : List Int} {h : Nat} (hh : h < M.length) : M[h]?.getD 0 = M[h] := by rw [List.getElem?_eq_getElem hh]; rfl
theorem ok_of {S M : List Int} {L : Int} (h : okB S M L = true) : Ok S M L := by
  unfold okB at h
  simp only [Bool.and_eq_true, decide_eq_true_eq, List.all_eq_true, List.mem_range] at h
  obtain ⟨h1, h2, h3, h4, h5, h6⟩ := h
  have h7 : ∀ x, x < M.length → 0 ≤ M[x]?.getD 0 ∧ M[x]?.getD 0 < ((4 * S.length : Nat) : Int) ∧ M[x]?.getD 0 ≠ (x : Int) ∧ M[mt M x]?.getD 0 = (x : Int) ∧ outB S x ≠ outB S (mt M x) := by
    intro x hx
    have := h6 x hx
    unfold mtB at this
    simpa [Bool.and_eq_true] using this
  have hlt : ∀ x, x < M.length → mt M x < M.length := by
    intro x hx
    have := h7 x hx
    unfold mt
    omega
  refine ⟨h1, h2, h3, h4, ?_, ?_, hlt, ?_, ?_, ?_⟩
  · intro i hi
    have := h5 S[i] (List.getElem_mem hi)
    simpa [sgB] using this
  · intro x hx
    have := (h7 x hx).1
    rw [getD_lt hx] at this; exact this
  · intro x hx e
    have := h7 x hx
    unfold mt at e
    omega
  · intro x hx
    have h8 := (h7 x hx).2.2.2.1
    have : mt M (mt M x) = (M[mt M x]?.getD 0).toNat := rfl
    rw [this, h8]; omega
  · intro x hx; exact (h7 x hx).2.2.2.2
section
variable {S M : List Int} {L : Int} (k : Ok S M L)
include k
theorem Ok.rg : Rg M S.length := ⟨k.m, fun h hh => by have := k.lt h (by rw [k.m]; exact hh); rw [k.m] at this; exact this⟩
theorem Ok.rh : Rh M M.length := ⟨by rw [k.m]; omega, k.lt⟩
theorem Ok.perm : PermF M.length (phi M) := by
  have hl : ∀ h, h < M.length → phi M h < M.length := by
    intro h hh
    have h1 := k.lt h hh
    have h2 := k.m
    unfold phi turnN
    omega
  have hj : ∀ a b, a < M.length → b < M.length → phi M a = phi M b → a = b := by
    intro a b ha hb e
    have e1 : mt M a = mt M b := by
      unfold phi turnN at e
      omega
    have h3 := k.inv a ha
    have h4 := k.inv b hb
    rw [← h3, e1, h4]
  constructor <;> first | exact hl | exact hj
end
end Go.Proofs.Ytcjaloddgilnpaa
