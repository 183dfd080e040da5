/- package unknot: a region that draws its order and makes an entry in each of two maps. -/
import Derived.Test.YteliflcbegcdlaaGreatDoorZSst
namespace Go.Proofs.YteliflcbegcdlaaGreatDoor
open Go.RowKit Go.Shelf
set_option linter.unusedVariables false
/-- a1, f1: the entry of the first map, its store; a2, f2: of the second -/
structure M2I (B : Nat) (w0 : World) (ev : Nat → Option Value) (m1 m2 a1 f1 a2 f2 : Nat) (L1 L2 : List (List UInt8 × Value)) (k : List UInt8) (v1 v2 : Value) (c1 c2 : Nat) (D : Nat → Bool) (x : Nat → Value) (w : World) : Prop where
  kn : ∀ i v, ev i = some v → D i = true → x i = v
  far : ∀ b, b ≠ m1 → b ≠ m2 → w.heap[b]? = w0.heap[b]?
  siz : w.heap.size = w0.heap.size
  bel : Below B w0 w
  s1 : D a1 = false → D f1 = false → MpS w m1 L1 c1
  p1 : D a1 = true → D f1 = false → MpP w m1 L1 k c1
  e1 : D f1 = true → MpS w m1 (L1 ++ [(k, v1)]) (c1 + 1)
  s2 : D a2 = false → D f2 = false → MpS w m2 L2 c2
  p2 : D a2 = true → D f2 = false → MpP w m2 L2 k c2
  e2 : D f2 = true → MpS w m2 (L2 ++ [(k, v2)]) (c2 + 1)
section
variable {B : Nat} {w0 w w' : World} {ev : Nat → Option Value} {m1 m2 a1 f1 a2 f2 : Nat} {L1 L2 : List (List UInt8 × Value)} {k : List UInt8} {v1 v2 : Value} {c1 c2 : Nat} {D : Nat → Bool} {x : Nat → Value}
theorem M2I.start (h1 : MpS w0 m1 L1 c1) (h2 : MpS w0 m2 L2 c2) : M2I B w0 ev m1 m2 a1 f1 a2 f2 L1 L2 k v1 v2 c1 c2 (fun _ => false) x w0.drew :=
  ⟨fun i v _ h => Bool.noConfusion h, fun _ _ _ => rfl, rfl, (Below.refl _ _).drew, fun _ _ => h1.keep rfl, fun h => Bool.noConfusion h, fun h => Bool.noConfusion h, fun _ _ => h2.keep rfl, fun h => Bool.noConfusion h, fun h => Bool.noConfusion h⟩
theorem M2I.kn' (h : M2I B w0 ev m1 m2 a1 f1 a2 f2 L1 L2 k v1 v2 c1 c2 D x w) {i : Nat} {v : Value} (hv : ∀ u, ev i = some u → v = u) : ∀ j u, ev j = some u → upd D i true j = true → upd x i v j = u := by
  intro j u hu hd
  by_cases e : j = i
  · subst e; rw [upd_same]; exact hv u hu
  · rw [upd_ne _ _ e] at hd ⊢; exact h.kn j u hu hd
theorem M2I.val (h : M2I B w0 ev m1 m2 a1 f1 a2 f2 L1 L2 k v1 v2 c1 c2 D x w) {i : Nat} {v : Value} (hv : ev i = some v) (n1 : a1 ≠ i) (n2 : f1 ≠ i) (n3 : a2 ≠ i) (n4 : f2 ≠ i) : M2I B w0 ev m1 m2 a1 f1 a2 f2 L1 L2 k v1 v2 c1 c2 (upd D i true) (upd x i v) w := by
  refine ⟨h.kn' fun u hu => ?_, h.far, h.siz, h.bel, ?_, ?_, ?_, ?_, ?_, ?_⟩
  · rw [hv] at hu; injection hu
  · rw [upd_ne _ _ n1, upd_ne _ _ n2]; exact h.s1
  · rw [upd_ne _ _ n1, upd_ne _ _ n2]; exact h.p1
  · rw [upd_ne _ _ n2]; exact h.e1
  · rw [upd_ne _ _ n3, upd_ne _ _ n4]; exact h.s2
  · rw [upd_ne _ _ n3, upd_ne _ _ n4]; exact h.p2
  · rw [upd_ne _ _ n4]; exact h.e2
/-- a step on the first map -/
theorem M2I.one (h : M2I B w0 ev m1 m2 a1 f1 a2 f2 L1 L2 k v1 v2 c1 c2 D x w) {i : Nat} {v : Value} (hv : ∀ u, ev i = some u → v = u) (n3 : a2 ≠ i) (n4 : f2 ≠ i) (hm : m1 ≠ m2) (hf : ∀ r, r ≠ m1 → w'.heap[r]? = w.heap[r]?) (hz : w'.heap.size = w.heap.size) (hb : Below B w w')
    (q1 : upd D i true a1 = false → upd D i true f1 = false → MpS w' m1 L1 c1) (q2 : upd D i true a1 = true → upd D i true f1 = false → MpP w' m1 L1 k c1) (q3 : upd D i true f1 = true → MpS w' m1 (L1 ++ [(k, v1)]) (c1 + 1)) :
    M2I B w0 ev m1 m2 a1 f1 a2 f2 L1 L2 k v1 v2 c1 c2 (upd D i true) (upd x i v) w' := by
  refine ⟨h.kn' hv, fun b h1 h2 => (hf b h1).trans (h.far b h1 h2), hz.trans h.siz, h.bel.trans hb, q1, q2, q3, ?_, ?_, ?_⟩
  · rw [upd_ne _ _ n3, upd_ne _ _ n4]; exact fun a b => (h.s2 a b).keep (hf _ (Ne.symm hm))
  · rw [upd_ne _ _ n3, upd_ne _ _ n4]; exact fun a b => (h.p2 a b).keep (hf _ (Ne.symm hm))
  · rw [upd_ne _ _ n4]; exact fun a => (h.e2 a).keep (hf _ (Ne.symm hm))
theorem M2I.two (h : M2I B w0 ev m1 m2 a1 f1 a2 f2 L1 L2 k v1 v2 c1 c2 D x w) {i : Nat} {v : Value} (hv : ∀ u, ev i = some u → v = u) (n3 : a1 ≠ i) (n4 : f1 ≠ i) (hm : m1 ≠ m2) (hf : ∀ r, r ≠ m2 → w'.heap[r]? = w.heap[r]?) (hz : w'.heap.size = w.heap.size) (hb : Below B w w')
    (q1 : upd D i true a2 = false → upd D i true f2 = false → MpS w' m2 L2 c2) (q2 : upd D i true a2 = true → upd D i true f2 = false → MpP w' m2 L2 k c2) (q3 : upd D i true f2 = true → MpS w' m2 (L2 ++ [(k, v2)]) (c2 + 1)) :
    M2I B w0 ev m1 m2 a1 f1 a2 f2 L1 L2 k v1 v2 c1 c2 (upd D i true) (upd x i v) w' := by
  refine ⟨h.kn' hv, fun b h1 h2 => (hf b h2).trans (h.far b h1 h2), hz.trans h.siz, h.bel.trans hb, ?_, ?_, ?_, q1, q2, q3⟩
  · rw [upd_ne _ _ n3, upd_ne _ _ n4]; exact fun a b => (h.s1 a b).keep (hf _ hm)
  · rw [upd_ne _ _ n3, upd_ne _ _ n4]; exact fun a b => (h.p1 a b).keep (hf _ hm)
  · rw [upd_ne _ _ n4]; exact fun a => (h.e1 a).keep (hf _ hm)
end
theorem zero_mvs (w : World) : (zeroValue 39).run Tryz.prog w = .ok (.slice none 0 0) w := by
  obtain ⟨i, hi, hz⟩ : ∃ i, Tryz.prog.info? 39 = some i ∧ i.zero = some (.slice none 0 0) := by
    have h : (Tryz.prog.info? 39).map (fun i => i.zero) = some (some (.slice none 0 0)) := by kernel_rfl
    cases e : Tryz.prog.info? 39 with
    | none => rw [e] at h; cases h
    | some i => rw [e] at h; injection h with h; exact ⟨i, rfl, h⟩
  simp [zeroValue, typeInfo, hi, hz]
theorem zero_str (w : World) : (zeroValue 9).run Tryz.prog w = .ok (.string ⟨#[]⟩) w := by
  obtain ⟨i, hi, hz⟩ : ∃ i, Tryz.prog.info? 9 = some i ∧ i.zero = some (.string ⟨#[]⟩) := by
    have h : (Tryz.prog.info? 9).map (fun i => i.zero) = some (some (.string ⟨#[]⟩)) := by kernel_rfl
    cases e : Tryz.prog.info? 9 with
    | none => rw [e] at h; cases h
    | some i => rw [e] at h; injection h with h; exact ⟨i, rfl, h⟩
  simp [zeroValue, typeInfo, hi, hz]
end Go.Proofs.YteliflcbegcdlaaGreatDoor
