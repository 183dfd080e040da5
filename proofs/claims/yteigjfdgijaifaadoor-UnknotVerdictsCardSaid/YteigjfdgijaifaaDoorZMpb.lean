/- Maps from strings to bool that hold true alone: sets of texts. -/
import Derived.Test.YteigjfdgijaifaaDoorZMps
namespace Go.Proofs.YteigjfdgijaifaaDoor
open Go.RowKit
set_option linter.unusedVariables false

/-- the map in block b holds true at the texts of S, and nothing else -/
def MpB (w : World) (b : Nat) (S : List UInt8 → Prop) : Prop :=
  ∃ (es : Array MapEntry) (ck : Nat), w.heap[b]? = some (.map es ck) ∧ (∀ x ∈ es.toList, ∃ k, x.key = kyS k ∧ x.val = .bool true) ∧ ∀ k, S k ↔ ∃ x ∈ es.toList, x.key = kyS k
theorem MpB.keep {w w' : World} {b : Nat} {S : List UInt8 → Prop} (h : MpB w b S) (k : w'.heap[b]? = w.heap[b]?) : MpB w' b S := by
  obtain ⟨es, ck, h1, h2⟩ := h
  exact ⟨es, ck, k.trans h1, h2⟩
theorem MpB.lt {w : World} {b : Nat} {S : List UInt8 → Prop} (h : MpB w b S) : b < w.heap.size := by
  obtain ⟨es, ck, h1, _⟩ := h
  exact (Array.getElem?_eq_some_iff.1 h1).1
theorem MpB.below {w w' : World} {b : Nat} {S : List UInt8 → Prop} (h : MpB w b S) (hb : Below w.heap.size w w') : MpB w' b S := h.keep (hb.block b h.lt)
theorem MpB.new (w : World) : MpB (w.alloc (.map #[] 0)) w.heap.size (fun _ => False) := ⟨#[], 0, MapKept.heap_alloc w _ |>.1, fun x hx => by simp at hx, fun k => by simp⟩
theorem MpB.ne {w : World} {b g : Nat} {S : List UInt8 → Prop} {t : TypeId} {cs : List Value} (h : MpB w b S) (k : Arr w g t cs) : b ≠ g := by
  rintro rfl
  obtain ⟨es, ck, h1, _⟩ := h
  have h2 : w.heap[b]? = some _ := k
  rw [h1] at h2
  cases h2
theorem MpB.imp {w : World} {b : Nat} {S S' : List UInt8 → Prop} (h : MpB w b S) (hs : ∀ k, S k ↔ S' k) : MpB w b S' := by
  obtain ⟨es, ck, h1, h2, h3⟩ := h
  exact ⟨es, ck, h1, h2, fun k => (hs k).symm.trans (h3 k)⟩
section
variable {P : Program} {w : World} {b : Nat} {S : List UInt8 → Prop} {t kt et : TypeId} {k : List UInt8}
theorem mpb_yes (h : MpB w b S) (hm : P.underlying t = some (.map kt et)) (hd : P.underlying kt = some .string) (hk : S k) : Sem.run P (Instr.lookup t (.map (some b)) (kyS k) false) w = .ok (.bool true) w := by
  obtain ⟨es, ck, h1, h2, h3⟩ := h
  have a1 : ∀ x ∈ es.toList, MapKept.IsKey .string x.key := fun x hx => by obtain ⟨q, e, _⟩ := h2 x hx; rw [e]; exact trivial
  rcases MapKept.findNow_spec (d := .string) (k := kyS k) trivial es.toList 0 a1 with ⟨_, e0⟩ | ⟨j, e, e1, e2, e3⟩
  · obtain ⟨x, hx, e⟩ := (h3 k).1 hk
    exact absurd e (e0 x hx)
  · obtain ⟨_, _, e5⟩ := h2 e (List.mem_of_getElem? e2)
    rw [e5] at e1
    simp [Instr.lookup, run_underlying hm, MapKept.run_getObj_map h1, MapKept.run_checkKey hd (k := kyS k) trivial, MapKept.run_findKey hd e1, Result.andThen]
theorem mpb_no (h : MpB w b S) (hm : P.underlying t = some (.map kt et)) (hd : P.underlying kt = some .string) (hz : (zeroValue et).run P w = .ok (.bool false) w) (hk : ¬ S k) : Sem.run P (Instr.lookup t (.map (some b)) (kyS k) false) w = .ok (.bool false) w := by
  obtain ⟨es, ck, h1, h2, h3⟩ := h
  have a1 : ∀ x ∈ es.toList, MapKept.IsKey .string x.key := fun x hx => by obtain ⟨q, e, _⟩ := h2 x hx; rw [e]; exact trivial
  rcases MapKept.findNow_spec (d := .string) (k := kyS k) trivial es.toList 0 a1 with ⟨e1, _⟩ | ⟨j, e, e1, e2, e3⟩
  · simp [Instr.lookup, run_underlying hm, MapKept.run_getObj_map h1, MapKept.run_checkKey hd (k := kyS k) trivial, MapKept.run_findKey hd e1, hz, Result.andThen]
  · exact absurd ((h3 k).2 ⟨e, List.mem_of_getElem? e2, e3⟩) hk
theorem mpb_put (h : MpB w b S) (hm : P.underlying t = some (.map kt et)) (hd : P.underlying kt = some .string) (k : List UInt8) :
    ∃ w', Sem.run P (Instr.mapUpdate t (.map (some b)) (kyS k) (.bool true)) w = .ok () w' ∧ MpB w' b (fun x => S x ∨ x = k) ∧ (∀ r, r ≠ b → w'.heap[r]? = w.heap[r]?) ∧ w'.heap.size = w.heap.size ∧ (∀ B, B ≤ b → Below B w w') := by
  obtain ⟨es, ck, h1, h2, h3⟩ := h
  have a1 : ∀ x ∈ es.toList, MapKept.IsKey .string x.key := fun x hx => by obtain ⟨q, e, _⟩ := h2 x hx; rw [e]; exact trivial
  rcases MapKept.findNow_spec (d := .string) (k := kyS k) trivial es.toList 0 a1 with ⟨e1, _⟩ | ⟨j, e, e1, e2, e3⟩
  · refine ⟨{ w with heap := w.heap.setIfInBounds b (.map (es.push { key := kyS k, val := .bool true, born := ck }) (ck + 1)) }, ?_, ⟨_, _, (MapKept.heap_set h1).1, ?_, ?_⟩, fun r hr => (MapKept.heap_set h1).2 r hr, by simp, fun B hB => ⟨rfl, rfl, rfl, by simp, fun r hr => (MapKept.heap_set h1).2 r (by omega)⟩⟩
    · simp [Instr.mapUpdate, run_underlying hm, MapKept.run_getObj_map h1, MapKept.run_checkKey hd (k := kyS k) trivial, MapKept.run_findKey hd e1, MapKept.run_setObj_map _ h1, Result.andThen]
    · intro x hx
      rw [Array.toList_push] at hx
      rcases List.mem_append.1 hx with q | q
      · exact h2 x q
      · rw [List.mem_singleton.1 q]; exact ⟨k, rfl, rfl⟩
    · intro q
      rw [Array.toList_push]
      constructor
      · rintro (hq | rfl)
        · obtain ⟨x, hx, e⟩ := (h3 q).1 hq
          exact ⟨x, List.mem_append_left _ hx, e⟩
        · exact ⟨_, List.mem_append_right _ (List.mem_singleton.2 rfl), rfl⟩
      · rintro ⟨x, hx, e⟩
        rcases List.mem_append.1 hx with p | p
        · exact .inl ((h3 q).2 ⟨x, p, e⟩)
        · rw [List.mem_singleton.1 p] at e
          exact .inr (kyS_inj e).symm
  · have hj : es[j]? = some e := by simpa using e2
    obtain ⟨_, _, e5⟩ := h2 e (List.mem_of_getElem? e2)
    have hmod : (es.modify j fun e => { e with key := kyS k, val := .bool true }) = es := by
      refine Array.ext_getElem? fun i => ?_
      rw [Array.getElem?_modify]
      by_cases q : j = i
      · subst q
        rw [if_pos rfl, hj]
        obtain ⟨a, b2, c⟩ := e
        simp only at e3 e5
        subst e3 e5
        rfl
      · rw [if_neg q]
    have hst := MapKept.run_keyThatStays (P := P) (w := w) (d := .string) (k := kyS k) trivial
    refine ⟨{ w with heap := w.heap.setIfInBounds b (.map es ck) }, ?_, ⟨_, _, (MapKept.heap_set h1).1, h2, fun q => ⟨?_, fun hq => .inl ((h3 q).2 hq)⟩⟩, fun r hr => (MapKept.heap_set h1).2 r hr, by simp, fun B hB => ⟨rfl, rfl, rfl, by simp, fun r hr => (MapKept.heap_set h1).2 r (by omega)⟩⟩
    · simp [Instr.mapUpdate, run_underlying hm, MapKept.run_getObj_map h1, MapKept.run_checkKey hd (k := kyS k) trivial, MapKept.run_findKey hd e1, hj, e3, hst, MapKept.run_setObj_map _ h1, Result.andThen, hmod]
    · rintro (hq | rfl)
      · exact (h3 q).1 hq
      · exact ⟨e, List.mem_of_getElem? e2, e3⟩
end
end Go.Proofs.YteigjfdgijaifaaDoor
