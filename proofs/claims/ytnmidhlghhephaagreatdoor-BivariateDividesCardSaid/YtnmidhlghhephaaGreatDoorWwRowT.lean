/- Lists of terms that came in. -/
import Derived.Test.YtnmidhlghhephaaGreatDoorWwRowF
import Derived.Test.YtnmidhlghhephaaGreatDoorWwBfs
namespace Go.Proofs.YtnmidhlghhephaaGreatDoor
open Go.ChangeShapes Go.WideShapes Go.ChangeAt Go.RowKit Go.Joins
set_option linter.unusedVariables false
section
variable {H : Type} {enc : TypeId × Value → H} {P : Program} {w : World} {base : Nat} {held : Bool} {spare : Nat → Bool}
theorem addr_add_add (a : Addr) (m j : Nat) : a.add (m + j) = (a.add m).add j := by
  unfold Addr.add
  by_cases hm : m = 0 <;> by_cases hj : j = 0 <;> simp [hm, hj, Nat.add_assoc]
theorem addr_add_none (b o j : Nat) : (⟨b, o, none⟩ : Addr).add j = ⟨b, o + j, none⟩ := by
  unfold Addr.add
  by_cases hj : j = 0 <;> simp [hj]
theorem sla_of_cells {A : Option Addr} {n c : Nat} {w : World} (a : Addr) (hA : A = some a) (hc : n ≤ c) (f : Nat → T2)
    (h : ∀ i, i < n → ∀ j, j < 3 → w.cell? (a.add (i * 3 + j)) = (tB (f i))[j]?) : SlA tB w (.slice A n c) ((List.range n).map f) := by
  subst hA
  have hlen : ((List.range n).map f).length = n := by simp
  refine ⟨some a, c, by rw [hlen], by rw [hlen]; exact hc, fun j q hj => ?_⟩
  have hl3 : ((List.range n).map f).flatMap tB = (List.range n).flatMap fun i => tB (f i) := by rw [List.flatMap_map]
  have htl : ∀ l : List T2, (l.flatMap tB).length = l.length * 3 := by
    intro l
    induction l with
    | nil => rfl
    | cons x l ih => rw [List.flatMap_cons, List.length_append, ih]; simp [tB]; omega
  have hj1 : j < n * 3 := by
    have := (List.getElem?_eq_some_iff.1 hj).1
    rw [htl, hlen] at this; exact this
  have hk : j / 3 < ((List.range n).map f).length := by rw [hlen]; omega
  have hm : j % 3 < 3 := Nat.mod_lt _ (by omega)
  have hjj : j = j / 3 * 3 + j % 3 := by omega
  rw [hjj, tBflat_get _ _ _ hk hm] at hj
  have h1 := h (j / 3) (by omega) (j % 3) hm
  have hfe : ((List.range n).map f)[j / 3] = f (j / 3) := by simp
  rw [hfe] at hj
  rw [hj, ← hjj] at h1
  obtain ⟨b, o, sp⟩ := a
  have h0 : w.cell? ((⟨b, o, sp⟩ : Addr).add (0 * 3 + 0)) = some (.int .i64 (f 0).1.1) := h 0 (by omega) 0 (by omega)
  have hsp : sp = none := by simpa [Addr.add] using World.cell?_spot h0
  subst hsp
  rw [addr_add_none] at h1
  exact ⟨b, o, rfl, h1⟩
/-- a slice of terms that came in reads as a list -/
theorem tms_of_trod {t e i : TypeId} {f0 f1 f2 : Field} {fuel : Nat} {v : Value} {x : DataW H × List MemPlace} (ht : P.underlying t = some (.slice e)) (he : P.underlying e = some (.struct #[f0, f1, f2])) (hi : P.underlying i = some (.int .i64))
    (g0 : f0.type = i ∧ f0.offset = 0) (g1 : f1.type = i ∧ f1.offset = 1) (g2 : f2.type = i ∧ f2.offset = 2) (ce : P.cellsOf e = 3) (ci : P.cellsOf i = 1)
    (h : DataW.trod enc P w base spare held fuel t [v] = some x) : ∃ l : List T2, SlA tB w v l ∧ l.length ≤ maxLen ∧ I64T l := by
  rcases DataW.trod_slice ht h with ⟨hcs, _⟩ | ⟨a, len, cap, elems, rest, n, _, hcs, _, _, hl, hm, hlen, hel, _, _⟩
  · injection hcs with e1 _
    subst e1
    exact ⟨[], ⟨none, 0, rfl, Nat.le_refl _, fun j q hj => by simp at hj⟩, by simp, fun t ht => by cases ht⟩
  · injection hcs with e1 _
    subst e1
    have each : ∀ k, k < len → ∃ t : T2, (∀ j, j < 3 → w.cell? (a.add (k * 3 + j)) = (tB t)[j]?) ∧ ((-9223372036854775808 ≤ t.2 ∧ t.2 ≤ 9223372036854775807) ∧ (-9223372036854775808 ≤ t.1.1 ∧ t.1.1 ≤ 9223372036854775807) ∧ (-9223372036854775808 ≤ t.1.2 ∧ t.1.2 ≤ 9223372036854775807)) := by
      intro k hk
      have h1 := hel k hk
      rw [List.getElem?_eq_getElem (by omega), ce, Option.bind_eq_some_iff] at h1
      obtain ⟨cs, hcs, hy⟩ := h1
      obtain ⟨_, hcl, hcc⟩ := World.cells?_some hcs
      obtain ⟨y0, y1, y2, m, _, _, h0, h1, h2⟩ := Go.Deep.trod_struct3 he hy
      rw [g0.1, g0.2, ci] at h0
      rw [g1.1, g1.2, ci] at h1
      rw [g2.1, g2.2, ci] at h2
      match cs, hcl with
      | [c0, c1, c2], _ =>
        obtain ⟨n0, e0, _, w0⟩ := DataW.trod_int hi h0
        obtain ⟨n1, e1, _, w1⟩ := DataW.trod_int hi h1
        obtain ⟨n2, e2, _, w2⟩ := DataW.trod_int hi h2
        simp at e0 e1 e2
        subst e0 e1 e2
        refine ⟨((n0, n1), n2), fun j hj => ?_, ?_⟩
        · have := hcc j hj
          rw [addr_add_add]
          exact this
        · exact ⟨bounds_i64 w2, bounds_i64 w0, bounds_i64 w1⟩
    have hex : ∃ f : Nat → T2, ∀ k, k < len → (∀ j, j < 3 → w.cell? (a.add (k * 3 + j)) = (tB (f k))[j]?) ∧ ((-9223372036854775808 ≤ (f k).2 ∧ (f k).2 ≤ 9223372036854775807) ∧ (-9223372036854775808 ≤ (f k).1.1 ∧ (f k).1.1 ≤ 9223372036854775807) ∧ (-9223372036854775808 ≤ (f k).1.2 ∧ (f k).1.2 ≤ 9223372036854775807)) := by
      refine ⟨fun k => if h : k < len then (each k h).choose else ((0, 0), 0), fun k hk => ?_⟩
      simp only [dif_pos hk]
      exact (each k hk).choose_spec
    obtain ⟨f, hf⟩ := hex
    refine ⟨(List.range len).map f, sla_of_cells a rfl hl f (fun i hi => (hf i hi).1), by simp; omega, fun t ht => ?_⟩
    obtain ⟨k, hk, rfl⟩ := List.mem_map.1 ht
    exact (hf k (List.mem_range.1 hk)).2
end
end Go.Proofs.YtnmidhlghhephaaGreatDoor
