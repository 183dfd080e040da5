/- A slice of moves that came in reads as a list of moves. -/
import Derived.Test.YteigjfdgijaifaaDoorZRowC
import Derived.Test.YteigjfdgijaifaaDoorZTls
import Derived.Deep.Slices
namespace Go.Proofs.YteigjfdgijaifaaDoor
open Go.ChangeShapes Go.WideShapes Go.ChangeAt Go.RowKit Go.Joins Go.Deep
set_option linter.unusedVariables false

section
variable {H : Type} {enc : TypeId × Value → H} {w : World} {base : Nat} {spare : Nat → Bool} {held : Bool}
set_option maxRecDepth 100000 in
theorem moves_of_trod {fuel : Nat} {v : Value} {x : DataW H × List MemPlace} (h : DataW.trod enc Tryd.prog w base spare held fuel 22 [v] = some x) : ∃ ms, Moves w v ms := by
  have hC : Tryd.prog.cellsOf 37 = 4 := by kernel_rfl
  have hi : Tryd.prog.cellsOf 3 = 1 := by kernel_rfl
  have hbo : Tryd.prog.cellsOf 4 = 1 := by kernel_rfl
  rcases open_slice Tryd.underlying22 h with ⟨hcs, _⟩ | ⟨a, len, cap, m, n, D, Pl, hcs, _, hl, _, hm, _, hel⟩
  · injection hcs with e1 _
    subst e1
    exact ⟨[], none, 0, rfl, fun k hk => by simp at hk⟩
  · injection hcs with e1 _
    subst e1
    rw [hC] at hel
    have hlm : len ≤ m := by rw [hm]; split <;> omega
    have each : ∀ i, ∃ mv : Mv, i < len → ∀ j u, mv.cells[j]? = some u → w.cell? (a.add (i * 4 + j)) = some u := by
      intro i
      by_cases hi' : i < len
      · obtain ⟨cs', hc, ht⟩ := hel i (by omega)
        obtain ⟨y0, y1, y2, y3, n', _, hlen, h0, h1, h2, h3⟩ := trod_struct4 Tryd.underlying37 ht
        obtain ⟨_, hcl, hat⟩ := World.cells?_some hc
        rw [hC] at hlen
        match cs', hlen with
        | [u0, u1, u2, u3], _ =>
          simp only [hi, hbo, List.drop_zero, List.drop_succ_cons, List.take_succ_cons, List.take_zero] at h0 h1 h2 h3
          obtain ⟨k, g0, _, _⟩ := DataW.trod_int Tryd.underlying3 h0
          obtain ⟨r, g1, _⟩ := DataW.trod_bool Tryd.underlying4 h1
          obtain ⟨b, g2, _, _⟩ := DataW.trod_int Tryd.underlying3 h2
          obtain ⟨c, g3, _, _⟩ := DataW.trod_int Tryd.underlying3 h3
          simp only [List.cons.injEq, and_true] at g0 g1 g2 g3
          subst g0 g1 g2 g3
          refine ⟨⟨k, r, b, c⟩, fun _ j u hj => ?_⟩
          have hj4 : j < 4 := (List.getElem?_eq_some_iff.1 hj).1
          have := hat j hj4
          rw [add_add] at this
          rw [this]
          exact hj
      · exact ⟨⟨0, false, 0, 0⟩, fun h => absurd h hi'⟩
    obtain ⟨f, hf⟩ := Classical.axiomOfChoice each
    refine ⟨(List.range len).map f, some a, cap, by simp, fun k hk => ?_⟩
    have hk' : k < len := by simpa using hk
    have h00 := hf k hk' 0 _ rfl
    obtain ⟨b, o, sp⟩ := a
    have hsp : sp = none := by
      have h0 := hf 0 (by omega) 0 _ rfl
      simpa [Addr.add] using World.cell?_spot h0
    subst hsp
    refine ⟨b, o, rfl, fun j u hu => ?_⟩
    have hu' : (f k).cells[j]? = some u := by simpa using hu
    have h1 := hf k hk' j u hu'
    have e : (⟨b, o, none⟩ : Addr).add (k * 4 + j) = ⟨b, o + k * 4 + j, none⟩ := by
      unfold Addr.add; split
      · simp <;> omega
      · simp [Nat.add_assoc]
    rw [e] at h1
    exact h1
end
end Go.Proofs.YteigjfdgijaifaaDoor
