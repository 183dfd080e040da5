/- The law's function two: does a list of grids hold one of size 2? -/
import Derived.Test.YteigjfdgijaifaaDoorZGso
namespace Go.Proofs.YteigjfdgijaifaaDoor
open Go.RowKit
set_option linter.unusedVariables false

def twoB (gs : List Gd) : Bool := gs.any fun g => decide (g.1.length = 2)
theorem twoB_drop {gs : List Gd} {k : Nat} (h : k < gs.length) : twoB (gs.drop k) = (decide (gs[k].1.length = 2) || twoB (gs.drop (k + 1))) := by
  unfold twoB
  rw [List.drop_eq_getElem_cons h, List.any_cons]
theorem Gds.at_ {w : World} {A : Option Addr} {n c : Nat} {gs : List Gd} (h : Gds w (.slice A n c) gs) {k : Nat} (hk : k < gs.length) :
    ∃ (b o : Nat) (A0 : Option Addr) (n0 c0 : Nat) (A1 : Option Addr) (n1 c1 : Nat), A = some ⟨b, o, none⟩ ∧ b < w.heap.size ∧ w.cell? ⟨b, o + k * 2, none⟩ = some (.slice A0 n0 c0) ∧ w.cell? ⟨b, o + k * 2 + 1, none⟩ = some (.slice A1 n1 c1) ∧ GvI w ((A0, n0, c0), (A1, n1, c1)) gs[k] := by
  obtain ⟨A', c', e, _, hx⟩ := h
  injection e with e1 _ _
  subst e1
  obtain ⟨b, o, ⟨⟨A0, n0, c0⟩, A1, n1, c1⟩, e1, h1, h2, h3⟩ := hx k _ (List.getElem?_eq_getElem hk)
  exact ⟨b, o, A0, n0, c0, A1, n1, c1, e1, block_lt_of_cell h1, h1, h2, h3⟩
theorem Gds.len {w : World} {A : Option Addr} {n c : Nat} {gs : List Gd} (h : Gds w (.slice A n c) gs) : n = gs.length := by
  obtain ⟨A', c', e, _⟩ := h
  injection e
set_option maxHeartbeats 2000000 in
theorem two_any (A : Option Addr) (n c : Nat) (gs : List Gd) (w : World) (h : Gds w (.slice A n c) gs) (hl : gs.length ≤ 1000000000) :
    Calls Tryd.prog 16 #[.slice A n c] w fun e w' => e = .returned (.bool (twoB gs)) ∧ Below w.heap.size w w' := by
  have hn := h.len
  subst hn
  go_enter Tryd.func16, Tryd.ntmps16
  go_wp2_with fail
  go_loopw [7] (fun i wr => ∃ k : Nat, k ≤ gs.length ∧ i = .int .i64 k ∧ Below w.heap.size w wr ∧ Hid (twoB gs = twoB (gs.drop k))) (fun i _ => gs.length - (intOf i).toNat)
  case atStart => exact ⟨0, Nat.zero_le _, rfl, Below.refl _ _, rfl⟩
  case round =>
    obtain ⟨k, hk, rfl, hb, H⟩ := hrel
    by_cases hlt : k < gs.length
    · obtain ⟨b, o, A0, n0, c0, A1, n1, c1, rfl, hbl, y0, y1, hg⟩ := h.at_ hlt
      have y0 := (hb.cell (p := ⟨b, o + k * 2, none⟩) hbl).trans y0
      have y1 := (hb.cell (p := ⟨b, o + k * 2 + 1, none⟩) hbl).trans y1
      have hn0 : n0 = gs[k].1.length := ints_len hg.1
      rw [twoB_drop hlt, ← hn0] at H
      have HB := Lib.hid (hb.alloc hb.size (.cells #[.slice A0 n0 c0, .slice A1 n1 c1] 26))
      clear hg hn0 h hb
      by_cases h2 : n0 = 2
      · have hfin := Lib.hid (show twoB gs = true by rw [H.out]; simp [h2])
        have z2 : ((n0 : Int) == 2) = true := by simp [h2]
        clear H h2
        go_wp2_with fail
        go_ret
        exact ⟨by rw [hfin.out]; rfl, HB.out⟩
      · have hfin := Lib.hid (show twoB gs = twoB (gs.drop (k + 1)) by rw [H.out]; simp [h2])
        have z2 : ((n0 : Int) == 2) = false := by simp; omega
        clear H h2
        go_wp2_with fail
        go_roundw
        case rel => exact ⟨k + 1, by omega, by go_num, HB.out, hfin⟩
        case measure => simp [intOf]; omega
    · obtain rfl : k = gs.length := by omega
      have hfin := Lib.hid (show twoB gs = false by rw [H.out, List.drop_length]; rfl)
      clear H
      go_wp2_with fail
      go_ret
      exact ⟨by rw [hfin.out]; rfl, hb⟩
end Go.Proofs.YteigjfdgijaifaaDoor
