/- unravelref01.Face: the cycle of a half-edge under the map of the faces. -/
import Derived.Test.YtcjaloddgilnpaaZLbw
import Derived.Test.YtcjaloddgilnpaaZCyo
import Derived.Test.YtcjaloddgilnpaaZOwn
namespace Go.Proofs.Ytcjaloddgilnpaa
open Go.RowKit
set_option linter.unusedVariables false

theorem Ints.one (w : World) (t : TypeId) (x : Int) : Ints (w.alloc (.cells #[.int .i64 x] t)) (.slice (some ⟨w.heap.size, 0, none⟩) 1 1) [x] := Ints.of_arr (xs := [x]) (Arr.new w t [.int .i64 x])
theorem OwnI.one (w : World) (e : TypeId) (x : Int) : OwnI e w.heap.size (w.alloc (.cells #[.int .i64 x] e)) (.slice (some ⟨w.heap.size, 0, none⟩) 1 1) [x] :=
  ⟨rfl, .inr ⟨w.heap.size, 1, #[.int .i64 x], rfl, Nat.le_refl _, heap_alloc_new w _, Nat.le_refl _, by unfold maxLen; omega, rfl, rfl⟩⟩

/-- the map of the faces -/
def phi (M : List Int) (h : Nat) : Nat := turnN (mt M h) 3
/-- the first k elements of a cycle -/
def cyL (f : Nat → Nat) (h k : Nat) : List Int := (List.range k).map fun i => ((itr f i h : Nat) : Int)
theorem cyL_length (f : Nat → Nat) (h k : Nat) : (cyL f h k).length = k := by simp [cyL]
theorem cyL_succ (f : Nat → Nat) (h k : Nat) : cyL f h (k + 1) = cyL f h k ++ [((itr f k h : Nat) : Int)] := by simp [cyL, List.range_succ]

set_option maxHeartbeats 2000000 in
set_option maxRecDepth 20000 in
theorem face_ref (vm : Value) (M : List Int) (h : Nat) (w : World) (hM : Ints w vm M) (hn : M.length ≤ 256) (hp : PermF M.length (phi M)) (hm : ∀ h, h < M.length → mt M h < M.length) (h0 : ∀ h (hh : h < M.length), 0 ≤ M[h]) (hh : h < M.length) :
    Calls Try.prog 61 #[vm, .int .i64 h] w fun e w' => ∃ v p, e = .returned v ∧ 0 < p ∧ p ≤ M.length ∧ itr (phi M) p h = h ∧ OwnI 3 w.heap.size w' v (cyL (phi M) h p) ∧ Below w.heap.size w w' := by
  obtain ⟨i0, hi0, hz0, hz1, hz2⟩ := info_parts info_int
  have HP := Lib.hid hp
  have H0 := Lib.hid h0
  have HM := Lib.hid hm
  clear h0 hp hm
  have hM0 := hM
  obtain ⟨A, c, rfl, hc, hx⟩ := hM
  clear hx
  obtain ⟨b, o, rfl, hbl, hcell⟩ := mt_at hM0 hh (H0.out h hh)
  have z0 : (h : Int) < (M.length : Int) := by omega
  have hml := HM.out h hh
  have hst := Lib.hid (show turnN (mt M h) 3 = itr (phi M) 1 h from rfl)
  generalize mt M h = m at *
  have hc4 := (((Below.refl w.heap.size w).alloc (Nat.le_refl _) (.cells #[.int .i64 (h : Int)] 3)).cell (p := ⟨b, o + h, none⟩) hbl).trans hcell
  clear hcell
  go_enter Try.func61, Try.ntmps61
  go_wp2_with (go_at_call 64; refine (turn_ref m _ (by omega)).mono ?_; rintro e w9 ⟨rfl, rfl⟩; rw [hst.out])
  have hW : OwnI 3 w.heap.size (w.alloc (.cells #[.int .i64 (h : Int)] 3)) (.slice (some ⟨w.heap.size, 0, none⟩) 1 1) (cyL (phi M) h 1) ∧ Below w.heap.size w (w.alloc (.cells #[.int .i64 (h : Int)] 3)) :=
    ⟨OwnI.one w _ _, (Below.refl _ _).alloc (Nat.le_refl _) _⟩
  clear hc4 hst hml
  generalize w.alloc (.cells #[.int .i64 (h : Int)] 3) = w4 at hW ⊢
  obtain ⟨a0, hb4⟩ := hW
  go_loopg [5, 6] M.length (fun gk s5 s6 wr => ∃ k : Nat, 0 < k ∧ k ≤ M.length ∧ gk = M.length + 1 - k ∧ s6 = .int .i64 (itr (phi M) k h : Nat) ∧ OwnI 3 w.heap.size wr s5 (cyL (phi M) h k) ∧ Below w.heap.size w wr ∧ Hid (∀ j, 0 < j → j < k → itr (phi M) j h ≠ h))
  case atStart => exact ⟨1, by omega, by omega, by omega, rfl, a0, hb4, Lib.hid fun j h1 h2 => by omega⟩
  case round =>
    clear a0 hb4
    obtain ⟨k, hk0, hk, rfl, rfl, hown, hbel, HN⟩ := hrel
    have hgl := HP.out.itr_lt hh k
    obtain ⟨xs, hxs⟩ : ∃ xs, xs = cyL (phi M) h k := ⟨_, rfl⟩
    have hlk : xs.length = k := by rw [hxs]; exact cyL_length _ _ _
    rw [← hxs] at hown
    have HXS := Lib.hid hxs
    clear hxs
    subst hlk
    obtain ⟨A1, c1, rfl⟩ := hown.form
    by_cases hx : itr (phi M) xs.length h = h
    · have d1 : (((itr (phi M) xs.length h : Nat) : Int) == (h : Int)) = true := by simp [hx]
      have HX := Lib.hid hx
      clear hx
      generalize itr (phi M) xs.length h = g at d1 hgl ⊢
      go_wp2_with fail
      go_ret
      exact ⟨_, xs.length, rfl, hk0, hk, HX.out, by rw [← HXS.out]; exact hown, hbel⟩
    · have HN2 : ∀ j, 0 < j → j < xs.length + 1 → itr (phi M) j h ≠ h := by
        intro j j1 j2
        rcases Nat.lt_or_ge j xs.length with j3 | j3
        · exact HN.out j j1 j3
        · have : j = xs.length := by omega
          rw [this]; exact hx
      have hkk := HP.out.apart hh HN2
      have HN3 := Lib.hid HN2
      have d1 : (((itr (phi M) xs.length h : Nat) : Int) == (h : Int)) = false := by simp; omega
      have d2 : ¬ (((itr (phi M) xs.length h : Nat) : Int) = (h : Int)) := by omega
      have hst := Lib.hid (show turnN (mt M (itr (phi M) xs.length h)) 3 = itr (phi M) (xs.length + 1) h from rfl)
      have HS := Lib.hid (show xs ++ [((itr (phi M) xs.length h : Nat) : Int)] = cyL (phi M) h (xs.length + 1) by rw [cyL_succ, ← HXS.out])
      obtain ⟨b', o', hA, hbl', hcell⟩ := mt_at (hM0.below hbel) hgl (H0.out _ hgl)
      injection hA with hA
      injection hA with hA1 hA2
      subst hA1 hA2
      have hml := HM.out _ hgl
      clear HN2 HN hx HXS
      generalize itr (phi M) xs.length h = g at *
      generalize mt M g = m at *
      have z2 : (g : Int) < (M.length : Int) := by omega
      have z3 : (xs.length : Int) ≤ (M.length : Int) := by omega
      go_wp2_with (first
        | (at_builtin; refine wpList_appI rfl _ _ 22 rfl Try.underlying22 hi0 hz0 hz1 hz2 rfl (hown.alloc _) rfl (Ints.one wr 3 _) (by simp; omega) (Nat.le_trans hbel.size (by simp)) ?_; intro v' w1 hown' hb1 hk1; have hc5 := (((Below.refl wr.heap.size wr).alloc (Nat.le_refl _) (.cells #[.int .i64 (g : Int)] 3)).cell (p := ⟨b, o + g, none⟩) hbl').trans hcell; have hc6 := (hb1.cell (p := ⟨b, o + g, none⟩) hbl).trans hc5; clear hk1 hc5)
        | (go_at_call 64; refine (turn_ref m _ (by omega)).mono ?_; rintro e w9 ⟨rfl, rfl⟩; rw [hst.out]))
      go_roundg (M.length + 1 - (xs.length + 1))
      case measure => omega
      case rel => exact ⟨xs.length + 1, by omega, hkk, rfl, rfl, by rw [← HS.out]; exact hown', (hbel.alloc hbel.size _).trans hb1, HN3⟩
end Go.Proofs.Ytcjaloddgilnpaa
