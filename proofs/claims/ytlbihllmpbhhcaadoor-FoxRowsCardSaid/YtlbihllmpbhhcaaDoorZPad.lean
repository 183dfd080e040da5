/- laurent: Add, Neg, Term, Zero, Big, Low, High. -/
import Derived.Test.YtlbihllmpbhhcaaDoorZCbn
namespace Go.Proofs.YtlbihllmpbhhcaaDoor
open Go.RowKit
set_option linter.unusedVariables false

/-- terms are integers: they lie in no box of a polynomial -/
theorem Tms.box {w : World} {v : Value} {l : List (Int × Int)} {g : Nat} {t : TypeId} {b : Bool} {A : Option Addr} {n c : Nat} (h : Tms w v l) (hg : Arr w g t [.bool b, .slice A n c]) (u1 u2 : Value) : Tms ((w.setCell ⟨g, 0, none⟩ u1).setCell ⟨g, 1, none⟩ u2) v l := by
  obtain ⟨A', c', hv, hx⟩ := h
  refine ⟨A', c', hv, fun k hk => ?_⟩
  obtain ⟨b', o', hA, h1, h2, cs3, fr3, h3⟩ := hx k hk
  have ne : g ≠ b' := fun e => by
    subst e
    rw [hg.cell] at h1
    rcases (by omega : o' + k * 2 = 0 ∨ o' + k * 2 = 1 ∨ 2 ≤ o' + k * 2) with q | q | q
    · rw [q] at h1; injection h1 with h1; cases h1
    · rw [q] at h1; injection h1 with h1; cases h1
    · rw [List.getElem?_eq_none (by simpa using q)] at h1; cases h1
  refine ⟨b', o', hA, ?_, ?_, cs3, fr3, (Below.heap_setCell _ _ _ b' (Ne.symm ne)).trans ((Below.heap_setCell _ _ _ b' (Ne.symm ne)).trans h3)⟩
  · rw [World.cell?_setCell_far _ _ _ _ ne, World.cell?_setCell_far _ _ _ _ ne]; exact h1
  · rw [World.cell?_setCell_far _ _ _ _ ne, World.cell?_setCell_far _ _ _ _ ne]; exact h2
theorem PolyV.box {w : World} {v : Value} {p : Pol} {g : Nat} {t : TypeId} {b : Bool} {A : Option Addr} {n c : Nat} (h : PolyV w v p) (hg : Arr w g t [.bool b, .slice A n c]) (u1 u2 : Value) : PolyV ((w.setCell ⟨g, 0, none⟩ u1).setCell ⟨g, 1, none⟩ u2) v p := by
  obtain ⟨A', c', hv, hx⟩ := h
  exact ⟨A', c', hv, hx.box hg u1 u2⟩
/-- a polynomial's parts under names of their own -/
theorem PolyV.parts {w : World} {v : Value} {p : Pol} (h : PolyV w v p) : ∃ (b : Bool) (A : Option Addr) (n c : Nat), v = .agg #[.bool b, .slice A n c] ∧ b = p.isNone ∧ n = (p.getD []).length := by
  obtain ⟨A, c, hv, _⟩ := h
  exact ⟨_, A, _, c, hv, rfl, rfl⟩
set_option maxHeartbeats 1000000 in
set_option maxRecDepth 100000 in
theorem Add_any (vp vq : Value) (p q : Pol) (w : World) (hp : PolyV w vp p) (hq : PolyV w vq q) (okp : okP p) (okq : okP q) :
    Calls Tryd.prog 23 #[vp, vq] w (CombR (fun a b => a + b) p q w) := by
  have HC := Lib.hid (fun W (hb : Below w.heap.size w W) => combine_any 47 _ clo_add vp vq p q W (hp.below hb) (hq.below hb) okp okq)
  obtain ⟨b1, A, n, c, rfl, j1, j2⟩ := hp.parts
  obtain ⟨b2, A2, n2, c2, rfl, j3, j4⟩ := hq.parts
  clear hp okp j1 j2 hq okq j3 j4
  have hW : ∀ W, W = (((w.alloc (.cells #[.bool b1, .slice A n c] 27)).alloc (.cells #[.bool b2, .slice A2 n2 c2] 27)).alloc (.cells #[.bool false, .slice none 0 0] 27)) → Arr W w.heap.size 27 [.bool b1, .slice A n c] ∧ Arr W (w.heap.size + 1) 27 [.bool b2, .slice A2 n2 c2] ∧ Arr W (w.heap.size + 2) 27 [.bool false, .slice none 0 0] ∧ Below w.heap.size w W := by
    intro W hW
    subst hW
    exact ⟨((Arr.new _ _ [_, _]).alloc _).alloc _, (Arr.newAt (w.alloc _) _ [_, _] _ (by simp)).alloc _, Arr.newAt ((w.alloc _).alloc _) _ [_, _] _ (by simp), (((Below.refl _ _).alloc (Nat.le_refl _) _).alloc (by simp) _).alloc (by simp <;> omega) _⟩
  go_enter Tryd.func23, Tryd.ntmps23
  go_upto_region 1 with fail
  generalize (((w.alloc (.cells #[.bool b1, .slice A n c] 27)).alloc (.cells #[.bool b2, .slice A2 n2 c2] 27)).alloc (.cells #[.bool false, .slice none 0 0] 27)) = w3 at hW ⊢
  obtain ⟨qp, qq, qr, hb3⟩ := hW w3 rfl
  clear hW
  have y0 := qp.cell 0
  have y1 := qp.cell 1
  have y2 := qq.cell 0
  have y3 := qq.cell 1
  have HC3 := Lib.hid (HC.out w3 hb3)
  clear HC
  go_wp2_with fail
  ((with_reducible refine HC3.out.mono ?_); skip)
  rintro e w4 ⟨v, r, rfl, hv, hr, hb4⟩
  have q4 := qr.below hb4 qr.lt
  have hb4' := hb3.trans (hb4.mono hb3.size)
  have HV := Lib.hid (fun u1 u2 => hv.box q4 u1 u2)
  have HR := Lib.hid hr
  obtain ⟨b5, A5, n5, c5, rfl, j5, j6⟩ := hv.parts
  clear j5 j6 hv hr y0 y1 qp qr HC3 y2 y3 qq
  have x0 := q4.cell 0
  have x1 := q4.cell 1
  have f0 := q4.frozen 0
  have f1 := q4.frozen 1
  have hres := Lib.hid ((q4.set 0 (.bool b5)).set 1 (.slice A5 n5 c5))
  go_wp2_with fail
  refine bodyPost_ret (v := .agg #[.bool b5, .slice A5 n5 c5]) (results_c Tryd.results23 _ _ (w.heap.size + 2) 27 _ _ rfl hres.out Tryd.underlying27 rfl info_poly) rfl ?_
  exact ⟨_, r, rfl, HV.out _ _, HR.out, (hb4'.setCell (p := ⟨w.heap.size + 2, 0, none⟩) (by simp) _).setCell (p := ⟨w.heap.size + 2, 1, none⟩) (by simp) _⟩
set_option maxHeartbeats 1000000 in
set_option maxRecDepth 100000 in
theorem Neg_any (vp : Value) (p : Pol) (w : World) (hp : PolyV w vp p) (okp : okP p) :
    Calls Tryd.prog 25 #[vp] w (CombR (fun _ b => -b) (some []) p w) := by
  have HC := Lib.hid (fun W (hb : Below w.heap.size w W) => combine_any 51 _ clo_neg (.agg #[.bool false, .slice none 0 0]) vp (some []) p W (PolyV.zero W) (hp.below hb) ⟨Can.nil, Lim.nil⟩ okp)
  obtain ⟨b1, A, n, c, rfl, j1, j2⟩ := hp.parts

  clear hp okp j1 j2
  have hW : ∀ W, W = ((w.alloc (.cells #[.bool b1, .slice A n c] 27)).alloc (.cells #[.bool false, .slice none 0 0] 27)) → Arr W w.heap.size 27 [.bool b1, .slice A n c] ∧ Arr W (w.heap.size + 1) 27 [.bool false, .slice none 0 0] ∧ Below w.heap.size w W := by
    intro W hW
    subst hW
    exact ⟨(Arr.new _ _ [_, _]).alloc _, Arr.newAt (w.alloc _) _ [_, _] _ (by simp), ((Below.refl _ _).alloc (Nat.le_refl _) _).alloc (by simp) _⟩
  go_enter Tryd.func25, Tryd.ntmps25
  go_upto_region 1 with fail
  generalize ((w.alloc (.cells #[.bool b1, .slice A n c] 27)).alloc (.cells #[.bool false, .slice none 0 0] 27)) = w3 at hW ⊢
  obtain ⟨qp, qr, hb3⟩ := hW w3 rfl
  clear hW
  have y0 := qp.cell 0
  have y1 := qp.cell 1

  have HC3 := Lib.hid (HC.out w3 hb3)
  clear HC
  go_wp2_with fail
  ((with_reducible refine HC3.out.mono ?_); skip)
  rintro e w4 ⟨v, r, rfl, hv, hr, hb4⟩
  have q4 := qr.below hb4 qr.lt
  have hb4' := hb3.trans (hb4.mono hb3.size)
  have HV := Lib.hid (fun u1 u2 => hv.box q4 u1 u2)
  have HR := Lib.hid hr
  obtain ⟨b5, A5, n5, c5, rfl, j5, j6⟩ := hv.parts
  clear j5 j6 hv hr y0 y1 qp qr HC3
  have x0 := q4.cell 0
  have x1 := q4.cell 1
  have f0 := q4.frozen 0
  have f1 := q4.frozen 1
  have hres := Lib.hid ((q4.set 0 (.bool b5)).set 1 (.slice A5 n5 c5))
  go_wp2_with fail
  refine bodyPost_ret (v := .agg #[.bool b5, .slice A5 n5 c5]) (results_c Tryd.results25 _ _ (w.heap.size + 1) 27 _ _ rfl hres.out Tryd.underlying27 rfl info_poly) rfl ?_
  exact ⟨_, r, rfl, HV.out _ _, HR.out, (hb4'.setCell (p := ⟨w.heap.size + 1, 0, none⟩) (by simp) _).setCell (p := ⟨w.heap.size + 1, 1, none⟩) (by simp) _⟩
set_option maxHeartbeats 1000000 in
theorem Big_any (vp : Value) (p : Pol) (w : World) (hp : PolyV w vp p) : Calls Tryd.prog 27 #[vp] w fun e w' => e = .returned (.bool p.isNone) ∧ Below w.heap.size w w' := by
  obtain ⟨b1, A, n, c, rfl, hb, _⟩ := hp.parts
  rw [← hb]
  clear hp hb
  go_enter Tryd.func27, Tryd.ntmps27
  go_wp2_with fail
  go_ret
  exact ⟨rfl, (Below.refl _ _).alloc (Nat.le_refl _) _⟩
/-- the polynomial 0 -/
def zeroB : Pol → Bool
  | some [] => true
  | _ => false
set_option maxHeartbeats 1000000 in
theorem Zero_any (vp : Value) (p : Pol) (w : World) (hp : PolyV w vp p) (okp : okP p) : Calls Tryd.prog 13 #[vp] w fun e w' => e = .returned (.bool (zeroB p)) ∧ Below w.heap.size w w' := by
  obtain ⟨b1, A, n, c, rfl, hb, hn⟩ := hp.parts
  have hz : zeroB p = (!b1 && (n : Int) == 0) := by
    rw [hb, hn]
    cases p with
    | none => rfl
    | some l => cases l with
      | nil => rfl
      | cons t l =>
        have : (((l.length + 1 : Nat) : Int) == 0) = false := by simp; omega
        show false = (!false && (((l.length + 1 : Nat) : Int) == 0))
        rw [this]; rfl
  rw [hz]
  clear hp hb hz hn okp
  cases b1 with
  | true =>
    go_enter Tryd.func13, Tryd.ntmps13
    go_wp2_with fail
    go_ret
    exact ⟨rfl, (Below.refl _ _).alloc (Nat.le_refl _) _⟩
  | false =>
    rcases Nat.eq_zero_or_pos n with rfl | h0
    · go_enter Tryd.func13, Tryd.ntmps13
      go_wp2_with fail
      go_ret
      exact ⟨rfl, (Below.refl _ _).alloc (Nat.le_refl _) _⟩
    · have z1 : ((n : Int) == 0) = false := by simp; omega
      rw [z1]
      go_enter Tryd.func13, Tryd.ntmps13
      go_wp2_with fail
      go_ret
      exact ⟨rfl, (Below.refl _ _).alloc (Nat.le_refl _) _⟩
end Go.Proofs.YtlbihllmpbhhcaaDoor
