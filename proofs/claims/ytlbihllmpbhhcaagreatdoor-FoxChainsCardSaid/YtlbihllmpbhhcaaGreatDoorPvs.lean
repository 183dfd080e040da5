/- Polynomials by their coefficients: contracts of Term, Sub, Add, Mul, Equal; a polynomial in a box. -/
import Derived.Test.YtlbihllmpbhhcaaGreatDoorMua
import Derived.Test.YtlbihllmpbhhcaaGreatDoorSub
import Derived.Test.YtlbihllmpbhhcaaGreatDoorTrm
import Derived.Test.YtlbihllmpbhhcaaGreatDoorEql
import Derived.Test.YtlbihllmpbhhcaaGreatDoorFnc
import Derived.Test.YtlbihllmpbhhcaaGreatDoorAwf
import Derived.Test.YtlbihllmpbhhcaaGreatDoorGrt
import Derived.Test.YtlbihllmpbhhcaaGreatDoorDgr
import Derived.Test.YtlbihllmpbhhcaaGreatDoorRdp
namespace Go.Proofs.YtlbihllmpbhhcaaGreatDoor
open Go.RowKit
set_option linter.unusedVariables false

/-- v is a polynomial with the coefficients F -/
def PV (w : World) (v : Value) (F : Int → Int) : Prop := ∃ l, PolyV w v (some l) ∧ Can l ∧ Lim l ∧ ∀ e, cf l e = F e
theorem PV.below {w w' : World} {v : Value} {F : Int → Int} (h : PV w v F) (hb : Below w.heap.size w w') : PV w' v F := by
  obtain ⟨l, h1, h2⟩ := h
  exact ⟨l, h1.below hb, h2⟩
theorem PV.congr {w : World} {v : Value} {F G : Int → Int} (h : PV w v F) (hg : ∀ e, F e = G e) : PV w v G := by
  obtain ⟨l, h1, h2, h3, h4⟩ := h
  exact ⟨l, h1, h2, h3, fun e => (h4 e).trans (hg e)⟩
theorem PV.form {w : World} {v : Value} {F : Int → Int} (h : PV w v F) : ∃ (b : Bool) (A : Option Addr) (n c : Nat), v = .agg #[.bool b, .slice A n c] := by
  obtain ⟨l, h1, _⟩ := h
  obtain ⟨b, A, n, c, e, _⟩ := h1.parts
  exact ⟨b, A, n, c, e⟩
theorem PV.box {w : World} {v : Value} {F : Int → Int} {g : Nat} {t : TypeId} {b : Bool} {A : Option Addr} {n c : Nat} (h : PV w v F) (hg : Arr w g t [.bool b, .slice A n c]) (u1 u2 : Value) : PV ((w.setCell ⟨g, 0, none⟩ u1).setCell ⟨g, 1, none⟩ u2) v F := by
  obtain ⟨l, h1, h2⟩ := h
  exact ⟨l, h1.box hg u1 u2, h2⟩
theorem PV.zero (w : World) : PV w (.agg #[.bool false, .slice none 0 0]) (fun _ => 0) := ⟨[], PolyV.zero w, Can.nil, Lim.nil, fun e => rfl⟩
/-- where the coefficients lie -/
def Sup (F : Int → Int) (B : Int) : Prop := ∀ e, F e ≠ 0 → -B ≤ e ∧ e ≤ B
theorem Sup.ex {F : Int → Int} {B : Int} (h : Sup F B) {l : List (Int × Int)} (k : Can l) (hf : ∀ e, cf l e = F e) : ∀ t ∈ l, -B ≤ t.1 ∧ t.1 ≤ B := fun t ht => h _ (by rw [← hf]; exact k.ne ht)
theorem TermPV (x : Int) (w : World) (h3 : -1048576 ≤ x) (h4 : x ≤ 1048576) : Calls Tryz.prog 11 #[.int .i64 1, .int .i64 x] w fun e w' => ∃ v, e = .returned v ∧ Below w.heap.size w w' ∧ PV w' v (dl x) :=
  (Term_any 1 x w (by omega) (by omega) (by omega) h3 h4).mono fun e w' ⟨v, he, hv, hb⟩ => ⟨v, he, hb, [(x, 1)], hv, ⟨by unfold Srt; simp, by simp⟩, ⟨by simp, by simp; omega⟩, fun e => by rw [cf_one]; rfl⟩
theorem SubPV (vp vq : Value) (F G : Int → Int) (w : World) (hp : PV w vp F) (hq : PV w vq G) (hb : ∀ e, -1125899906842624 ≤ F e - G e ∧ F e - G e ≤ 1125899906842624) : Calls Tryz.prog 12 #[vp, vq] w fun e w' => ∃ v, e = .returned v ∧ Below w.heap.size w w' ∧ PV w' v (fun e => F e - G e) := by
  obtain ⟨p, hp, cp, lp, ep⟩ := hp
  obtain ⟨q, hq, cq, lq, eq⟩ := hq
  refine (Sub_any vp vq (some p) (some q) w hp hq ⟨cp, lp⟩ ⟨cq, lq⟩).mono fun e w' ⟨v, r, he, hv, hr, hbel⟩ => ?_
  obtain ⟨l, rfl, h1, h2, h3⟩ := CombP.some hr (fun e => by rw [ep, eq]; exact hb e)
  exact ⟨v, he, hbel, l, hv, h1, h2, fun e => by rw [h3, ep, eq]⟩
theorem AddPV (vp vq : Value) (F G : Int → Int) (w : World) (hp : PV w vp F) (hq : PV w vq G) (hb : ∀ e, -1125899906842624 ≤ F e + G e ∧ F e + G e ≤ 1125899906842624) : Calls Tryz.prog 9 #[vp, vq] w fun e w' => ∃ v, e = .returned v ∧ Below w.heap.size w w' ∧ PV w' v (fun e => F e + G e) := by
  obtain ⟨p, hp, cp, lp, ep⟩ := hp
  obtain ⟨q, hq, cq, lq, eq⟩ := hq
  refine (Add_any vp vq (some p) (some q) w hp hq ⟨cp, lp⟩ ⟨cq, lq⟩).mono fun e w' ⟨v, r, he, hv, hr, hbel⟩ => ?_
  obtain ⟨l, rfl, h1, h2, h3⟩ := CombP.some hr (fun e => by rw [ep, eq]; exact hb e)
  exact ⟨v, he, hbel, l, hv, h1, h2, fun e => by rw [h3, ep, eq]⟩
theorem MulPV (vp vq : Value) (F G H : Int → Int) (B C : Int) (w : World) (hp : PV w vp F) (hq : PV w vq G) (hH : ∀ p q : List (Int × Int), (∀ e, cf p e = F e) → (∀ e, cf q e = G e) → ∀ e, cv p q e = H e) (hb : ∀ e, -1125899906842624 ≤ H e ∧ H e ≤ 1125899906842624) (sF : Sup F B) (sG : Sup G C) (hBC : B + C ≤ 1048576) : Calls Tryz.prog 10 #[vp, vq] w fun e w' => ∃ v, e = .returned v ∧ Below w.heap.size w w' ∧ PV w' v H := by
  obtain ⟨p, hp, cp, lp, ep⟩ := hp
  obtain ⟨q, hq, cq, lq, eq⟩ := hq
  refine (Mul_any vp vq (some p) (some q) w hp hq ⟨cp, lp⟩ ⟨cq, lq⟩).mono fun e w' ⟨v, r, he, hv, hr, hbel⟩ => ?_
  have h0 := hH p q ep eq
  obtain ⟨l, rfl, h1, h2, h3⟩ := MulP.some hr (fun e => by rw [h0]; exact hb e) (fun s hs t ht => by
    have a := sF.ex cp ep s hs
    have b := sG.ex cq eq t ht
    omega)
  exact ⟨v, he, hbel, l, hv, h1, h2, fun e => by rw [h3, h0]⟩
theorem EqualPV (vp vq : Value) (F G : Int → Int) (w : World) (hp : PV w vp F) (hq : PV w vq G) (hFG : ∀ e, F e = G e) : Calls Tryz.prog 13 #[vp, vq] w fun e w' => e = .returned (.bool true) ∧ Below w.heap.size w w' := by
  obtain ⟨p, hp, cp, lp, ep⟩ := hp
  obtain ⟨q, hq, cq, lq, eq⟩ := hq
  refine (Equal_any vp vq (some p) (some q) w hp hq ⟨cp, lp⟩ ⟨cq, lq⟩).mono fun e w' ⟨he, hbel⟩ => ⟨?_, hbel⟩
  have : p = q := cp.ext cq (fun e => by rw [ep, eq, hFG])
  rw [he, show eqP (some p) (some q) = true from by rw [this]; exact decide_eq_true rfl]
theorem DerPV (vw vc : Value) (ws comp : List Int) (gen : Int) (w : World) (hw : Ints w vw ws) (hc : Ints w vc comp) (hl : ws.length ≤ 1000) (hcl : comp.length ≤ 1000000) (hf : fitB ws comp gen = true) :
    Calls Tryz.prog 8 #[vw, .int .i64 gen, vc] w fun e w' => ∃ b A n c, e = .returned (.tuple #[.agg #[.bool b, .slice A n c], .int .i64 0]) ∧ Below w.heap.size w w' ∧ PV w' (.agg #[.bool b, .slice A n c]) (dF comp gen ws) :=
  (Derivative_ok vw vc ws comp gen w hw hc hl hcl hf).mono fun e w' ⟨b, A, n, c, r, he, h⟩ => ⟨b, A, n, c, he, h.bel, r, h.val, h.can, h.lim, h.eq⟩
theorem Sup.dF {comp ws : List Int} {g N : Int} (hN : 0 ≤ N) (h : ∀ c ∈ comp, -N ≤ c ∧ c ≤ N) : Sup (Go.Proofs.YtlbihllmpbhhcaaGreatDoor.dF comp g ws) (N * ws.length) := fun e he => by
  unfold Go.Proofs.YtlbihllmpbhhcaaGreatDoor.dF at he
  obtain ⟨s, hs, hse⟩ := cf_ne he
  have := drv_bd hN h g ws 0 s hs
  omega
theorem great_at1 (A A3 : Option Addr) (n c n3 c3 : Nat) (W : World) (h1 : n ≤ 9223372036854775807) (h3 : n3 ≤ 9223372036854775807) :
    Calls Tryz.prog 6 #[.slice A3 n3 c3, .slice (some ⟨W.heap.size, 0, none⟩) 1 1] (W.alloc (.cells #[.slice A n c] 38)) fun e w' => e = .returned (.bool (grB [(A, n, c)] n3)) ∧ (W.alloc (.cells #[.slice A n c] 38)) = w' :=
  great_any A3 n3 c3 W.heap.size [(A, n, c)] _ (Arr.new W 38 [.slice A n c]) h3 (by simp) (fun p hp => by
    simp at hp
    subst hp
    exact h1)
theorem grB1 {A : Option Addr} {n c n3 : Nat} (h : grB [(A, n, c)] n3 = false) : n ≤ 40 ∧ n3 ≤ 8 := by
  unfold grB at h
  simp at h
  omega
theorem great_at3 (A A1 A2 A3 : Option Addr) (n c n1 c1 n2 c2 n3 c3 : Nat) (W : World) (h1 : n ≤ 9223372036854775807) (h11 : n1 ≤ 9223372036854775807) (h2 : n2 ≤ 9223372036854775807) (h3 : n3 ≤ 9223372036854775807) :
    Calls Tryz.prog 6 #[.slice A3 n3 c3, .slice (some ⟨W.heap.size, 0, none⟩) 3 3] (W.alloc (.cells #[.slice A n c, .slice A1 n1 c1, .slice A2 n2 c2] 38)) fun e w' => e = .returned (.bool (grB [(A, n, c), (A1, n1, c1), (A2, n2, c2)] n3)) ∧ (W.alloc (.cells #[.slice A n c, .slice A1 n1 c1, .slice A2 n2 c2] 38)) = w' :=
  great_any A3 n3 c3 W.heap.size [(A, n, c), (A1, n1, c1), (A2, n2, c2)] _ (Arr.new W 38 [.slice A n c, .slice A1 n1 c1, .slice A2 n2 c2]) h3 (by simp) (fun p hp => by
    simp at hp
    rcases hp with rfl | rfl | rfl
    · exact h1
    · exact h11
    · exact h2)
theorem grB3 {A A1 A2 : Option Addr} {n c n1 c1 n2 c2 n3 : Nat} (h : grB [(A, n, c), (A1, n1, c1), (A2, n2, c2)] n3 = false) : n ≤ 40 ∧ n1 ≤ 40 ∧ n2 ≤ 40 ∧ n3 ≤ 8 := by
  unfold grB at h
  simp at h
  omega
end Go.Proofs.YtlbihllmpbhhcaaGreatDoor
