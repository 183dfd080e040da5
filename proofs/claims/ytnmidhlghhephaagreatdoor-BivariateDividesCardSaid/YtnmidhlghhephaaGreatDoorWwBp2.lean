/- Polynomials in one variable told by a list of terms: contracts. -/
/- bivariate: unit, power. -/
/- bivariate: power at 1 and -1; the powers of a single term. -/
/- bivariate: the powers of a polynomial, kept in a list. -/
import Derived.Test.YtnmidhlghhephaaGreatDoorWwMua
import Derived.Test.YtnmidhlghhephaaGreatDoorWwEql
import Derived.Test.YtnmidhlghhephaaGreatDoorWwOfp
import Derived.Test.YtnmidhlghhephaaGreatDoorWwBfs
import Derived.Test.YtnmidhlghhephaaGreatDoorWwPhz
import Derived.Test.YtnmidhlghhephaaGreatDoorWwEnd
import Derived.Deep.LoopGhost
namespace Go.Proofs.YtnmidhlghhephaaGreatDoor
open Go.RowKit
set_option linter.unusedVariables false
abbrev T1 := Int × Int
/-- the sum of the absolute values -/
def asum1 : List T1 → Nat
  | [] => 0
  | t :: l => t.2.natAbs + asum1 l
theorem asum1_append (l m : List T1) : asum1 (l ++ m) = asum1 l + asum1 m := by
  induction l with
  | nil => simp [asum1]
  | cons t l ih => rw [List.cons_append, asum1, asum1, ih]; omega
theorem asum1_map (s : T1) (m : List T1) : asum1 (m.map fun t => (s.1 + t.1, s.2 * t.2)) = s.2.natAbs * asum1 m := by
  induction m with
  | nil => simp [asum1]
  | cons t m ih => rw [List.map_cons, asum1, asum1, ih, Int.natAbs_mul, Nat.mul_add]
theorem asum1_prs (l m : List T1) : asum1 (prs l m) = asum1 l * asum1 m := by
  induction l with
  | nil => simp [prs, asum1]
  | cons s l ih => rw [prs, asum1_append, asum1_map, ih, asum1, Nat.add_mul]
theorem cf_asum (l : List T1) (e : Int) : (cf l e).natAbs ≤ asum1 l := by
  induction l with
  | nil => simp [cf_nil, asum1]
  | cons t l ih => rw [show t :: l = [t] ++ l from rfl, cf_append, cf_one, List.singleton_append, asum1]; split <;> omega
/-- the exponents are at most N in absolute value -/
def Eb1 (N : Nat) (l : List T1) : Prop := ∀ t ∈ l, -(N : Int) ≤ t.1 ∧ t.1 ≤ N
theorem Eb1.append {N : Nat} {l m : List T1} (h : Eb1 N l) (k : Eb1 N m) : Eb1 N (l ++ m) := fun t ht => by
  rcases List.mem_append.1 ht with ht | ht
  · exact h t ht
  · exact k t ht
theorem Eb1.nil (N : Nat) : Eb1 N [] := fun t h => by cases h
theorem Eb1.mono {N M : Nat} {l : List T1} (h : Eb1 N l) (hm : N ≤ M) : Eb1 M l := fun t ht => by have := h t ht; omega
theorem Eb1.mul {N M : Nat} {l m : List T1} (h : Eb1 N l) (k : Eb1 M m) : Eb1 (N + M) (prs l m) := fun t ht => by
  obtain ⟨s, hs, u, hu, rfl⟩ := prs_mem ht
  have h1 := h s hs
  have h2 := k u hu
  simp only
  omega
/-- v is the polynomial that the terms L sum up to -/
def QL (w : World) (v : Value) (L : List T1) : Prop := ∃ l, PolyV w v (some l) ∧ Can l ∧ Lim l ∧ ∀ e, cf l e = cf L e
theorem QL.below {w w' : World} {v : Value} {L : List T1} (h : QL w v L) (hb : Below w.heap.size w w') : QL w' v L := by
  obtain ⟨l, h1, h2⟩ := h
  exact ⟨l, h1.below hb, h2⟩
theorem QL.congr {w : World} {v : Value} {L M : List T1} (h : QL w v L) (hg : ∀ e, cf L e = cf M e) : QL w v M := by
  obtain ⟨l, h1, h2, h3, h4⟩ := h
  exact ⟨l, h1, h2, h3, fun e => (h4 e).trans (hg e)⟩
theorem QL.form {w : World} {v : Value} {L : List T1} (h : QL w v L) : ∃ (A : Option Addr) (n c : Nat), v = .agg #[.bool false, .slice A n c] := by
  obtain ⟨l, h1, _⟩ := h
  obtain ⟨b, A, n, c, e, j, _⟩ := h1.parts
  exact ⟨A, n, c, by rw [e, j]; rfl⟩
theorem QL.zero (w : World) : QL w (.agg #[.bool false, .slice none 0 0]) [] := ⟨[], PolyV.zero w, Can.nil, Lim.nil, fun e => rfl⟩
theorem QL.box {w : World} {v : Value} {L : List T1} {g : Nat} {t : TypeId} {b : Bool} {A : Option Addr} {n c : Nat} (h : QL w v L) (hg : Arr w g t [.bool b, .slice A n c]) (u1 u2 : Value) : QL ((w.setCell ⟨g, 0, none⟩ u1).setCell ⟨g, 1, none⟩ u2) v L := by
  obtain ⟨l, h1, h2⟩ := h
  exact ⟨l, h1.box hg u1 u2, h2⟩
def QLR (L : List T1) (w : World) (e : Ending) (w' : World) : Prop := ∃ v, e = .returned v ∧ Below w.heap.size w w' ∧ QL w' v L
theorem TermQ (c x : Int) (w : World) (h1 : -1125899906842624 ≤ c) (h2 : c ≤ 1125899906842624) (h0 : c ≠ 0) (h3 : -1048576 ≤ x) (h4 : x ≤ 1048576) : Calls Tryz.prog 8 #[.int .i64 c, .int .i64 x] w (QLR [(x, c)] w) :=
  (Term_any c x w h0 h1 h2 h3 h4).mono fun e w' ⟨v, he, hv, hb⟩ => ⟨v, he, hb, [(x, c)], hv, ⟨by unfold Srt; simp, by simpa using h0⟩, ⟨by simp; omega, by simp; omega⟩, fun e => rfl⟩
theorem AddQ (vp vq : Value) (L M : List T1) (w : World) (hp : QL w vp L) (hq : QL w vq M) (hb : asum1 L + asum1 M ≤ 1125899906842624) : Calls Tryz.prog 23 #[vp, vq] w (QLR (L ++ M) w) := by
  obtain ⟨p, hp, cp, lp, ep⟩ := hp
  obtain ⟨q, hq, cq, lq, eq⟩ := hq
  refine (Add_any vp vq (some p) (some q) w hp hq ⟨cp, lp⟩ ⟨cq, lq⟩).mono fun e w' ⟨v, r, he, hv, hr, hbel⟩ => ?_
  obtain ⟨l, rfl, h1, h2, h3⟩ := CombP.some hr (fun e => by rw [ep, eq]; have := cf_asum L e; have := cf_asum M e; omega)
  exact ⟨v, he, hbel, l, hv, h1, h2, fun e => by rw [h3, ep, eq, cf_append]⟩
theorem MulQ {N M : Nat} (vp vq : Value) (L K : List T1) (w : World) (hp : QL w vp L) (hq : QL w vq K) (hb : asum1 L * asum1 K ≤ 1125899906842624) (eN : Eb1 N L) (eM : Eb1 M K) (hN : N + M ≤ 1048576) : Calls Tryz.prog 11 #[vp, vq] w (QLR (prs L K) w) := by
  obtain ⟨p, hp, cp, lp, ep⟩ := hp
  obtain ⟨q, hq, cq, lq, eq⟩ := hq
  refine (Mul_any vp vq (some p) (some q) w hp hq ⟨cp, lp⟩ ⟨cq, lq⟩).mono fun e w' ⟨v, r, he, hv, hr, hbel⟩ => ?_
  have h0 : ∀ e, cv p q e = cf (prs L K) e := fun e => by rw [cf_prs]; exact cv_congr ep eq e
  obtain ⟨l, rfl, h1, h2, h3⟩ := MulP.some hr (fun e => by rw [h0]; have := cf_asum (prs L K) e; rw [asum1_prs] at this; omega) (fun s hs t ht => by
    obtain ⟨a, ha, e1⟩ := cf_ne (l := L) (e := s.1) (by rw [← ep]; exact cp.ne hs)
    obtain ⟨b, hb2, e2⟩ := cf_ne (l := K) (e := t.1) (by rw [← eq]; exact cq.ne ht)
    have h1 := eN a ha
    have h2 := eM b hb2
    rw [e1] at h1
    rw [e2] at h2
    omega)
  exact ⟨v, he, hbel, l, hv, h1, h2, fun e => by rw [h3, h0]⟩
theorem EqualQ (vp vq : Value) (L M : List T1) (w : World) (hp : QL w vp L) (hq : QL w vq M) (hFG : ∀ e, cf L e = cf M e) : Calls Tryz.prog 13 #[vp, vq] w fun e w' => e = .returned (.bool true) ∧ Below w.heap.size w w' := by
  obtain ⟨p, hp, cp, lp, ep⟩ := hp
  obtain ⟨q, hq, cq, lq, eq⟩ := hq
  refine (Equal_any vp vq (some p) (some q) w hp hq ⟨cp, lp⟩ ⟨cq, lq⟩).mono fun e w' ⟨he, hbel⟩ => ⟨?_, hbel⟩
  have : p = q := cp.ext cq (fun e => by rw [ep, eq, hFG])
  rw [he, show eqP (some p) (some q) = true from by rw [this]; exact decide_eq_true rfl]
end Go.Proofs.YtnmidhlghhephaaGreatDoor

namespace Go.Proofs.YtnmidhlghhephaaGreatDoor
open Go.RowKit
set_option linter.unusedVariables false
/-- a single term with the coefficient 1 or -1 -/
def unitP (p : Pol) : Bool := decide (lowL (p.getD []) = highL (p.getD []) ∧ (cf (p.getD []) (lowL (p.getD [])) = 1 ∨ cf (p.getD []) (lowL (p.getD [])) = -1))
set_option maxHeartbeats 4000000 in
set_option maxRecDepth 100000 in
theorem unit_any (vp : Value) (p : Pol) (w : World) (hp : PolyV w vp p) (okp : okP p) :
    Calls Tryz.prog 21 #[vp] w fun e w' => e = .returned (.bool (unitP p)) ∧ Below w.heap.size w w' := by
  have HLO := Lib.hid (fun W (hb : Below w.heap.size w W) => Low_any vp p W (hp.below hb) okp)
  have HHI := Lib.hid (fun W (hb : Below w.heap.size w W) => High_any vp p W (hp.below hb) okp)
  have HCO := Lib.hid (fun W (hb : Below w.heap.size w W) => Coef_any vp p (lowL (p.getD [])) W (hp.below hb) okp)
  obtain ⟨U, hU⟩ : ∃ U, U = unitP p := ⟨_, rfl⟩
  rw [← hU]
  have hU2 : U = decide (lowL (p.getD []) = highL (p.getD []) ∧ (cf (p.getD []) (lowL (p.getD [])) = 1 ∨ cf (p.getD []) (lowL (p.getD [])) = -1)) := hU
  clear hU
  generalize hcv : cf (p.getD []) (lowL (p.getD [])) = cv0 at *
  generalize hlo : lowL (p.getD []) = lo at *
  generalize hhi : highL (p.getD []) = hi at *
  clear hcv hlo hhi
  have HU0 := Lib.hid hU2
  clear hU2
  obtain ⟨b1, A, n, c, rfl, j1, j2⟩ := hp.parts
  clear hp j1 j2 okp
  have hW : ∀ W, W = w.alloc (.cells #[.bool b1, .slice A n c] 34) → Arr W w.heap.size 34 [.bool b1, .slice A n c] ∧ Below w.heap.size w W := by
    intro W hW
    subst hW
    exact ⟨Arr.new _ _ [_, _], (Below.refl _ _).alloc (Nat.le_refl _) _⟩
  by_cases h1 : lo ≠ hi
  · have HZ := Lib.hid (show (lo == hi) = false from beq_eq_false_iff_ne.2 h1)
    have HU := Lib.hid (show U = false from by rw [HU0.out]; exact decide_eq_false fun h => h1 h.1)
    clear h1
    go_enter Tryz.func21, Tryz.ntmps21
    go_upto_region 1 with fail
    generalize w.alloc (.cells #[.bool b1, .slice A n c] 34) = w3 at hW ⊢
    obtain ⟨q1, hb3⟩ := hW w3 rfl
    have Q1 := Lib.hid q1
    have HB3 := Lib.hid hb3
    clear hW q1 hb3
    refine wp_region_phy (fun a b => Below a.heap.size a b) (fun h k => h.trans (k.mono h.size)) ((Below.refl _ _).drew) (by kernel_rfl) (by kernel_rfl) (by kernel_rfl) (by kernel_rfl) (phiT (fun i => ([some (.agg #[.bool b1, .slice A n c]), some (.agg #[.bool b1, .slice A n c]), some (.int .i64 lo), some (.int .i64 cv0), some (.int .i64 cv0)] : List (Option Value)).getD i none) (fun i v w => True)) (fun i v w w' h hb => ?_) ⟨?_, ?_, ?_, ?_, ?_, trivial⟩ ?_
    · unfold phiT at h ⊢
      split
      · next u hu => rw [hu] at h; exact h
      · next hu =>
        rw [hu] at h
        exact True.intro
    · intro x w1 bA hT hdep hold hb
      refine .inl ⟨trivial, ?_⟩
      have e1 : bA.tmps[1]?.getD undef = .pointer (some ⟨w.heap.size, 0, none⟩) := hb 1
      have cc0 := (Q1.out.below hT Q1.out.lt).cell 0
      have cc1 := (Q1.out.below hT Q1.out.lt).cell 1
      refine phx_run (.agg #[.bool b1, .slice A n c]) ?_ (Below.refl _ _) rfl
      clear hb hdep hold
      go_simp
    · intro x w1 bA hT hdep hold hb
      refine .inl ⟨trivial, ?_⟩
      have e1 : bA.tmps[1]?.getD undef = .pointer (some ⟨w.heap.size, 0, none⟩) := hb 1
      have cc0 := (Q1.out.below hT Q1.out.lt).cell 0
      have cc1 := (Q1.out.below hT Q1.out.lt).cell 1
      refine phx_run (.agg #[.bool b1, .slice A n c]) ?_ (Below.refl _ _) rfl
      clear hb hdep hold
      go_simp
    · intro x w1 bA hT hdep hold hb
      refine .inl ⟨trivial, ?_⟩
      have e5 : bA.tmps[5]?.getD undef = .agg #[.bool b1, .slice A n c] := (hb 5).trans (hdep 1 (by decide))
      refine phx_call ?_ ((HLO.out w1 (HB3.out.trans (hT.mono HB3.out.size))).mono fun e w' h => ⟨_, h.1, h.2, rfl⟩)
      clear hb hdep hold
      go_simp
    · intro x w1 bA hT hdep hold hb
      refine .inl ⟨trivial, ?_⟩
      have e4 : bA.tmps[4]?.getD undef = .agg #[.bool b1, .slice A n c] := (hb 4).trans (hdep 0 (by decide))
      have e6 : bA.tmps[6]?.getD undef = .int .i64 lo := (hb 6).trans (hdep 2 (by decide))
      refine phx_call ?_ ((HCO.out w1 (HB3.out.trans (hT.mono HB3.out.size))).mono fun e w' h => ⟨_, h.1, h.2, rfl⟩)
      clear hb hdep hold
      go_simp
    · intro x w1 bA hT hdep hold hb
      refine .inl ⟨trivial, ?_⟩
      have e7 : bA.tmps[7]?.getD undef = .int .i64 cv0 := (hb 7).trans (hdep 3 (by decide))
      refine phx_run (.int .i64 cv0) ?_ (Below.refl _ _) rfl
      clear hb hdep hold
      go_simp
    intro x w1 hT hall
    have x0e : x 0 = .agg #[.bool b1, .slice A n c] := hall 0 (by decide)
    have x1e : x 1 = .agg #[.bool b1, .slice A n c] := hall 1 (by decide)
    have x2e : x 2 = .int .i64 lo := hall 2 (by decide)
    have x3e : x 3 = .int .i64 cv0 := hall 3 (by decide)
    have x4e : x 4 = .int .i64 cv0 := hall 4 (by decide)
    simp only [putAll, dstOf, Act.put, List.map_cons, List.map_nil, List.setIfInBounds_toArray, List.set_cons_succ, List.set_cons_zero, Nat.reduceAdd, x0e, x1e, x2e, x3e, x4e]
    clear x0e x1e x2e x3e x4e hall
    have Q2 := Lib.hid (Q1.out.below hT Q1.out.lt)
    have HB4 := Lib.hid (HB3.out.trans (hT.mono HB3.out.size))
    clear Q1 HB3 hT
    generalize w1 = w4 at *
    have Q1 := Lib.hid Q2.out
    have HB3 := Lib.hid HB4.out
    clear Q2 HB4
    go_wp2_with fail
    refine wp_region_phy (fun a b => Below a.heap.size a b) (fun h k => h.trans (k.mono h.size)) ((Below.refl _ _).drew) (by kernel_rfl) (by kernel_rfl) (by kernel_rfl) (by kernel_rfl) (phiT (fun i => ([some (.agg #[.bool b1, .slice A n c]), some (.int .i64 lo), some (.agg #[.bool b1, .slice A n c]), some (.int .i64 hi), some (.bool false), some (.bool false), some (undef), some (undef), some (undef), some (undef), some (undef), some (undef), some (.bool false), some (.bool false)] : List (Option Value)).getD i none) (fun i v w => True)) (fun i v w w' h hb => ?_) ⟨?_, ?_, ?_, ?_, ?_, ?_, ?_, ?_, ?_, ?_, ?_, ?_, ?_, ?_, trivial⟩ ?_
    · unfold phiT at h ⊢
      split
      · next u hu => rw [hu] at h; exact h
      · next hu =>
        rw [hu] at h
        exact True.intro
    · intro x w1 bA hT hdep hold hb
      refine .inl ⟨trivial, ?_⟩
      have e1 : bA.tmps[1]?.getD undef = .pointer (some ⟨w.heap.size, 0, none⟩) := hb 1
      have cc0 := (Q1.out.below hT Q1.out.lt).cell 0
      have cc1 := (Q1.out.below hT Q1.out.lt).cell 1
      refine phx_run (.agg #[.bool b1, .slice A n c]) ?_ (Below.refl _ _) rfl
      clear hb hdep hold
      go_simp
    · intro x w1 bA hT hdep hold hb
      refine .inl ⟨trivial, ?_⟩
      have e8 : bA.tmps[8]?.getD undef = .agg #[.bool b1, .slice A n c] := (hb 8).trans (hdep 0 (by decide))
      refine phx_call ?_ ((HLO.out w1 (HB3.out.trans (hT.mono HB3.out.size))).mono fun e w' h => ⟨_, h.1, h.2, rfl⟩)
      clear hb hdep hold
      go_simp
    · intro x w1 bA hT hdep hold hb
      refine .inl ⟨trivial, ?_⟩
      have e1 : bA.tmps[1]?.getD undef = .pointer (some ⟨w.heap.size, 0, none⟩) := hb 1
      have cc0 := (Q1.out.below hT Q1.out.lt).cell 0
      have cc1 := (Q1.out.below hT Q1.out.lt).cell 1
      refine phx_run (.agg #[.bool b1, .slice A n c]) ?_ (Below.refl _ _) rfl
      clear hb hdep hold
      go_simp
    · intro x w1 bA hT hdep hold hb
      refine .inl ⟨trivial, ?_⟩
      have e10 : bA.tmps[10]?.getD undef = .agg #[.bool b1, .slice A n c] := (hb 10).trans (hdep 2 (by decide))
      refine phx_call ?_ ((HHI.out w1 (HB3.out.trans (hT.mono HB3.out.size))).mono fun e w' h => ⟨_, h.1, h.2, rfl⟩)
      clear hb hdep hold
      go_simp
    · intro x w1 bA hT hdep hold hb
      refine .inl ⟨trivial, ?_⟩
      have e9 : bA.tmps[9]?.getD undef = .int .i64 lo := (hb 9).trans (hdep 1 (by decide))
      have e11 : bA.tmps[11]?.getD undef = .int .i64 hi := (hb 11).trans (hdep 3 (by decide))
      have zz := HZ.out
      refine phx_run (.bool false) ?_ (Below.refl _ _) rfl
      clear hb hdep hold
      go_simp
    · intro x w1 bA hT hdep hold hb
      refine .inl ⟨trivial, ?_⟩
      have e12 : bA.tmps[12]?.getD undef = .bool false := (hb 12).trans (hdep 4 (by decide))
      refine phx_run (.bool false) ?_ (Below.refl _ _) rfl
      clear hb hdep hold
      go_simp
    · intro x w1 bA hT hdep hold hb
      exact .inr ⟨⟨13, rfl, .inl ((hb 13).trans (hdep 5 (by decide)))⟩, rfl⟩
    · intro x w1 bA hT hdep hold hb
      exact .inr ⟨⟨13, rfl, .inl ((hb 13).trans (hdep 5 (by decide)))⟩, rfl⟩
    · intro x w1 bA hT hdep hold hb
      exact .inr ⟨⟨13, rfl, .inl ((hb 13).trans (hdep 5 (by decide)))⟩, rfl⟩
    · intro x w1 bA hT hdep hold hb
      exact .inr ⟨⟨16, rfl, .inr ((hb 16).trans (hdep 8 (by decide)))⟩, rfl⟩
    · intro x w1 bA hT hdep hold hb
      exact .inr ⟨⟨16, rfl, .inr ((hb 16).trans (hdep 8 (by decide)))⟩, rfl⟩
    · intro x w1 bA hT hdep hold hb
      exact .inr ⟨⟨13, rfl, .inl ((hb 13).trans (hdep 5 (by decide)))⟩, rfl⟩
    · intro x w1 bA hT hdep hold hb
      refine .inl ⟨trivial, ?_⟩
      have e13 : bA.tmps[13]?.getD undef = .bool false := (hb 13).trans (hdep 5 (by decide))
      refine phx_run (.bool false) ?_ (Below.refl _ _) rfl
      clear hb hdep hold
      go_simp
    · intro x w1 bA hT hdep hold hb
      refine .inl ⟨trivial, ?_⟩
      have e20 : bA.tmps[20]?.getD undef = .bool false := (hb 20).trans (hdep 12 (by decide))
      refine phx_run (.bool false) ?_ (Below.refl _ _) rfl
      clear hb hdep hold
      go_simp
    intro x w1 hT hall
    have x0e : x 0 = .agg #[.bool b1, .slice A n c] := hall 0 (by decide)
    have x1e : x 1 = .int .i64 lo := hall 1 (by decide)
    have x2e : x 2 = .agg #[.bool b1, .slice A n c] := hall 2 (by decide)
    have x3e : x 3 = .int .i64 hi := hall 3 (by decide)
    have x4e : x 4 = .bool false := hall 4 (by decide)
    have x5e : x 5 = .bool false := hall 5 (by decide)
    have x6e : x 6 = undef := hall 6 (by decide)
    have x7e : x 7 = undef := hall 7 (by decide)
    have x8e : x 8 = undef := hall 8 (by decide)
    have x9e : x 9 = undef := hall 9 (by decide)
    have x10e : x 10 = undef := hall 10 (by decide)
    have x11e : x 11 = undef := hall 11 (by decide)
    have x12e : x 12 = .bool false := hall 12 (by decide)
    have x13e : x 13 = .bool false := hall 13 (by decide)
    simp only [putAll, dstOf, Act.put, List.map_cons, List.map_nil, List.setIfInBounds_toArray, List.set_cons_succ, List.set_cons_zero, Nat.reduceAdd, x0e, x1e, x2e, x3e, x4e, x5e, x6e, x7e, x8e, x9e, x10e, x11e, x12e, x13e]
    clear x0e x1e x2e x3e x4e x5e x6e x7e x8e x9e x10e x11e x12e x13e hall
    have HB4 := Lib.hid (HB3.out.trans (hT.mono HB3.out.size))
    clear hT
    go_wp2_with fail
    go_ret
    exact ⟨by rw [HU.out]; rfl, HB4.out⟩
  replace h1 : lo = hi := Decidable.not_not.1 h1
  have HZ := Lib.hid (show (lo == hi) = true from beq_iff_eq.2 h1)
  by_cases h2 : cv0 = 1
  · have HZ1 := Lib.hid (show (cv0 == 1) = true from beq_iff_eq.2 h2)
    have HU := Lib.hid (show U = true from by rw [HU0.out]; exact decide_eq_true ⟨h1, .inl h2⟩)
    clear h1 h2
    go_enter Tryz.func21, Tryz.ntmps21
    go_upto_region 1 with fail
    generalize w.alloc (.cells #[.bool b1, .slice A n c] 34) = w3 at hW ⊢
    obtain ⟨q1, hb3⟩ := hW w3 rfl
    have Q1 := Lib.hid q1
    have HB3 := Lib.hid hb3
    clear hW q1 hb3
    refine wp_region_phy (fun a b => Below a.heap.size a b) (fun h k => h.trans (k.mono h.size)) ((Below.refl _ _).drew) (by kernel_rfl) (by kernel_rfl) (by kernel_rfl) (by kernel_rfl) (phiT (fun i => ([some (.agg #[.bool b1, .slice A n c]), some (.agg #[.bool b1, .slice A n c]), some (.int .i64 lo), some (.int .i64 cv0), some (.int .i64 cv0)] : List (Option Value)).getD i none) (fun i v w => True)) (fun i v w w' h hb => ?_) ⟨?_, ?_, ?_, ?_, ?_, trivial⟩ ?_
    · unfold phiT at h ⊢
      split
      · next u hu => rw [hu] at h; exact h
      · next hu =>
        rw [hu] at h
        exact True.intro
    · intro x w1 bA hT hdep hold hb
      refine .inl ⟨trivial, ?_⟩
      have e1 : bA.tmps[1]?.getD undef = .pointer (some ⟨w.heap.size, 0, none⟩) := hb 1
      have cc0 := (Q1.out.below hT Q1.out.lt).cell 0
      have cc1 := (Q1.out.below hT Q1.out.lt).cell 1
      refine phx_run (.agg #[.bool b1, .slice A n c]) ?_ (Below.refl _ _) rfl
      clear hb hdep hold
      go_simp
    · intro x w1 bA hT hdep hold hb
      refine .inl ⟨trivial, ?_⟩
      have e1 : bA.tmps[1]?.getD undef = .pointer (some ⟨w.heap.size, 0, none⟩) := hb 1
      have cc0 := (Q1.out.below hT Q1.out.lt).cell 0
      have cc1 := (Q1.out.below hT Q1.out.lt).cell 1
      refine phx_run (.agg #[.bool b1, .slice A n c]) ?_ (Below.refl _ _) rfl
      clear hb hdep hold
      go_simp
    · intro x w1 bA hT hdep hold hb
      refine .inl ⟨trivial, ?_⟩
      have e5 : bA.tmps[5]?.getD undef = .agg #[.bool b1, .slice A n c] := (hb 5).trans (hdep 1 (by decide))
      refine phx_call ?_ ((HLO.out w1 (HB3.out.trans (hT.mono HB3.out.size))).mono fun e w' h => ⟨_, h.1, h.2, rfl⟩)
      clear hb hdep hold
      go_simp
    · intro x w1 bA hT hdep hold hb
      refine .inl ⟨trivial, ?_⟩
      have e4 : bA.tmps[4]?.getD undef = .agg #[.bool b1, .slice A n c] := (hb 4).trans (hdep 0 (by decide))
      have e6 : bA.tmps[6]?.getD undef = .int .i64 lo := (hb 6).trans (hdep 2 (by decide))
      refine phx_call ?_ ((HCO.out w1 (HB3.out.trans (hT.mono HB3.out.size))).mono fun e w' h => ⟨_, h.1, h.2, rfl⟩)
      clear hb hdep hold
      go_simp
    · intro x w1 bA hT hdep hold hb
      refine .inl ⟨trivial, ?_⟩
      have e7 : bA.tmps[7]?.getD undef = .int .i64 cv0 := (hb 7).trans (hdep 3 (by decide))
      refine phx_run (.int .i64 cv0) ?_ (Below.refl _ _) rfl
      clear hb hdep hold
      go_simp
    intro x w1 hT hall
    have x0e : x 0 = .agg #[.bool b1, .slice A n c] := hall 0 (by decide)
    have x1e : x 1 = .agg #[.bool b1, .slice A n c] := hall 1 (by decide)
    have x2e : x 2 = .int .i64 lo := hall 2 (by decide)
    have x3e : x 3 = .int .i64 cv0 := hall 3 (by decide)
    have x4e : x 4 = .int .i64 cv0 := hall 4 (by decide)
    simp only [putAll, dstOf, Act.put, List.map_cons, List.map_nil, List.setIfInBounds_toArray, List.set_cons_succ, List.set_cons_zero, Nat.reduceAdd, x0e, x1e, x2e, x3e, x4e]
    clear x0e x1e x2e x3e x4e hall
    have Q2 := Lib.hid (Q1.out.below hT Q1.out.lt)
    have HB4 := Lib.hid (HB3.out.trans (hT.mono HB3.out.size))
    clear Q1 HB3 hT
    generalize w1 = w4 at *
    have Q1 := Lib.hid Q2.out
    have HB3 := Lib.hid HB4.out
    clear Q2 HB4
    go_wp2_with fail
    refine wp_region_phy (fun a b => Below a.heap.size a b) (fun h k => h.trans (k.mono h.size)) ((Below.refl _ _).drew) (by kernel_rfl) (by kernel_rfl) (by kernel_rfl) (by kernel_rfl) (phiT (fun i => ([some (.agg #[.bool b1, .slice A n c]), some (.int .i64 lo), some (.agg #[.bool b1, .slice A n c]), some (.int .i64 hi), some (.bool true), some (.bool true), some (.int .i64 cv0), some (.bool true), some (.bool true), some (undef), some (undef), some (.bool true), some (.bool true), some (.bool true)] : List (Option Value)).getD i none) (fun i v w => True)) (fun i v w w' h hb => ?_) ⟨?_, ?_, ?_, ?_, ?_, ?_, ?_, ?_, ?_, ?_, ?_, ?_, ?_, ?_, trivial⟩ ?_
    · unfold phiT at h ⊢
      split
      · next u hu => rw [hu] at h; exact h
      · next hu =>
        rw [hu] at h
        exact True.intro
    · intro x w1 bA hT hdep hold hb
      refine .inl ⟨trivial, ?_⟩
      have e1 : bA.tmps[1]?.getD undef = .pointer (some ⟨w.heap.size, 0, none⟩) := hb 1
      have cc0 := (Q1.out.below hT Q1.out.lt).cell 0
      have cc1 := (Q1.out.below hT Q1.out.lt).cell 1
      refine phx_run (.agg #[.bool b1, .slice A n c]) ?_ (Below.refl _ _) rfl
      clear hb hdep hold
      go_simp
    · intro x w1 bA hT hdep hold hb
      refine .inl ⟨trivial, ?_⟩
      have e8 : bA.tmps[8]?.getD undef = .agg #[.bool b1, .slice A n c] := (hb 8).trans (hdep 0 (by decide))
      refine phx_call ?_ ((HLO.out w1 (HB3.out.trans (hT.mono HB3.out.size))).mono fun e w' h => ⟨_, h.1, h.2, rfl⟩)
      clear hb hdep hold
      go_simp
    · intro x w1 bA hT hdep hold hb
      refine .inl ⟨trivial, ?_⟩
      have e1 : bA.tmps[1]?.getD undef = .pointer (some ⟨w.heap.size, 0, none⟩) := hb 1
      have cc0 := (Q1.out.below hT Q1.out.lt).cell 0
      have cc1 := (Q1.out.below hT Q1.out.lt).cell 1
      refine phx_run (.agg #[.bool b1, .slice A n c]) ?_ (Below.refl _ _) rfl
      clear hb hdep hold
      go_simp
    · intro x w1 bA hT hdep hold hb
      refine .inl ⟨trivial, ?_⟩
      have e10 : bA.tmps[10]?.getD undef = .agg #[.bool b1, .slice A n c] := (hb 10).trans (hdep 2 (by decide))
      refine phx_call ?_ ((HHI.out w1 (HB3.out.trans (hT.mono HB3.out.size))).mono fun e w' h => ⟨_, h.1, h.2, rfl⟩)
      clear hb hdep hold
      go_simp
    · intro x w1 bA hT hdep hold hb
      refine .inl ⟨trivial, ?_⟩
      have e9 : bA.tmps[9]?.getD undef = .int .i64 lo := (hb 9).trans (hdep 1 (by decide))
      have e11 : bA.tmps[11]?.getD undef = .int .i64 hi := (hb 11).trans (hdep 3 (by decide))
      have zz := HZ.out
      refine phx_run (.bool true) ?_ (Below.refl _ _) rfl
      clear hb hdep hold
      go_simp
    · intro x w1 bA hT hdep hold hb
      refine .inl ⟨trivial, ?_⟩
      have e12 : bA.tmps[12]?.getD undef = .bool true := (hb 12).trans (hdep 4 (by decide))
      refine phx_run (.bool true) ?_ (Below.refl _ _) rfl
      clear hb hdep hold
      go_simp
    · intro x w1 bA hT hdep hold hb
      refine .inl ⟨⟨13, rfl, (hb 13).trans (hdep 5 (by decide))⟩, ?_⟩
      have e3 : bA.tmps[3]?.getD undef = .int .i64 cv0 := hb 3
      refine phx_run (.int .i64 cv0) ?_ (Below.refl _ _) rfl
      clear hb hdep hold
      go_simp
    · intro x w1 bA hT hdep hold hb
      refine .inl ⟨⟨13, rfl, (hb 13).trans (hdep 5 (by decide))⟩, ?_⟩
      have e14 : bA.tmps[14]?.getD undef = .int .i64 cv0 := (hb 14).trans (hdep 6 (by decide))
      have zz := HZ1.out
      refine phx_run (.bool true) ?_ (Below.refl _ _) rfl
      clear hb hdep hold
      go_simp
    · intro x w1 bA hT hdep hold hb
      refine .inl ⟨⟨13, rfl, (hb 13).trans (hdep 5 (by decide))⟩, ?_⟩
      have e15 : bA.tmps[15]?.getD undef = .bool true := (hb 15).trans (hdep 7 (by decide))
      refine phx_run (.bool true) ?_ (Below.refl _ _) rfl
      clear hb hdep hold
      go_simp
    · intro x w1 bA hT hdep hold hb
      exact .inr ⟨⟨16, rfl, .inl ((hb 16).trans (hdep 8 (by decide)))⟩, rfl⟩
    · intro x w1 bA hT hdep hold hb
      exact .inr ⟨⟨16, rfl, .inl ((hb 16).trans (hdep 8 (by decide)))⟩, rfl⟩
    · intro x w1 bA hT hdep hold hb
      refine .inl ⟨⟨13, rfl, (hb 13).trans (hdep 5 (by decide))⟩, ?_⟩
      have e16 : bA.tmps[16]?.getD undef = .bool true := (hb 16).trans (hdep 8 (by decide))
      refine phx_run (.bool true) ?_ (Below.refl _ _) rfl
      clear hb hdep hold
      go_simp
    · intro x w1 bA hT hdep hold hb
      refine .inl ⟨trivial, ?_⟩
      have e13 : bA.tmps[13]?.getD undef = .bool true := (hb 13).trans (hdep 5 (by decide))
      have e19 : bA.tmps[19]?.getD undef = .bool true := (hb 19).trans (hdep 11 (by decide))
      refine phx_run (.bool true) ?_ (Below.refl _ _) rfl
      clear hb hdep hold
      go_simp
    · intro x w1 bA hT hdep hold hb
      refine .inl ⟨trivial, ?_⟩
      have e20 : bA.tmps[20]?.getD undef = .bool true := (hb 20).trans (hdep 12 (by decide))
      refine phx_run (.bool true) ?_ (Below.refl _ _) rfl
      clear hb hdep hold
      go_simp
    intro x w1 hT hall
    have x0e : x 0 = .agg #[.bool b1, .slice A n c] := hall 0 (by decide)
    have x1e : x 1 = .int .i64 lo := hall 1 (by decide)
    have x2e : x 2 = .agg #[.bool b1, .slice A n c] := hall 2 (by decide)
    have x3e : x 3 = .int .i64 hi := hall 3 (by decide)
    have x4e : x 4 = .bool true := hall 4 (by decide)
    have x5e : x 5 = .bool true := hall 5 (by decide)
    have x6e : x 6 = .int .i64 cv0 := hall 6 (by decide)
    have x7e : x 7 = .bool true := hall 7 (by decide)
    have x8e : x 8 = .bool true := hall 8 (by decide)
    have x9e : x 9 = undef := hall 9 (by decide)
    have x10e : x 10 = undef := hall 10 (by decide)
    have x11e : x 11 = .bool true := hall 11 (by decide)
    have x12e : x 12 = .bool true := hall 12 (by decide)
    have x13e : x 13 = .bool true := hall 13 (by decide)
    simp only [putAll, dstOf, Act.put, List.map_cons, List.map_nil, List.setIfInBounds_toArray, List.set_cons_succ, List.set_cons_zero, Nat.reduceAdd, x0e, x1e, x2e, x3e, x4e, x5e, x6e, x7e, x8e, x9e, x10e, x11e, x12e, x13e]
    clear x0e x1e x2e x3e x4e x5e x6e x7e x8e x9e x10e x11e x12e x13e hall
    have HB4 := Lib.hid (HB3.out.trans (hT.mono HB3.out.size))
    clear hT
    go_wp2_with fail
    go_ret
    exact ⟨by rw [HU.out]; rfl, HB4.out⟩
  have HZ1 := Lib.hid (show (cv0 == 1) = false from beq_eq_false_iff_ne.2 h2)
  by_cases h3 : cv0 = -1
  · have HZ2 := Lib.hid (show (cv0 == -1) = true from beq_iff_eq.2 h3)
    have HU := Lib.hid (show U = true from by rw [HU0.out]; exact decide_eq_true ⟨h1, .inr h3⟩)
    clear h1 h2 h3
    go_enter Tryz.func21, Tryz.ntmps21
    go_upto_region 1 with fail
    generalize w.alloc (.cells #[.bool b1, .slice A n c] 34) = w3 at hW ⊢
    obtain ⟨q1, hb3⟩ := hW w3 rfl
    have Q1 := Lib.hid q1
    have HB3 := Lib.hid hb3
    clear hW q1 hb3
    refine wp_region_phy (fun a b => Below a.heap.size a b) (fun h k => h.trans (k.mono h.size)) ((Below.refl _ _).drew) (by kernel_rfl) (by kernel_rfl) (by kernel_rfl) (by kernel_rfl) (phiT (fun i => ([some (.agg #[.bool b1, .slice A n c]), some (.agg #[.bool b1, .slice A n c]), some (.int .i64 lo), some (.int .i64 cv0), some (.int .i64 cv0)] : List (Option Value)).getD i none) (fun i v w => True)) (fun i v w w' h hb => ?_) ⟨?_, ?_, ?_, ?_, ?_, trivial⟩ ?_
    · unfold phiT at h ⊢
      split
      · next u hu => rw [hu] at h; exact h
      · next hu =>
        rw [hu] at h
        exact True.intro
    · intro x w1 bA hT hdep hold hb
      refine .inl ⟨trivial, ?_⟩
      have e1 : bA.tmps[1]?.getD undef = .pointer (some ⟨w.heap.size, 0, none⟩) := hb 1
      have cc0 := (Q1.out.below hT Q1.out.lt).cell 0
      have cc1 := (Q1.out.below hT Q1.out.lt).cell 1
      refine phx_run (.agg #[.bool b1, .slice A n c]) ?_ (Below.refl _ _) rfl
      clear hb hdep hold
      go_simp
    · intro x w1 bA hT hdep hold hb
      refine .inl ⟨trivial, ?_⟩
      have e1 : bA.tmps[1]?.getD undef = .pointer (some ⟨w.heap.size, 0, none⟩) := hb 1
      have cc0 := (Q1.out.below hT Q1.out.lt).cell 0
      have cc1 := (Q1.out.below hT Q1.out.lt).cell 1
      refine phx_run (.agg #[.bool b1, .slice A n c]) ?_ (Below.refl _ _) rfl
      clear hb hdep hold
      go_simp
    · intro x w1 bA hT hdep hold hb
      refine .inl ⟨trivial, ?_⟩
      have e5 : bA.tmps[5]?.getD undef = .agg #[.bool b1, .slice A n c] := (hb 5).trans (hdep 1 (by decide))
      refine phx_call ?_ ((HLO.out w1 (HB3.out.trans (hT.mono HB3.out.size))).mono fun e w' h => ⟨_, h.1, h.2, rfl⟩)
      clear hb hdep hold
      go_simp
    · intro x w1 bA hT hdep hold hb
      refine .inl ⟨trivial, ?_⟩
      have e4 : bA.tmps[4]?.getD undef = .agg #[.bool b1, .slice A n c] := (hb 4).trans (hdep 0 (by decide))
      have e6 : bA.tmps[6]?.getD undef = .int .i64 lo := (hb 6).trans (hdep 2 (by decide))
      refine phx_call ?_ ((HCO.out w1 (HB3.out.trans (hT.mono HB3.out.size))).mono fun e w' h => ⟨_, h.1, h.2, rfl⟩)
      clear hb hdep hold
      go_simp
    · intro x w1 bA hT hdep hold hb
      refine .inl ⟨trivial, ?_⟩
      have e7 : bA.tmps[7]?.getD undef = .int .i64 cv0 := (hb 7).trans (hdep 3 (by decide))
      refine phx_run (.int .i64 cv0) ?_ (Below.refl _ _) rfl
      clear hb hdep hold
      go_simp
    intro x w1 hT hall
    have x0e : x 0 = .agg #[.bool b1, .slice A n c] := hall 0 (by decide)
    have x1e : x 1 = .agg #[.bool b1, .slice A n c] := hall 1 (by decide)
    have x2e : x 2 = .int .i64 lo := hall 2 (by decide)
    have x3e : x 3 = .int .i64 cv0 := hall 3 (by decide)
    have x4e : x 4 = .int .i64 cv0 := hall 4 (by decide)
    simp only [putAll, dstOf, Act.put, List.map_cons, List.map_nil, List.setIfInBounds_toArray, List.set_cons_succ, List.set_cons_zero, Nat.reduceAdd, x0e, x1e, x2e, x3e, x4e]
    clear x0e x1e x2e x3e x4e hall
    have Q2 := Lib.hid (Q1.out.below hT Q1.out.lt)
    have HB4 := Lib.hid (HB3.out.trans (hT.mono HB3.out.size))
    clear Q1 HB3 hT
    generalize w1 = w4 at *
    have Q1 := Lib.hid Q2.out
    have HB3 := Lib.hid HB4.out
    clear Q2 HB4
    go_wp2_with fail
    refine wp_region_phy (fun a b => Below a.heap.size a b) (fun h k => h.trans (k.mono h.size)) ((Below.refl _ _).drew) (by kernel_rfl) (by kernel_rfl) (by kernel_rfl) (by kernel_rfl) (phiT (fun i => ([some (.agg #[.bool b1, .slice A n c]), some (.int .i64 lo), some (.agg #[.bool b1, .slice A n c]), some (.int .i64 hi), some (.bool true), some (.bool true), some (.int .i64 cv0), some (.bool false), some (.bool false), some (.int .i64 cv0), some (.bool true), some (.bool true), some (.bool true), some (.bool true)] : List (Option Value)).getD i none) (fun i v w => True)) (fun i v w w' h hb => ?_) ⟨?_, ?_, ?_, ?_, ?_, ?_, ?_, ?_, ?_, ?_, ?_, ?_, ?_, ?_, trivial⟩ ?_
    · unfold phiT at h ⊢
      split
      · next u hu => rw [hu] at h; exact h
      · next hu =>
        rw [hu] at h
        exact True.intro
    · intro x w1 bA hT hdep hold hb
      refine .inl ⟨trivial, ?_⟩
      have e1 : bA.tmps[1]?.getD undef = .pointer (some ⟨w.heap.size, 0, none⟩) := hb 1
      have cc0 := (Q1.out.below hT Q1.out.lt).cell 0
      have cc1 := (Q1.out.below hT Q1.out.lt).cell 1
      refine phx_run (.agg #[.bool b1, .slice A n c]) ?_ (Below.refl _ _) rfl
      clear hb hdep hold
      go_simp
    · intro x w1 bA hT hdep hold hb
      refine .inl ⟨trivial, ?_⟩
      have e8 : bA.tmps[8]?.getD undef = .agg #[.bool b1, .slice A n c] := (hb 8).trans (hdep 0 (by decide))
      refine phx_call ?_ ((HLO.out w1 (HB3.out.trans (hT.mono HB3.out.size))).mono fun e w' h => ⟨_, h.1, h.2, rfl⟩)
      clear hb hdep hold
      go_simp
    · intro x w1 bA hT hdep hold hb
      refine .inl ⟨trivial, ?_⟩
      have e1 : bA.tmps[1]?.getD undef = .pointer (some ⟨w.heap.size, 0, none⟩) := hb 1
      have cc0 := (Q1.out.below hT Q1.out.lt).cell 0
      have cc1 := (Q1.out.below hT Q1.out.lt).cell 1
      refine phx_run (.agg #[.bool b1, .slice A n c]) ?_ (Below.refl _ _) rfl
      clear hb hdep hold
      go_simp
    · intro x w1 bA hT hdep hold hb
      refine .inl ⟨trivial, ?_⟩
      have e10 : bA.tmps[10]?.getD undef = .agg #[.bool b1, .slice A n c] := (hb 10).trans (hdep 2 (by decide))
      refine phx_call ?_ ((HHI.out w1 (HB3.out.trans (hT.mono HB3.out.size))).mono fun e w' h => ⟨_, h.1, h.2, rfl⟩)
      clear hb hdep hold
      go_simp
    · intro x w1 bA hT hdep hold hb
      refine .inl ⟨trivial, ?_⟩
      have e9 : bA.tmps[9]?.getD undef = .int .i64 lo := (hb 9).trans (hdep 1 (by decide))
      have e11 : bA.tmps[11]?.getD undef = .int .i64 hi := (hb 11).trans (hdep 3 (by decide))
      have zz := HZ.out
      refine phx_run (.bool true) ?_ (Below.refl _ _) rfl
      clear hb hdep hold
      go_simp
    · intro x w1 bA hT hdep hold hb
      refine .inl ⟨trivial, ?_⟩
      have e12 : bA.tmps[12]?.getD undef = .bool true := (hb 12).trans (hdep 4 (by decide))
      refine phx_run (.bool true) ?_ (Below.refl _ _) rfl
      clear hb hdep hold
      go_simp
    · intro x w1 bA hT hdep hold hb
      refine .inl ⟨⟨13, rfl, (hb 13).trans (hdep 5 (by decide))⟩, ?_⟩
      have e3 : bA.tmps[3]?.getD undef = .int .i64 cv0 := hb 3
      refine phx_run (.int .i64 cv0) ?_ (Below.refl _ _) rfl
      clear hb hdep hold
      go_simp
    · intro x w1 bA hT hdep hold hb
      refine .inl ⟨⟨13, rfl, (hb 13).trans (hdep 5 (by decide))⟩, ?_⟩
      have e14 : bA.tmps[14]?.getD undef = .int .i64 cv0 := (hb 14).trans (hdep 6 (by decide))
      have zz := HZ1.out
      refine phx_run (.bool false) ?_ (Below.refl _ _) rfl
      clear hb hdep hold
      go_simp
    · intro x w1 bA hT hdep hold hb
      refine .inl ⟨⟨13, rfl, (hb 13).trans (hdep 5 (by decide))⟩, ?_⟩
      have e15 : bA.tmps[15]?.getD undef = .bool false := (hb 15).trans (hdep 7 (by decide))
      refine phx_run (.bool false) ?_ (Below.refl _ _) rfl
      clear hb hdep hold
      go_simp
    · intro x w1 bA hT hdep hold hb
      refine .inl ⟨⟨16, rfl, (hb 16).trans (hdep 8 (by decide))⟩, ?_⟩
      have e3 : bA.tmps[3]?.getD undef = .int .i64 cv0 := hb 3
      refine phx_run (.int .i64 cv0) ?_ (Below.refl _ _) rfl
      clear hb hdep hold
      go_simp
    · intro x w1 bA hT hdep hold hb
      refine .inl ⟨⟨16, rfl, (hb 16).trans (hdep 8 (by decide))⟩, ?_⟩
      have e17 : bA.tmps[17]?.getD undef = .int .i64 cv0 := (hb 17).trans (hdep 9 (by decide))
      have zz := HZ2.out
      refine phx_run (.bool true) ?_ (Below.refl _ _) rfl
      clear hb hdep hold
      go_simp
    · intro x w1 bA hT hdep hold hb
      refine .inl ⟨⟨13, rfl, (hb 13).trans (hdep 5 (by decide))⟩, ?_⟩
      have e16 : bA.tmps[16]?.getD undef = .bool false := (hb 16).trans (hdep 8 (by decide))
      have e18 : bA.tmps[18]?.getD undef = .bool true := (hb 18).trans (hdep 10 (by decide))
      refine phx_run (.bool true) ?_ (Below.refl _ _) rfl
      clear hb hdep hold
      go_simp
    · intro x w1 bA hT hdep hold hb
      refine .inl ⟨trivial, ?_⟩
      have e13 : bA.tmps[13]?.getD undef = .bool true := (hb 13).trans (hdep 5 (by decide))
      have e19 : bA.tmps[19]?.getD undef = .bool true := (hb 19).trans (hdep 11 (by decide))
      refine phx_run (.bool true) ?_ (Below.refl _ _) rfl
      clear hb hdep hold
      go_simp
    · intro x w1 bA hT hdep hold hb
      refine .inl ⟨trivial, ?_⟩
      have e20 : bA.tmps[20]?.getD undef = .bool true := (hb 20).trans (hdep 12 (by decide))
      refine phx_run (.bool true) ?_ (Below.refl _ _) rfl
      clear hb hdep hold
      go_simp
    intro x w1 hT hall
    have x0e : x 0 = .agg #[.bool b1, .slice A n c] := hall 0 (by decide)
    have x1e : x 1 = .int .i64 lo := hall 1 (by decide)
    have x2e : x 2 = .agg #[.bool b1, .slice A n c] := hall 2 (by decide)
    have x3e : x 3 = .int .i64 hi := hall 3 (by decide)
    have x4e : x 4 = .bool true := hall 4 (by decide)
    have x5e : x 5 = .bool true := hall 5 (by decide)
    have x6e : x 6 = .int .i64 cv0 := hall 6 (by decide)
    have x7e : x 7 = .bool false := hall 7 (by decide)
    have x8e : x 8 = .bool false := hall 8 (by decide)
    have x9e : x 9 = .int .i64 cv0 := hall 9 (by decide)
    have x10e : x 10 = .bool true := hall 10 (by decide)
    have x11e : x 11 = .bool true := hall 11 (by decide)
    have x12e : x 12 = .bool true := hall 12 (by decide)
    have x13e : x 13 = .bool true := hall 13 (by decide)
    simp only [putAll, dstOf, Act.put, List.map_cons, List.map_nil, List.setIfInBounds_toArray, List.set_cons_succ, List.set_cons_zero, Nat.reduceAdd, x0e, x1e, x2e, x3e, x4e, x5e, x6e, x7e, x8e, x9e, x10e, x11e, x12e, x13e]
    clear x0e x1e x2e x3e x4e x5e x6e x7e x8e x9e x10e x11e x12e x13e hall
    have HB4 := Lib.hid (HB3.out.trans (hT.mono HB3.out.size))
    clear hT
    go_wp2_with fail
    go_ret
    exact ⟨by rw [HU.out]; rfl, HB4.out⟩
  · have HZ2 := Lib.hid (show (cv0 == -1) = false from beq_eq_false_iff_ne.2 h3)
    have HU := Lib.hid (show U = false from by rw [HU0.out]; exact decide_eq_false fun h => h.2.elim h2 h3)
    clear h1 h2 h3
    go_enter Tryz.func21, Tryz.ntmps21
    go_upto_region 1 with fail
    generalize w.alloc (.cells #[.bool b1, .slice A n c] 34) = w3 at hW ⊢
    obtain ⟨q1, hb3⟩ := hW w3 rfl
    have Q1 := Lib.hid q1
    have HB3 := Lib.hid hb3
    clear hW q1 hb3
    refine wp_region_phy (fun a b => Below a.heap.size a b) (fun h k => h.trans (k.mono h.size)) ((Below.refl _ _).drew) (by kernel_rfl) (by kernel_rfl) (by kernel_rfl) (by kernel_rfl) (phiT (fun i => ([some (.agg #[.bool b1, .slice A n c]), some (.agg #[.bool b1, .slice A n c]), some (.int .i64 lo), some (.int .i64 cv0), some (.int .i64 cv0)] : List (Option Value)).getD i none) (fun i v w => True)) (fun i v w w' h hb => ?_) ⟨?_, ?_, ?_, ?_, ?_, trivial⟩ ?_
    · unfold phiT at h ⊢
      split
      · next u hu => rw [hu] at h; exact h
      · next hu =>
        rw [hu] at h
        exact True.intro
    · intro x w1 bA hT hdep hold hb
      refine .inl ⟨trivial, ?_⟩
      have e1 : bA.tmps[1]?.getD undef = .pointer (some ⟨w.heap.size, 0, none⟩) := hb 1
      have cc0 := (Q1.out.below hT Q1.out.lt).cell 0
      have cc1 := (Q1.out.below hT Q1.out.lt).cell 1
      refine phx_run (.agg #[.bool b1, .slice A n c]) ?_ (Below.refl _ _) rfl
      clear hb hdep hold
      go_simp
    · intro x w1 bA hT hdep hold hb
      refine .inl ⟨trivial, ?_⟩
      have e1 : bA.tmps[1]?.getD undef = .pointer (some ⟨w.heap.size, 0, none⟩) := hb 1
      have cc0 := (Q1.out.below hT Q1.out.lt).cell 0
      have cc1 := (Q1.out.below hT Q1.out.lt).cell 1
      refine phx_run (.agg #[.bool b1, .slice A n c]) ?_ (Below.refl _ _) rfl
      clear hb hdep hold
      go_simp
    · intro x w1 bA hT hdep hold hb
      refine .inl ⟨trivial, ?_⟩
      have e5 : bA.tmps[5]?.getD undef = .agg #[.bool b1, .slice A n c] := (hb 5).trans (hdep 1 (by decide))
      refine phx_call ?_ ((HLO.out w1 (HB3.out.trans (hT.mono HB3.out.size))).mono fun e w' h => ⟨_, h.1, h.2, rfl⟩)
      clear hb hdep hold
      go_simp
    · intro x w1 bA hT hdep hold hb
      refine .inl ⟨trivial, ?_⟩
      have e4 : bA.tmps[4]?.getD undef = .agg #[.bool b1, .slice A n c] := (hb 4).trans (hdep 0 (by decide))
      have e6 : bA.tmps[6]?.getD undef = .int .i64 lo := (hb 6).trans (hdep 2 (by decide))
      refine phx_call ?_ ((HCO.out w1 (HB3.out.trans (hT.mono HB3.out.size))).mono fun e w' h => ⟨_, h.1, h.2, rfl⟩)
      clear hb hdep hold
      go_simp
    · intro x w1 bA hT hdep hold hb
      refine .inl ⟨trivial, ?_⟩
      have e7 : bA.tmps[7]?.getD undef = .int .i64 cv0 := (hb 7).trans (hdep 3 (by decide))
      refine phx_run (.int .i64 cv0) ?_ (Below.refl _ _) rfl
      clear hb hdep hold
      go_simp
    intro x w1 hT hall
    have x0e : x 0 = .agg #[.bool b1, .slice A n c] := hall 0 (by decide)
    have x1e : x 1 = .agg #[.bool b1, .slice A n c] := hall 1 (by decide)
    have x2e : x 2 = .int .i64 lo := hall 2 (by decide)
    have x3e : x 3 = .int .i64 cv0 := hall 3 (by decide)
    have x4e : x 4 = .int .i64 cv0 := hall 4 (by decide)
    simp only [putAll, dstOf, Act.put, List.map_cons, List.map_nil, List.setIfInBounds_toArray, List.set_cons_succ, List.set_cons_zero, Nat.reduceAdd, x0e, x1e, x2e, x3e, x4e]
    clear x0e x1e x2e x3e x4e hall
    have Q2 := Lib.hid (Q1.out.below hT Q1.out.lt)
    have HB4 := Lib.hid (HB3.out.trans (hT.mono HB3.out.size))
    clear Q1 HB3 hT
    generalize w1 = w4 at *
    have Q1 := Lib.hid Q2.out
    have HB3 := Lib.hid HB4.out
    clear Q2 HB4
    go_wp2_with fail
    refine wp_region_phy (fun a b => Below a.heap.size a b) (fun h k => h.trans (k.mono h.size)) ((Below.refl _ _).drew) (by kernel_rfl) (by kernel_rfl) (by kernel_rfl) (by kernel_rfl) (phiT (fun i => ([some (.agg #[.bool b1, .slice A n c]), some (.int .i64 lo), some (.agg #[.bool b1, .slice A n c]), some (.int .i64 hi), some (.bool true), some (.bool true), some (.int .i64 cv0), some (.bool false), some (.bool false), some (.int .i64 cv0), some (.bool false), some (.bool false), some (.bool false), some (.bool false)] : List (Option Value)).getD i none) (fun i v w => True)) (fun i v w w' h hb => ?_) ⟨?_, ?_, ?_, ?_, ?_, ?_, ?_, ?_, ?_, ?_, ?_, ?_, ?_, ?_, trivial⟩ ?_
    · unfold phiT at h ⊢
      split
      · next u hu => rw [hu] at h; exact h
      · next hu =>
        rw [hu] at h
        exact True.intro
    · intro x w1 bA hT hdep hold hb
      refine .inl ⟨trivial, ?_⟩
      have e1 : bA.tmps[1]?.getD undef = .pointer (some ⟨w.heap.size, 0, none⟩) := hb 1
      have cc0 := (Q1.out.below hT Q1.out.lt).cell 0
      have cc1 := (Q1.out.below hT Q1.out.lt).cell 1
      refine phx_run (.agg #[.bool b1, .slice A n c]) ?_ (Below.refl _ _) rfl
      clear hb hdep hold
      go_simp
    · intro x w1 bA hT hdep hold hb
      refine .inl ⟨trivial, ?_⟩
      have e8 : bA.tmps[8]?.getD undef = .agg #[.bool b1, .slice A n c] := (hb 8).trans (hdep 0 (by decide))
      refine phx_call ?_ ((HLO.out w1 (HB3.out.trans (hT.mono HB3.out.size))).mono fun e w' h => ⟨_, h.1, h.2, rfl⟩)
      clear hb hdep hold
      go_simp
    · intro x w1 bA hT hdep hold hb
      refine .inl ⟨trivial, ?_⟩
      have e1 : bA.tmps[1]?.getD undef = .pointer (some ⟨w.heap.size, 0, none⟩) := hb 1
      have cc0 := (Q1.out.below hT Q1.out.lt).cell 0
      have cc1 := (Q1.out.below hT Q1.out.lt).cell 1
      refine phx_run (.agg #[.bool b1, .slice A n c]) ?_ (Below.refl _ _) rfl
      clear hb hdep hold
      go_simp
    · intro x w1 bA hT hdep hold hb
      refine .inl ⟨trivial, ?_⟩
      have e10 : bA.tmps[10]?.getD undef = .agg #[.bool b1, .slice A n c] := (hb 10).trans (hdep 2 (by decide))
      refine phx_call ?_ ((HHI.out w1 (HB3.out.trans (hT.mono HB3.out.size))).mono fun e w' h => ⟨_, h.1, h.2, rfl⟩)
      clear hb hdep hold
      go_simp
    · intro x w1 bA hT hdep hold hb
      refine .inl ⟨trivial, ?_⟩
      have e9 : bA.tmps[9]?.getD undef = .int .i64 lo := (hb 9).trans (hdep 1 (by decide))
      have e11 : bA.tmps[11]?.getD undef = .int .i64 hi := (hb 11).trans (hdep 3 (by decide))
      have zz := HZ.out
      refine phx_run (.bool true) ?_ (Below.refl _ _) rfl
      clear hb hdep hold
      go_simp
    · intro x w1 bA hT hdep hold hb
      refine .inl ⟨trivial, ?_⟩
      have e12 : bA.tmps[12]?.getD undef = .bool true := (hb 12).trans (hdep 4 (by decide))
      refine phx_run (.bool true) ?_ (Below.refl _ _) rfl
      clear hb hdep hold
      go_simp
    · intro x w1 bA hT hdep hold hb
      refine .inl ⟨⟨13, rfl, (hb 13).trans (hdep 5 (by decide))⟩, ?_⟩
      have e3 : bA.tmps[3]?.getD undef = .int .i64 cv0 := hb 3
      refine phx_run (.int .i64 cv0) ?_ (Below.refl _ _) rfl
      clear hb hdep hold
      go_simp
    · intro x w1 bA hT hdep hold hb
      refine .inl ⟨⟨13, rfl, (hb 13).trans (hdep 5 (by decide))⟩, ?_⟩
      have e14 : bA.tmps[14]?.getD undef = .int .i64 cv0 := (hb 14).trans (hdep 6 (by decide))
      have zz := HZ1.out
      refine phx_run (.bool false) ?_ (Below.refl _ _) rfl
      clear hb hdep hold
      go_simp
    · intro x w1 bA hT hdep hold hb
      refine .inl ⟨⟨13, rfl, (hb 13).trans (hdep 5 (by decide))⟩, ?_⟩
      have e15 : bA.tmps[15]?.getD undef = .bool false := (hb 15).trans (hdep 7 (by decide))
      refine phx_run (.bool false) ?_ (Below.refl _ _) rfl
      clear hb hdep hold
      go_simp
    · intro x w1 bA hT hdep hold hb
      refine .inl ⟨⟨16, rfl, (hb 16).trans (hdep 8 (by decide))⟩, ?_⟩
      have e3 : bA.tmps[3]?.getD undef = .int .i64 cv0 := hb 3
      refine phx_run (.int .i64 cv0) ?_ (Below.refl _ _) rfl
      clear hb hdep hold
      go_simp
    · intro x w1 bA hT hdep hold hb
      refine .inl ⟨⟨16, rfl, (hb 16).trans (hdep 8 (by decide))⟩, ?_⟩
      have e17 : bA.tmps[17]?.getD undef = .int .i64 cv0 := (hb 17).trans (hdep 9 (by decide))
      have zz := HZ2.out
      refine phx_run (.bool false) ?_ (Below.refl _ _) rfl
      clear hb hdep hold
      go_simp
    · intro x w1 bA hT hdep hold hb
      refine .inl ⟨⟨13, rfl, (hb 13).trans (hdep 5 (by decide))⟩, ?_⟩
      have e16 : bA.tmps[16]?.getD undef = .bool false := (hb 16).trans (hdep 8 (by decide))
      have e18 : bA.tmps[18]?.getD undef = .bool false := (hb 18).trans (hdep 10 (by decide))
      refine phx_run (.bool false) ?_ (Below.refl _ _) rfl
      clear hb hdep hold
      go_simp
    · intro x w1 bA hT hdep hold hb
      refine .inl ⟨trivial, ?_⟩
      have e13 : bA.tmps[13]?.getD undef = .bool true := (hb 13).trans (hdep 5 (by decide))
      have e19 : bA.tmps[19]?.getD undef = .bool false := (hb 19).trans (hdep 11 (by decide))
      refine phx_run (.bool false) ?_ (Below.refl _ _) rfl
      clear hb hdep hold
      go_simp
    · intro x w1 bA hT hdep hold hb
      refine .inl ⟨trivial, ?_⟩
      have e20 : bA.tmps[20]?.getD undef = .bool false := (hb 20).trans (hdep 12 (by decide))
      refine phx_run (.bool false) ?_ (Below.refl _ _) rfl
      clear hb hdep hold
      go_simp
    intro x w1 hT hall
    have x0e : x 0 = .agg #[.bool b1, .slice A n c] := hall 0 (by decide)
    have x1e : x 1 = .int .i64 lo := hall 1 (by decide)
    have x2e : x 2 = .agg #[.bool b1, .slice A n c] := hall 2 (by decide)
    have x3e : x 3 = .int .i64 hi := hall 3 (by decide)
    have x4e : x 4 = .bool true := hall 4 (by decide)
    have x5e : x 5 = .bool true := hall 5 (by decide)
    have x6e : x 6 = .int .i64 cv0 := hall 6 (by decide)
    have x7e : x 7 = .bool false := hall 7 (by decide)
    have x8e : x 8 = .bool false := hall 8 (by decide)
    have x9e : x 9 = .int .i64 cv0 := hall 9 (by decide)
    have x10e : x 10 = .bool false := hall 10 (by decide)
    have x11e : x 11 = .bool false := hall 11 (by decide)
    have x12e : x 12 = .bool false := hall 12 (by decide)
    have x13e : x 13 = .bool false := hall 13 (by decide)
    simp only [putAll, dstOf, Act.put, List.map_cons, List.map_nil, List.setIfInBounds_toArray, List.set_cons_succ, List.set_cons_zero, Nat.reduceAdd, x0e, x1e, x2e, x3e, x4e, x5e, x6e, x7e, x8e, x9e, x10e, x11e, x12e, x13e]
    clear x0e x1e x2e x3e x4e x5e x6e x7e x8e x9e x10e x11e x12e x13e hall
    have HB4 := Lib.hid (HB3.out.trans (hT.mono HB3.out.size))
    clear hT
    go_wp2_with fail
    go_ret
    exact ⟨by rw [HU.out]; rfl, HB4.out⟩
end Go.Proofs.YtnmidhlghhephaaGreatDoor

namespace Go.Proofs.YtnmidhlghhephaaGreatDoor
open Go.RowKit
set_option linter.unusedVariables false
def pwU (c n : Int) : Int := if Int.tmod n 2 = 0 then 1 else c
theorem pwU_bd {c : Int} (h : c = 1 ∨ c = -1) (n : Int) : pwU c n = 1 ∨ pwU c n = -1 := by
  unfold pwU
  split
  · exact .inl rfl
  · exact h
set_option maxHeartbeats 1000000 in
theorem power_unit (c n : Int) (w : World) (hc : c = 1 ∨ c = -1) (hn : -1000000000 ≤ n ∧ n ≤ 1000000000) : Calls Tryz.prog 49 #[.int .i64 c, .int .i64 n] w fun e w' => e = .returned (.int .i64 (pwU c n)) ∧ w' = w := by
  obtain ⟨r, hr⟩ : ∃ r, r = Int.tmod n 2 := ⟨_, rfl⟩
  have hrb : -2 < r ∧ r < 2 := by
    have h1 := Int.natAbs_tmod n 2
    rw [← hr] at h1
    have h2 : (2 : Int).natAbs = 2 := rfl
    rw [h2] at h1
    omega
  have hw : IntKind.i64.wrap (Int.tmod n 2) = r := by rw [← hr]; exact IntWalk.i64_in _ (by omega)
  have hw2 : Int.tmod n 2 = r := hr.symm
  have HV := Lib.hid (show pwU c n = if r = 0 then 1 else c from by unfold pwU; rw [hw2])
  clear hr
  by_cases h0 : r = 0
  · have HE := Lib.hid (HV.out.trans (if_pos h0))
    have z0 : (r == 0) = true := beq_iff_eq.2 h0
    clear HV h0
    rcases hc with rfl | rfl
    · go_enter Tryz.func49, Tryz.ntmps49
      go_wp2_with fail
      go_ret
      exact ⟨by rw [HE.out]; rfl, rfl⟩
    · go_enter Tryz.func49, Tryz.ntmps49
      go_wp2_with fail
      go_ret
      exact ⟨by rw [HE.out]; rfl, rfl⟩
  · have HE := Lib.hid (HV.out.trans (if_neg h0))
    have z0 : (r == 0) = false := beq_eq_false_iff_ne.2 h0
    clear HV h0
    rcases hc with rfl | rfl
    · go_enter Tryz.func49, Tryz.ntmps49
      go_wp2_with fail
      go_ret
      exact ⟨by rw [HE.out]; rfl, rfl⟩
    · go_enter Tryz.func49, Tryz.ntmps49
      go_wp2_with fail
      go_ret
      exact ⟨by rw [HE.out]; rfl, rfl⟩
def Pow1R (e c k : Int) (w : World) (en : Ending) (w' : World) : Prop := ∃ v, en = .returned v ∧ Below w.heap.size w w' ∧ PolyV w' v (some [(e * k, pwU c k)])
set_option maxHeartbeats 4000000 in
set_option maxRecDepth 100000 in
theorem pow1_any (B n c : Nat) (A : Option Addr) (e co k : Int) (w : World) (hB : Arr w B 34 [.bool false, .slice A n c]) (hp : PolyV w (.agg #[.bool false, .slice A n c]) (some [(e, co)])) (hc : co = 1 ∨ co = -1) (hk : -1000000000 ≤ k ∧ k ≤ 1000000000) (he : -1048576 ≤ e ∧ e ≤ 1048576) (hek : -1048576 ≤ e * k ∧ e * k ≤ 1048576) :
    Calls Tryz.prog 48 #[.int .i64 k, .pointer (some ⟨B, 0, none⟩)] w (Pow1R e co k w) := by
  have okp : okP (some [(e, co)]) := ⟨⟨by unfold Srt; simp, by simp; rcases hc with h | h <;> rw [h] <;> decide⟩, ⟨by simp; rcases hc with h | h <;> rw [h] <;> decide, by simp; exact he⟩⟩
  obtain ⟨pc, hpc⟩ : ∃ x, x = pwU co k := ⟨_, rfl⟩
  obtain ⟨ek, hek2⟩ : ∃ x, x = e * k := ⟨_, rfl⟩
  unfold Pow1R
  rw [← hpc, ← hek2]
  have hpb := pwU_bd hc k
  rw [← hpc] at hpb
  rw [← hek2] at hek
  have HPW := Lib.hid (fun W => power_unit co k W hc hk)
  rw [← hpc] at HPW
  have HTM := Lib.hid (fun W => Term_any pc ek W (by omega) (by omega) (by omega) hek.1 hek.2)
  have HEK := Lib.hid (show IntKind.i64.wrap (e * k) = ek from by rw [← hek2]; exact IntWalk.i64_in _ (by omega))
  have hl : lowL ((some [(e, co)] : Pol).getD []) = e := rfl
  have hcf : cf ((some [(e, co)] : Pol).getD []) e = co := by show cf [(e, co)] e = co; rw [cf_one, if_pos rfl]
  obtain ⟨G, hG⟩ : ∃ G, G = w.heap.size := ⟨_, rfl⟩
  have hW : ∀ W, W = w.alloc (.cells #[.bool false, .slice none 0 0] 34) → Arr W G 34 [.bool false, .slice none 0 0] ∧ Arr W B 34 [.bool false, .slice A n c] ∧ PolyV W (.agg #[.bool false, .slice A n c]) (some [(e, co)]) ∧ Below w.heap.size w W := by
    intro W hW
    subst hW
    rw [hG]
    exact ⟨Arr.new _ _ [_, _], hB.alloc _, hp.below ((Below.refl _ _).alloc (Nat.le_refl _) _), (Below.refl _ _).alloc (Nat.le_refl _) _⟩
  clear hpc hek2 hB hp
  go_enter Tryz.func48, Tryz.ntmps48
  go_upto_region 1 with fail
  generalize w.alloc (.cells #[.bool false, .slice none 0 0] 34) = w3 at hW ⊢
  obtain ⟨qg, qb, hp3, hb3⟩ := hW w3 rfl
  rw [← hG]
  have QG := Lib.hid qg
  have QB := Lib.hid qb
  have HGS := Lib.hid hG
  have HB3 := Lib.hid hb3
  have HLO := Lib.hid (fun W (hb : Below w3.heap.size w3 W) => Low_any _ _ W (hp3.below hb) okp)
  have HCO := Lib.hid (fun W (hb : Below w3.heap.size w3 W) => Coef_any _ _ e W (hp3.below hb) okp)
  rw [hl] at HLO
  rw [hcf] at HCO
  clear hW qg qb hp3 hb3 hG hl hcf okp hpb hek hc he hk
  refine wp_region_phx (fun a b => Below a.heap.size a b) (fun h k => h.trans (k.mono h.size)) ((Below.refl _ _).drew) 11 (by kernel_rfl) (by kernel_rfl) (by kernel_rfl) (by kernel_rfl) rfl (by kernel_rfl) (phiT (fun i => ([some (.agg #[.bool false, .slice A n c]), some (.agg #[.bool false, .slice A n c]), some (.int .i64 e), some (.int .i64 co), some (.int .i64 k), some (.int .i64 pc), some (.agg #[.bool false, .slice A n c]), some (.int .i64 e), some (.int .i64 k), some (.int .i64 ek), none, some (undef)] : List (Option Value)).getD i none) (fun i v w => (if i = 10 then (fun v w => PolyV w v (some [(ek, pc)])) v w else True))) (fun i v w w' h hb => ?_) (fun _ W => ∃ (b : Bool) (A : Option Addr) (n c : Nat), Arr W G 34 [.bool b, .slice A n c] ∧ PolyV W (.agg #[.bool b, .slice A n c]) (some [(ek, pc)]) ∧ Below G w3 W) ⟨?_, ?_, ?_, ?_, ?_, ?_, ?_, ?_, ?_, ?_, ?_, ?_, trivial⟩ ?_
  · unfold phiT at h ⊢
    split
    · next u hu => rw [hu] at h; exact h
    · next hu =>
      rw [hu] at h
      simp only at h ⊢
      by_cases q10 : i = 10
      · rw [if_pos q10] at h ⊢; exact PolyV.below h hb
      · rw [if_neg q10] at h ⊢
        trivial
  · intro x w1 bA hT hdep hold hb
    refine ⟨fun _ => ?_, fun h => absurd h (by decide)⟩
    refine .inl ⟨trivial, ?_⟩
    have e1 : bA.tmps[1]?.getD undef = .pointer (some ⟨B, 0, none⟩) := hb 1
    have cc0 := (QB.out.below hT QB.out.lt).cell 0
    have cc1 := (QB.out.below hT QB.out.lt).cell 1
    refine phx_run (.agg #[.bool false, .slice A n c]) ?_ (Below.refl _ _) rfl
    clear hb hdep hold
    go_simp
  · intro x w1 bA hT hdep hold hb
    refine ⟨fun _ => ?_, fun h => absurd h (by decide)⟩
    refine .inl ⟨trivial, ?_⟩
    have e1 : bA.tmps[1]?.getD undef = .pointer (some ⟨B, 0, none⟩) := hb 1
    have cc0 := (QB.out.below hT QB.out.lt).cell 0
    have cc1 := (QB.out.below hT QB.out.lt).cell 1
    refine phx_run (.agg #[.bool false, .slice A n c]) ?_ (Below.refl _ _) rfl
    clear hb hdep hold
    go_simp
  · intro x w1 bA hT hdep hold hb
    refine ⟨fun _ => ?_, fun h => absurd h (by decide)⟩
    refine .inl ⟨trivial, ?_⟩
    have e5 : bA.tmps[5]?.getD undef = .agg #[.bool false, .slice A n c] := (hb 5).trans (hdep 1 (by decide))
    refine phx_call ?_ ((HLO.out w1 hT).mono fun e w' h => ⟨_, h.1, h.2, rfl⟩)
    clear hb hdep hold
    go_simp
  · intro x w1 bA hT hdep hold hb
    refine ⟨fun _ => ?_, fun h => absurd h (by decide)⟩
    refine .inl ⟨trivial, ?_⟩
    have e4 : bA.tmps[4]?.getD undef = .agg #[.bool false, .slice A n c] := (hb 4).trans (hdep 0 (by decide))
    have e6 : bA.tmps[6]?.getD undef = .int .i64 e := (hb 6).trans (hdep 2 (by decide))
    refine phx_call ?_ ((HCO.out w1 hT).mono fun e w' h => ⟨_, h.1, h.2, rfl⟩)
    clear hb hdep hold
    go_simp
  · intro x w1 bA hT hdep hold hb
    refine ⟨fun _ => ?_, fun h => absurd h (by decide)⟩
    refine .inl ⟨trivial, ?_⟩
    have e0 : bA.tmps[0]?.getD undef = .int .i64 k := hb 0
    refine phx_run (.int .i64 k) ?_ (Below.refl _ _) rfl
    clear hb hdep hold
    go_simp
  · intro x w1 bA hT hdep hold hb
    refine ⟨fun _ => ?_, fun h => absurd h (by decide)⟩
    refine .inl ⟨trivial, ?_⟩
    have e7 : bA.tmps[7]?.getD undef = .int .i64 co := (hb 7).trans (hdep 3 (by decide))
    have e8 : bA.tmps[8]?.getD undef = .int .i64 k := (hb 8).trans (hdep 4 (by decide))
    refine phx_call ?_ ((HPW.out w1).mono fun e w' h => ⟨_, h.1, by rw [h.2]; exact Below.refl _ _, rfl⟩)
    clear hb hdep hold
    go_simp
  · intro x w1 bA hT hdep hold hb
    refine ⟨fun _ => ?_, fun h => absurd h (by decide)⟩
    refine .inl ⟨trivial, ?_⟩
    have e1 : bA.tmps[1]?.getD undef = .pointer (some ⟨B, 0, none⟩) := hb 1
    have cc0 := (QB.out.below hT QB.out.lt).cell 0
    have cc1 := (QB.out.below hT QB.out.lt).cell 1
    refine phx_run (.agg #[.bool false, .slice A n c]) ?_ (Below.refl _ _) rfl
    clear hb hdep hold
    go_simp
  · intro x w1 bA hT hdep hold hb
    refine ⟨fun _ => ?_, fun h => absurd h (by decide)⟩
    refine .inl ⟨trivial, ?_⟩
    have e10 : bA.tmps[10]?.getD undef = .agg #[.bool false, .slice A n c] := (hb 10).trans (hdep 6 (by decide))
    refine phx_call ?_ ((HLO.out w1 hT).mono fun e w' h => ⟨_, h.1, h.2, rfl⟩)
    clear hb hdep hold
    go_simp
  · intro x w1 bA hT hdep hold hb
    refine ⟨fun _ => ?_, fun h => absurd h (by decide)⟩
    refine .inl ⟨trivial, ?_⟩
    have e0 : bA.tmps[0]?.getD undef = .int .i64 k := hb 0
    refine phx_run (.int .i64 k) ?_ (Below.refl _ _) rfl
    clear hb hdep hold
    go_simp
  · intro x w1 bA hT hdep hold hb
    refine ⟨fun _ => ?_, fun h => absurd h (by decide)⟩
    refine .inl ⟨trivial, ?_⟩
    have e11 : bA.tmps[11]?.getD undef = .int .i64 e := (hb 11).trans (hdep 7 (by decide))
    have e12 : bA.tmps[12]?.getD undef = .int .i64 k := (hb 12).trans (hdep 8 (by decide))
    have zz := HEK.out
    refine phx_run (.int .i64 ek) ?_ (Below.refl _ _) rfl
    clear hb hdep hold
    go_simp
  · intro x w1 bA hT hdep hold hb
    refine ⟨fun _ => ?_, fun h => absurd h (by decide)⟩
    refine .inl ⟨trivial, ?_⟩
    have e9 : bA.tmps[9]?.getD undef = .int .i64 pc := (hb 9).trans (hdep 5 (by decide))
    have e13 : bA.tmps[13]?.getD undef = .int .i64 ek := (hb 13).trans (hdep 9 (by decide))
    refine phx_call ?_ ((HTM.out w1).mono fun e w' h => (by obtain ⟨v, he, hv, hb'⟩ := h; exact ⟨v, he, hb', hv⟩))
    clear hb hdep hold
    go_simp
  · intro x w1 bA hT hdep hold hb
    refine ⟨fun h => absurd h (by decide), fun _ hall => ?_⟩
    refine ⟨trivial, ?_⟩
    have e3 : bA.tmps[3]?.getD undef = .pointer (some ⟨G, 0, none⟩) := hb 3
    have e14 : bA.tmps[14]?.getD undef = x 10 := hb 14
    have p14 := Lib.hid (show (fun v w => PolyV w v (some [(ek, pc)])) (x 10) w1 from hall 10 (by decide))
    clear hb hdep hold
    obtain ⟨bz, Az, nz, cz, e14b, -, -⟩ := p14.out.parts
    rw [e14b] at e14
    have HPV := Lib.hid (e14b ▸ p14.out)
    have q5 := QG.out.below hT QG.out.lt
    have Q5b := Lib.hid q5
    have f0 := q5.frozen 0
    have f1 := q5.frozen 1
    have c0 := q5.cell 0
    have c1 := q5.cell 1
    have HBL := Lib.hid hT
    clear q5 e14b p14 hT
    refine phx_st (R := fun W => ∃ (b : Bool) (A : Option Addr) (n c : Nat), Arr W G 34 [.bool b, .slice A n c] ∧ PolyV W (.agg #[.bool b, .slice A n c]) (some [(ek, pc)]) ∧ Below G w3 W) ((w1.setCell ⟨G, 0, none⟩ (.bool bz)).setCell ⟨G, 1, none⟩ (.slice Az nz cz)) ?_ rfl ⟨bz, Az, nz, cz, (Q5b.out.set 0 _).set 1 _, HPV.out.box Q5b.out _ _, ((HBL.out.mono (Nat.le_of_lt QG.out.lt)).setCell (p := ⟨G, 0, none⟩) (Nat.le_refl _) _).setCell (p := ⟨G, 1, none⟩) (Nat.le_refl _) _⟩
    go_simp
  intro x w1 hR
  simp only [putAll, dstOf, Act.put, List.map_cons, List.map_nil, List.setIfInBounds_toArray, List.set_cons_succ, List.set_cons_zero, Nat.reduceAdd]
  obtain ⟨b, A2, n2, c2, h1, h2, h3⟩ := hR
  have H1 := Lib.hid h1
  have H2 := Lib.hid h2
  have H3 := Lib.hid h3
  clear h1 h2 h3
  go_wp2_with fail
  refine bodyPost_ret (v := .agg #[.bool b, .slice A2 n2 c2]) (results_c Tryz.results48 _ _ G 34 _ _ rfl H1.out Tryz.underlying34 rfl info_poly) rfl ?_
  exact ⟨_, rfl, by have h3 := H3.out; rw [HGS.out] at h3; exact HB3.out.trans h3, H2.out⟩
end Go.Proofs.YtnmidhlghhephaaGreatDoor

namespace Go.Proofs.YtnmidhlghhephaaGreatDoor
open Go.RowKit
set_option linter.unusedVariables false
/-- the powers of a list of terms -/
def powL (zl : List T1) : Nat → List T1
  | 0 => [(0, 1)]
  | i + 1 => prs (powL zl i) zl
theorem asum1_powL (zl : List T1) : ∀ i, asum1 (powL zl i) = asum1 zl ^ i
  | 0 => rfl
  | i + 1 => by rw [powL, asum1_prs, asum1_powL zl i, Nat.pow_succ]
theorem Eb1.powL {zl : List T1} {N : Nat} (h : Eb1 N zl) : ∀ i, Eb1 (i * N) (Go.Proofs.YtnmidhlghhephaaGreatDoor.powL zl i)
  | 0 => fun t ht => by
    rw [Go.Proofs.YtnmidhlghhephaaGreatDoor.powL] at ht
    rw [List.mem_singleton.1 ht]
    simp
  | i + 1 => by
    rw [Nat.succ_mul, Go.Proofs.YtnmidhlghhephaaGreatDoor.powL]
    exact (Eb1.powL h i).mul h
abbrev PM := Option Addr × Nat × Nat
def encP (m : PM) : List Value := [.bool false, .slice m.1 m.2.1 m.2.2]
theorem info_polyL : (Tryz.prog.info? 34).map (fun i => (i.zero, i.size, i.bytes)) = some (some (.agg #[.bool false, .slice none 0 0]), 2, 32) := by kernel_rfl
theorem elP : ElA Tryz.prog 34 2 encP where
  ex := by
    obtain ⟨i, hi, hz, hs, hb⟩ := info_parts info_polyL
    exact ⟨i, _, 32, hi, hz, hs, hb, rfl, by omega⟩
  pos := by omega
  len := fun x => rfl
  one := fun x q h => by unfold encP at h; simp at h; rcases h with rfl | rfl <;> rfl
theorem slP_one (w : World) (A : Option Addr) (n c : Nat) : SlA encP (w.alloc (.cells #[.bool false, .slice A n c] 34)) (.slice (some ⟨w.heap.size, 0, none⟩) 1 1) [(A, n, c)] := (OwnA.lit (w := w) (e := 34) (sz := 2) (enc := encP) (xs := [(A, n, c)]) (fun x _ => rfl) (Nat.le_refl _) (by simp) (by simp)).sl
theorem encP_get : ∀ (l : List PM) (k j : Nat) (h : k < l.length), j < 2 → (l.flatMap encP)[k * 2 + j]? = (encP l[k])[j]? := by
  intro l
  induction l with
  | nil => intro k j h; simp at h
  | cons m l ih =>
    intro k j h hj
    rw [List.flatMap_cons]
    cases k with
    | zero => rw [List.getElem?_append_left (by simp [encP]; omega)]; simp
    | succ k =>
      rw [List.getElem?_append_right (by simp [encP]; omega)]
      have := ih k j (by simpa using h) hj
      rw [show (k + 1) * 2 + j - (encP m).length = k * 2 + j from by simp [encP]; omega, this]
      simp
theorem TB_lt {w : World} {b : Nat} (h : TB w b) : b < w.heap.size := by
  obtain ⟨cs, fr, hh⟩ := h
  exact heap_ltB hh
theorem TB_ne {w : World} {b : Nat} {t : TypeId} {cs : List Value} (h : TB w b) (ha : Arr w b t cs) (hne : t ≠ 51) : False := by
  obtain ⟨cs', fr, hh⟩ := h
  unfold Arr at ha
  rw [ha] at hh
  injection hh with hh
  injection hh with _ h2 _
  exact hne h2
theorem own_TB {w : World} {base b : Nat} {v : Value} {ms : List PM} (h : OwnA 34 2 encP base w v ms) (hb : TB w b) : v.ownBlock ≠ some b := fun e => by
  obtain ⟨cs, fr, hh⟩ := OwnA.typB h b e
  obtain ⟨cs', fr', hh'⟩ := hb
  rw [hh] at hh'
  injection hh' with hh'
  injection hh' with _ h2 _
  exact absurd h2 (by decide)
theorem own_ne {w : World} {base g : Nat} {v : Value} {ms : List PM} {t : TypeId} {cs : List Value} (h : OwnA 34 2 encP base w v ms) (hg : Arr w g t cs) (hne : 34 ≠ t) (e : v.ownBlock = some g) : False := OwnA.apartB h hg hne e
theorem QL.keepT {w w' : World} {v : Value} {L : List T1} (h : QL w v L) (hk : ∀ b, TB w b → w'.heap[b]? = w.heap[b]?) : QL w' v L := by
  obtain ⟨l, ⟨A, c, hv, hx⟩, h2⟩ := h
  exact ⟨l, ⟨A, c, hv, hx.keepT hk⟩, h2⟩
/-- the list of the powers that are known -/
structure KnS (Bk Bz base : Nat) (zm : PM) (zl : List T1) (s : Value) (ms : List PM) (W : World) : Prop where
  bk : Arr W Bk 92 [s]
  own : OwnA 34 2 encP base W s ms
  pos : 0 < ms.length
  el : ∀ i (h : i < ms.length), QL W (.agg #[.bool false, .slice ms[i].1 ms[i].2.1 ms[i].2.2]) (powL zl i)
  bz : Arr W Bz 34 [.bool false, .slice zm.1 zm.2.1 zm.2.2]
  zv : QL W (.agg #[.bool false, .slice zm.1 zm.2.1 zm.2.2]) zl
  nz : s.ownBlock ≠ some Bz
theorem KnS.below {Bk Bz base : Nat} {zm : PM} {zl : List T1} {s : Value} {ms : List PM} {W W' : World} (h : KnS Bk Bz base zm zl s ms W) (hb : Below W.heap.size W W') : KnS Bk Bz base zm zl s ms W' :=
  ⟨h.bk.below hb h.bk.lt, h.own.below hb, h.pos, fun i hi => (h.el i hi).below hb, h.bz.below hb h.bz.lt, h.zv.below hb, h.nz⟩
theorem KnS.form {Bk Bz base : Nat} {zm : PM} {zl : List T1} {s : Value} {ms : List PM} {W : World} (h : KnS Bk Bz base zm zl s ms W) : ∃ g cap, s = .slice (some ⟨g, 0, none⟩) ms.length cap := by
  rcases h.own.2 with ⟨rfl, h0⟩ | ⟨g, cap, cur, rfl, _⟩
  · have := h.pos; omega
  · exact ⟨g, cap, rfl⟩
theorem KnS.at_ {Bk Bz base g n cap : Nat} {zm : PM} {zl : List T1} {ms : List PM} {W : World} (h : KnS Bk Bz base zm zl (.slice (some ⟨g, 0, none⟩) n cap) ms W) {k : Nat} (hk : k < ms.length) : W.cell? ⟨g, k * 2, none⟩ = some (.bool false) ∧ W.cell? ⟨g, k * 2 + 1, none⟩ = some (.slice ms[k].1 ms[k].2.1 ms[k].2.2) := by
  obtain ⟨A, c, hv, _, hx⟩ := h.own.sl
  injection hv with e1 e2 e3
  subst e1
  have key : ∀ j, j < 2 → ∀ u, (encP ms[k])[j]? = some u → W.cell? ⟨g, k * 2 + j, none⟩ = some u := fun j hj u hu => by
    obtain ⟨b, o, hA, h0⟩ := hx (k * 2 + j) u (by rw [encP_get ms k j hk hj]; exact hu)
    injection hA with hA
    injection hA with e4 e5
    subst e4 e5
    rw [Nat.zero_add] at h0
    exact h0
  exact ⟨key 0 (by omega) _ rfl, key 1 (by omega) _ rfl⟩
def Pow2R (Bk Bz base : Nat) (zm : PM) (zl : List T1) (s : Value) (n : Nat) (w : World) (e : Ending) (w' : World) : Prop := ∃ v s' ms', e = .returned v ∧ QL w' v (powL zl n) ∧ KnS Bk Bz base zm zl s' ms' w' ∧ Below base w w' ∧ (∀ k, k < w.heap.size → k ≠ Bk → s.ownBlock ≠ some k → w'.heap[k]? = w.heap[k]?) ∧ (s'.ownBlock = s.ownBlock ∨ ∀ k, s'.ownBlock = some k → w.heap.size ≤ k) ∧ ms'.length ≤ 100000
set_option maxHeartbeats 4000000 in
set_option maxRecDepth 100000 in
theorem pow2_any {N S : Nat} (Bk Bz base : Nat) (zm : PM) (zl : List T1) (s0 : Value) (ms0 : List PM) (n : Nat) (w : World) (h : KnS Bk Bz base zm zl s0 ms0 w) (hn : n ≤ 1000) (hml : ms0.length ≤ 100000) (hS : ∀ i, i ≤ n → asum1 zl ^ i ≤ 1125899906842624) (hN : Eb1 N zl) (hnN : (n + 1) * N ≤ 1048576) (hbk : base ≤ Bk) (hbs : base ≤ w.heap.size) :
    Calls Tryz.prog 50 #[.int .i64 (n : Int), .pointer (some ⟨Bk, 0, none⟩), .pointer (some ⟨Bz, 0, none⟩)] w (Pow2R Bk Bz base zm zl s0 n w) := by
  have HN := Lib.hid hN
  have HS := Lib.hid hS
  have HNN0 := Lib.hid hnN
  have HBK := Lib.hid hbk
  obtain ⟨G, hG⟩ : ∃ G, G = w.heap.size := ⟨_, rfl⟩
  have hW : ∀ W, W = w.alloc (.cells #[.bool false, .slice none 0 0] 34) → Arr W G 34 [.bool false, .slice none 0 0] ∧ KnS Bk Bz base zm zl s0 ms0 W ∧ Below w.heap.size w W ∧ s0.ownBlock ≠ some G := by
    intro W hW
    subst hW
    rw [hG]
    exact ⟨Arr.new _ _ [_, _], h.below ((Below.refl _ _).alloc (Nat.le_refl _) _), (Below.refl _ _).alloc (Nat.le_refl _) _, fun e => by have := h.own.lt _ e; omega⟩
  obtain ⟨z1, z2, z3⟩ := zm
  have HBZ := Lib.hid h.bz.lt
  clear h hN hS hnN
  go_enter Tryz.func50, Tryz.ntmps50
  go_upto_region 1 with fail
  generalize w.alloc (.cells #[.bool false, .slice none 0 0] 34) = w3 at hW ⊢
  obtain ⟨qg, hk3, hb3, hn3⟩ := hW w3 rfl
  rw [← hG]
  have HST := Lib.hid (show ∃ (s : Value) (ms : List PM), KnS Bk Bz base (z1, z2, z3) zl s ms w3 ∧ Arr w3 G 34 [.bool false, .slice none 0 0] ∧ Below base w w3 ∧ (∀ k, k < w.heap.size → k ≠ Bk → s0.ownBlock ≠ some k → w3.heap[k]? = w.heap[k]?) ∧ (s.ownBlock = s0.ownBlock ∨ ∀ k, s.ownBlock = some k → w.heap.size ≤ k) ∧ s.ownBlock ≠ some G ∧ n + 1 - ms0.length = n + 1 - ms.length ∧ ms.length ≤ 100000 from
    ⟨s0, ms0, hk3, qg, hb3.mono hbs, fun k hk _ _ => hb3.block k hk, .inl rfl, hn3, rfl, hml⟩)
  have HG := Lib.hid hG
  clear hW qg hk3 hb3 hn3 hG
  go_loopg [] (n + 1 - ms0.length) (fun gk wr => Hid (∃ (s : Value) (ms : List PM), KnS Bk Bz base (z1, z2, z3) zl s ms wr ∧ Arr wr G 34 [.bool false, .slice none 0 0] ∧ Below base w wr ∧ (∀ k, k < w.heap.size → k ≠ Bk → s0.ownBlock ≠ some k → wr.heap[k]? = w.heap[k]?) ∧ (s.ownBlock = s0.ownBlock ∨ ∀ k, s.ownBlock = some k → w.heap.size ≤ k) ∧ s.ownBlock ≠ some G ∧ gk = n + 1 - ms.length ∧ ms.length ≤ 100000))
  case atStart => exact HST
  case round =>
    clear HST
    have HR := hrel
    obtain ⟨s, ms, hkn, qg, hbr, hfr, hso, hsg, hgk, hml2⟩ := HR.out
    clear hrel HR
    obtain ⟨g, cap, hs⟩ := hkn.form
    have HKN := Lib.hid hkn
    have HQG := Lib.hid qg
    have HBR := Lib.hid hbr
    have HFR := Lib.hid hfr
    have HSO := Lib.hid hso
    have HSG := Lib.hid hsg
    have HNK := Lib.hid (show s.ownBlock ≠ some Bk from OwnA.apartB hkn.own hkn.bk (by decide))
    have HOW := Lib.hid hkn.own
    have HSE := Lib.hid hs
    have ck := hkn.bk.cell 0
    rw [hs] at ck
    have hps := hkn.pos
    by_cases hlt : ms.length ≤ n
    · have z0 : (ms.length : Int) ≤ (n : Int) := by omega
      obtain ⟨j, hj⟩ : ∃ j, j + 1 = ms.length := ⟨ms.length - 1, by omega⟩
      have hkn2 := hkn
      rw [hs] at hkn2
      obtain ⟨d0, d1⟩ := hkn2.at_ (show j < ms.length by omega)
      have HEL := Lib.hid (hkn.el j (by omega))
      have HC0 := Lib.hid (show ∀ W, Below wr.heap.size wr W → W.cell? ⟨g, j * 2, none⟩ = some (.bool false) ∧ W.cell? ⟨g, j * 2 + 1, none⟩ = some (.slice (ms[j]'(by omega)).1 (ms[j]'(by omega)).2.1 (ms[j]'(by omega)).2.2) from fun W hb => by
        have := hkn.below hb
        rw [hs] at this
        exact this.at_ (show j < ms.length by omega))
      generalize (ms[j]'(by omega)).1 = m1 at *
      generalize (ms[j]'(by omega)).2.1 = m2 at *
      generalize (ms[j]'(by omega)).2.2 = m3 at *
      have HBG := Lib.hid (show Calls Tryz.prog 20 #[.agg #[.bool false, .slice m1 m2 m3]] wr fun e w' => e = .returned (.bool false) ∧ Below wr.heap.size wr w' from by
        obtain ⟨l, h1, _⟩ := HEL.out
        exact Big_any _ _ wr h1)
      have hwj : IntKind.i64.wrap ((ms.length : Int) - 1) = (j : Int) := by rw [show (ms.length : Int) - 1 = (j : Int) by omega]; exact IntWalk.i64_in _ (by omega)
      have hwj1 : (ms.length : Int) - 1 = (j : Int) := by omega
      have hwj2 : IntKind.i64.wrap (j : Int) = (j : Int) := IntWalk.i64_in _ (by omega)
      have zj : (j : Int) < (ms.length : Int) := by omega
      go_wp2_with fail
      refine HBG.out.mono ?_
      rintro e w4 ⟨rfl, hb4⟩
      have HN4 := Lib.hid (hkn.below hb4)
      have QK := Lib.hid (show Arr w4 Bk 92 [.slice (some ⟨g, 0, none⟩) ms.length cap] from hs ▸ HN4.out.bk)
      have QZ := Lib.hid HN4.out.bz
      have HZV := Lib.hid HN4.out.zv
      have HEL4 := Lib.hid (HEL.out.below hb4)
      have HC4 := Lib.hid (fun W (hb : Below w4.heap.size w4 W) => HC0.out W (hb4.trans (hb.mono hb4.size)))
      have HOW4 := Lib.hid HN4.out.own
      have HB4 := Lib.hid hb4
      have HAS := Lib.hid (show asum1 (powL zl j) * asum1 zl ≤ 1125899906842624 from by rw [asum1_powL, ← Nat.pow_succ]; exact HS.out _ (by omega))
      have HE1 := Lib.hid (HN.out.powL j)
      have HE2 := Lib.hid HN.out
      have HNN := Lib.hid (show j * N + N ≤ 1048576 from by
        have h1 := HNN0.out
        have h2 : (j + 1) * N ≤ (n + 1) * N := Nat.mul_le_mul_right _ (by omega)
        rw [Nat.succ_mul] at h2
        omega)
      have HWS := Lib.hid (And.intro hwj (And.intro hwj1 hwj2))
      have HJM := Lib.hid zj
      have HML := Lib.hid (show ms.length + 1 ≤ 1000000000 by omega)
      have HBS := Lib.hid (show base ≤ w4.heap.size from Nat.le_trans (Nat.le_trans hbs hbr.size) hb4.size)
      have HJ := Lib.hid hj
      have HLT := Lib.hid (And.intro hlt (And.intro hgk hml2))
      clear HEL HC0 HOW
      have HEL := Lib.hid HEL4.out
      have HC0 := Lib.hid HC4.out
      have HOW := Lib.hid HOW4.out
      clear HEL4 HC4 HOW4 hkn hkn2 qg hbr hfr hso hsg hgk hml2 hs ck hps z0 hj d0 d1 HBG hwj hwj1 hwj2 zj hb4 hlt
      go_wp2_with fail
      refine wp_region_phz (fun a b => Below a.heap.size a b) (fun h k => h.trans (k.mono h.size)) ((Below.refl _ _).drew) 10 (by kernel_rfl) (by kernel_rfl) (by kernel_rfl) (by kernel_rfl) rfl (by kernel_rfl) (by kernel_rfl) (phiT (fun i => ([some (.slice (some ⟨g, 0, none⟩) ms.length cap), some (.slice (some ⟨g, 0, none⟩) ms.length cap), some (.slice (some ⟨g, 0, none⟩) ms.length cap), some (.int .i64 (ms.length : Int)), some (.int .i64 (j : Int)), some (.pointer (some ⟨g, j * 2, none⟩)), some (.agg #[.bool false, .slice m1 m2 m3]), some (.agg #[.bool false, .slice z1 z2 z3]), none, none, some (undef), some (undef)] : List (Option Value)).getD i none) (fun i v w => (if i = 8 then (fun v w => QL w v (prs (powL zl j) zl)) v w else (if i = 9 then (fun v w => ∃ (h : Nat) (A : Option Addr) (n c : Nat), v = .slice (some ⟨h, 0, none⟩) 1 1 ∧ SlA encP w v [(A, n, c)] ∧ QL w (.agg #[.bool false, .slice A n c]) (prs (powL zl j) zl)) v w else True)))) (fun i v w w' h hb => ?_) (fun v W => ∃ (A : Option Addr) (n c : Nat), OwnA 34 2 encP base W v (ms ++ [(A, n, c)]) ∧ QL W (.agg #[.bool false, .slice A n c]) (prs (powL zl j) zl) ∧ Below base w4 W ∧ (∀ k, k < w4.heap.size → s.ownBlock ≠ some k → W.heap[k]? = w4.heap[k]?) ∧ (v.ownBlock = s.ownBlock ∨ ∀ k, v.ownBlock = some k → w4.heap.size ≤ k)) (fun W => ∃ (s2 : Value) (A : Option Addr) (n c : Nat), Arr W Bk 92 [s2] ∧ OwnA 34 2 encP base W s2 (ms ++ [(A, n, c)]) ∧ QL W (.agg #[.bool false, .slice A n c]) (prs (powL zl j) zl) ∧ Below base w4 W ∧ (∀ k, k < w4.heap.size → k ≠ Bk → s.ownBlock ≠ some k → W.heap[k]? = w4.heap[k]?) ∧ (s2.ownBlock = s.ownBlock ∨ ∀ k, s2.ownBlock = some k → w4.heap.size ≤ k)) ⟨?_, ?_, ?_, ?_, ?_, ?_, ?_, ?_, ?_, ?_, ?_, ?_, trivial⟩ ?_
      · unfold phiT at h ⊢
        split
        · next u hu => rw [hu] at h; exact h
        · next hu =>
          rw [hu] at h
          simp only at h ⊢
          by_cases q8 : i = 8
          · rw [if_pos q8] at h ⊢; exact QL.below h hb
          · rw [if_neg q8] at h ⊢
            by_cases q9 : i = 9
            · rw [if_pos q9] at h ⊢; exact (by obtain ⟨x, A, n, c, h1, h2, h3⟩ := h; exact ⟨x, A, n, c, h1, h2.below hb, h3.below hb⟩)
            · rw [if_neg q9] at h ⊢
              trivial
      · intro x w1 bA hb
        refine ⟨fun _ hT hdep hold => ?_, fun h => absurd h (by decide), fun h => absurd h (by decide)⟩
        refine .inl ⟨trivial, ?_⟩
        have e1 : bA.tmps[1]?.getD undef = .pointer (some ⟨Bk, 0, none⟩) := hb 1
        have ck := (QK.out.below hT QK.out.lt).cell 0
        refine phx_run (.slice (some ⟨g, 0, none⟩) ms.length cap) ?_ (Below.refl _ _) rfl
        clear hb hdep hold
        go_simp
      · intro x w1 bA hb
        refine ⟨fun _ hT hdep hold => ?_, fun h => absurd h (by decide), fun h => absurd h (by decide)⟩
        refine .inl ⟨trivial, ?_⟩
        have e1 : bA.tmps[1]?.getD undef = .pointer (some ⟨Bk, 0, none⟩) := hb 1
        have ck := (QK.out.below hT QK.out.lt).cell 0
        refine phx_run (.slice (some ⟨g, 0, none⟩) ms.length cap) ?_ (Below.refl _ _) rfl
        clear hb hdep hold
        go_simp
      · intro x w1 bA hb
        refine ⟨fun _ hT hdep hold => ?_, fun h => absurd h (by decide), fun h => absurd h (by decide)⟩
        refine .inl ⟨trivial, ?_⟩
        have e1 : bA.tmps[1]?.getD undef = .pointer (some ⟨Bk, 0, none⟩) := hb 1
        have ck := (QK.out.below hT QK.out.lt).cell 0
        refine phx_run (.slice (some ⟨g, 0, none⟩) ms.length cap) ?_ (Below.refl _ _) rfl
        clear hb hdep hold
        go_simp
      · intro x w1 bA hb
        refine ⟨fun _ hT hdep hold => ?_, fun h => absurd h (by decide), fun h => absurd h (by decide)⟩
        refine .inl ⟨trivial, ?_⟩
        have e21 : bA.tmps[21]?.getD undef = .slice (some ⟨g, 0, none⟩) ms.length cap := (hb 21).trans (hdep 2 (by decide))
        refine phx_run (.int .i64 (ms.length : Int)) ?_ (Below.refl _ _) rfl
        clear hb hdep hold
        go_simp
      · intro x w1 bA hb
        refine ⟨fun _ hT hdep hold => ?_, fun h => absurd h (by decide), fun h => absurd h (by decide)⟩
        refine .inl ⟨trivial, ?_⟩
        have e22 : bA.tmps[22]?.getD undef = .int .i64 (ms.length : Int) := (hb 22).trans (hdep 3 (by decide))
        have zs := HWS.out
        refine phx_run (.int .i64 (j : Int)) ?_ (Below.refl _ _) rfl
        clear hb hdep hold
        go_simp
      · intro x w1 bA hb
        refine ⟨fun _ hT hdep hold => ?_, fun h => absurd h (by decide), fun h => absurd h (by decide)⟩
        refine .inl ⟨trivial, ?_⟩
        have e20 : bA.tmps[20]?.getD undef = .slice (some ⟨g, 0, none⟩) ms.length cap := (hb 20).trans (hdep 1 (by decide))
        have e23 : bA.tmps[23]?.getD undef = .int .i64 (j : Int) := (hb 23).trans (hdep 4 (by decide))
        have zj := HJM.out
        refine phx_run (.pointer (some ⟨g, j * 2, none⟩)) ?_ (Below.refl _ _) rfl
        clear hb hdep hold
        go_simp
      · intro x w1 bA hb
        refine ⟨fun _ hT hdep hold => ?_, fun h => absurd h (by decide), fun h => absurd h (by decide)⟩
        refine .inl ⟨trivial, ?_⟩
        have e24 : bA.tmps[24]?.getD undef = .pointer (some ⟨g, j * 2, none⟩) := (hb 24).trans (hdep 5 (by decide))
        have ce0 := (HC0.out w1 hT).1
        have ce1 := (HC0.out w1 hT).2
        refine phx_run (.agg #[.bool false, .slice m1 m2 m3]) ?_ (Below.refl _ _) rfl
        clear hb hdep hold
        go_simp
      · intro x w1 bA hb
        refine ⟨fun _ hT hdep hold => ?_, fun h => absurd h (by decide), fun h => absurd h (by decide)⟩
        refine .inl ⟨trivial, ?_⟩
        have e2 : bA.tmps[2]?.getD undef = .pointer (some ⟨Bz, 0, none⟩) := hb 2
        have cz0 := (QZ.out.below hT QZ.out.lt).cell 0
        have cz1 := (QZ.out.below hT QZ.out.lt).cell 1
        refine phx_run (.agg #[.bool false, .slice z1 z2 z3]) ?_ (Below.refl _ _) rfl
        clear hb hdep hold
        go_simp
      · intro x w1 bA hb
        refine ⟨fun _ hT hdep hold => ?_, fun h => absurd h (by decide), fun h => absurd h (by decide)⟩
        refine .inl ⟨trivial, ?_⟩
        have e25 : bA.tmps[25]?.getD undef = .agg #[.bool false, .slice m1 m2 m3] := (hb 25).trans (hdep 6 (by decide))
        have e26 : bA.tmps[26]?.getD undef = .agg #[.bool false, .slice z1 z2 z3] := (hb 26).trans (hdep 7 (by decide))
        refine phx_call ?_ ((MulQ (.agg #[.bool false, .slice m1 m2 m3]) (.agg #[.bool false, .slice z1 z2 z3]) (powL zl j) zl w1 (HEL.out.below hT) (HZV.out.below hT) HAS.out HE1.out HE2.out HNN.out).mono fun e w' h => (by obtain ⟨v, he, hb', hv⟩ := h; exact ⟨v, he, hb', hv⟩))
        clear hb hdep hold
        go_simp
      · intro x w1 bA hb
        refine ⟨fun _ hT hdep hold => ?_, fun h => absurd h (by decide), fun h => absurd h (by decide)⟩
        refine .inl ⟨trivial, ?_⟩
        have p27 := hdep 8 (by decide)
        have e27 : bA.tmps[27]?.getD undef = x 8 := hb 27
        generalize x 8 = x27 at *
        have P27 := Lib.hid (show (fun v w => QL w v (prs (powL zl j) zl)) x27 w1 from p27)
        clear p27
        obtain ⟨A7, n7, c7, e7⟩ := P27.out.form
        subst e7
        refine phx_make (.slice (some ⟨w1.heap.size, 0, none⟩) 1 1) (w1.alloc (.cells #[.bool false, .slice A7 n7 c7] 34)) ?_ ((Below.refl _ _).alloc (Nat.le_refl _) _) (⟨w1.heap.size, A7, n7, c7, rfl, slP_one w1 A7 n7 c7, P27.out.below ((Below.refl _ _).alloc (Nat.le_refl _) _)⟩)
        clear hb hdep hold
        go_simp
      · intro x w1 bA hb
        refine ⟨fun h => absurd h (by decide), fun _ hT hdep hall => ?_, fun h => absurd h (by decide)⟩
        refine ⟨trivial, ?_⟩
        have e19 : bA.tmps[19]?.getD undef = .slice (some ⟨g, 0, none⟩) ms.length cap := (hb 19).trans (hdep 0 (by decide))
        have e28 : bA.tmps[28]?.getD undef = x 9 := hb 28
        have p27 := Lib.hid (show (fun v w => QL w v (prs (powL zl j) zl)) (x 8) w1 from hall 8 (by decide))
        have p28 := Lib.hid (show (fun v w => ∃ (h : Nat) (A : Option Addr) (n c : Nat), v = .slice (some ⟨h, 0, none⟩) 1 1 ∧ SlA encP w v [(A, n, c)] ∧ QL w (.agg #[.bool false, .slice A n c]) (prs (powL zl j) zl)) (x 9) w1 from hall 9 (by decide))
        clear hb hdep
        obtain ⟨h8, A8, n8, c8, e8, hs8, hq8⟩ := p28.out
        have HS8 := Lib.hid hs8
        have HQ8 := Lib.hid hq8
        have HT1 := Lib.hid hT
        clear hs8 hq8 p27 p28 e8 hT
        refine wp_appA (P := Tryz.prog) (base := base) elP (.tmp 19) (.tmp 28) 92 92 rfl Tryz.underlying92 Tryz.underlying92 (by simpa [Act.eval] using e19) (HSE.out ▸ HOW.out.below HT1.out) (by simpa [Act.eval] using e28) HS8.out HML.out (Nat.le_trans HBS.out HT1.out.size) ?_
        intro v1 w5 h1 h2 h3 h4
        have hown := HOW.out.below HT1.out
        refine ⟨v1, rfl, A8, n8, c8, h1, HQ8.out.keepT fun b hb => h3 b (TB_lt hb) (own_TB (HSE.out ▸ hown) hb), (HT1.out.mono HBS.out).trans h2, fun k hk hne => (h3 k (Nat.lt_of_lt_of_le hk HT1.out.size) (fun e => hne (by rw [HSE.out]; exact e))).trans (HT1.out.block k hk), ?_⟩
        rcases h4 with h4 | h4
        · exact .inl (h4.trans (by rw [HSE.out]))
        · refine .inr fun k hk => ?_
          rw [h4] at hk
          injection hk with hk
          subst hk
          exact HT1.out.size
      · intro x w1 bA hb
        refine ⟨fun h => absurd h (by decide), fun h => absurd h (by decide), fun _ hR => ⟨trivial, ?_⟩⟩
        have e1 : bA.tmps[1]?.getD undef = .pointer (some ⟨Bk, 0, none⟩) := hb 1
        have e29 : bA.tmps[29]?.getD undef = x 10 := hb 29
        clear hb
        obtain ⟨A, n, c, h1, h2, h3, h4, h5⟩ := hR
        have hneK : s.ownBlock ≠ some Bk := HNK.out
        have qk := (show Arr w1 Bk 92 [.slice (some ⟨g, 0, none⟩) ms.length cap] from (h4 Bk QK.out.lt hneK).trans QK.out)
        have c0 := qk.cell 0
        have f0 := qk.frozen 0
        have H1 := Lib.hid (And.intro h1 (And.intro h2 (And.intro h3 (And.intro h4 h5))))
        have HQK := Lib.hid qk
        obtain ⟨AF, cF, eF⟩ := h1.form
        generalize x 10 = xA at *
        subst eF
        clear h1 h2 h3 h4 h5 qk hneK
        refine phx_st (R := fun W => ∃ (s2 : Value) (A : Option Addr) (n c : Nat), Arr W Bk 92 [s2] ∧ OwnA 34 2 encP base W s2 (ms ++ [(A, n, c)]) ∧ QL W (.agg #[.bool false, .slice A n c]) (prs (powL zl j) zl) ∧ Below base w4 W ∧ (∀ k, k < w4.heap.size → k ≠ Bk → s.ownBlock ≠ some k → W.heap[k]? = w4.heap[k]?) ∧ (s2.ownBlock = s.ownBlock ∨ ∀ k, s2.ownBlock = some k → w4.heap.size ≤ k)) (w1.setCell ⟨Bk, 0, none⟩ (.slice AF (ms ++ [(A, n, c)]).length cF)) ?_ rfl ⟨_, A, n, c, HQK.out.set 0 _, H1.out.1.keepK fun k hk => Below.heap_setCell w1 ⟨Bk, 0, none⟩ _ k (fun e => own_ne H1.out.1 HQK.out (by decide) (by rw [← (show k = Bk from e)]; exact hk)), H1.out.2.1.keepT fun b hb => Below.heap_setCell w1 ⟨Bk, 0, none⟩ _ b (fun e => TB_ne (t := 92) (cs := [.slice (some ⟨g, 0, none⟩) ms.length cap]) hb (by rw [show b = Bk from e]; exact HQK.out) (by decide)), H1.out.2.2.1.setCell (p := ⟨Bk, 0, none⟩) HBK.out _, fun k hk h1 h2 => (Below.heap_setCell w1 ⟨Bk, 0, none⟩ _ k h1).trans (H1.out.2.2.2.1 k hk h2), H1.out.2.2.2.2⟩
        go_simp
      intro x w1 hR
      simp only [putAll, dstOf, Act.put, List.map_cons, List.map_nil, List.setIfInBounds_toArray, List.set_cons_succ, List.set_cons_zero, Nat.reduceAdd]
      have HF := Lib.hid (show ∃ (s : Value) (ms' : List PM), KnS Bk Bz base (z1, z2, z3) zl s ms' w1 ∧ Arr w1 G 34 [.bool false, .slice none 0 0] ∧ Below base w w1 ∧ (∀ k, k < w.heap.size → k ≠ Bk → s0.ownBlock ≠ some k → w1.heap[k]? = w.heap[k]?) ∧ (s.ownBlock = s0.ownBlock ∨ ∀ k, s.ownBlock = some k → w.heap.size ≤ k) ∧ s.ownBlock ≠ some G ∧ n + 1 - (ms.length + 1) = n + 1 - ms'.length ∧ ms'.length ≤ 100000 from by
        obtain ⟨s2, A, n2, c, h1, h2, h3, h4, h5, h6⟩ := hR
        have hk4 := HN4.out
        have keepTB : ∀ b, TB w4 b → w1.heap[b]? = w4.heap[b]? := fun b hb => h5 b (TB_lt hb) (fun e => TB_ne hb (e ▸ hk4.bk) (by decide)) (own_TB hk4.own hb)
        have nbz : Bz ≠ Bk := fun e => by
          have e1 := hk4.bz
          rw [e] at e1
          have e2 := hk4.bk
          unfold Arr at e1 e2
          rw [e1] at e2
          injection e2 with e2
          injection e2 with _ e2 _
          exact absurd e2 (by decide)
        have gz := HQG.out.below HB4.out HQG.out.lt
        have nbg : G ≠ Bk := fun e => by
          have e1 := gz
          rw [e] at e1
          have e2 := hk4.bk
          unfold Arr at e1 e2
          rw [e1] at e2
          injection e2 with e2
          injection e2 with _ e2 _
          exact absurd e2 (by decide)
        have nz2 : ∀ g', s.ownBlock ≠ some g' → g' < w4.heap.size → s2.ownBlock ≠ some g' := fun g' hne hlt e => by
          rcases h6 with h6 | h6
          · exact hne (h6 ▸ e)
          · have := h6 g' e; omega
        refine ⟨s2, ms ++ [(A, n2, c)], ⟨h1, h2, by simp, fun i hi => ?_, (h5 Bz hk4.bz.lt nbz hk4.nz).trans hk4.bz, hk4.zv.keepT keepTB, nz2 Bz hk4.nz hk4.bz.lt⟩, (h5 G gz.lt nbg HSG.out).trans gz, (HBR.out.trans (HB4.out.mono (Nat.le_trans hbs HBR.out.size))).trans h4, fun k hk hne hne2 => ?_, ?_, nz2 G HSG.out gz.lt, by simp, ?_⟩
        · by_cases hi2 : i < ms.length
          · have e : (ms ++ [(A, n2, c)])[i] = ms[i] := List.getElem_append_left hi2
            rw [e]
            exact (hk4.el i hi2).keepT keepTB
          · have hi3 : i = ms.length := by simp at hi; omega
            subst hi3
            have e : (ms ++ [(A, n2, c)])[ms.length] = (A, n2, c) := by simp
            rw [e]
            have e2 : powL zl ms.length = prs (powL zl j) zl := by rw [← HJ.out]; rfl
            rw [e2]
            exact h3
        · have hs1 : s.ownBlock ≠ some k := by
            rcases HSO.out with q | q
            · rw [q]; exact hne2
            · intro e; have := q k e; omega
          have hkl : k < wr.heap.size := Nat.lt_of_lt_of_le hk HBR.out.size
          exact (h5 k (Nat.lt_of_lt_of_le hkl HB4.out.size) hne hs1).trans ((HB4.out.block k hkl).trans (HFR.out k hk hne hne2))
        · rcases h6 with h6 | h6
          · rw [h6]; exact HSO.out
          · exact .inr fun k hk => Nat.le_trans (Nat.le_trans HBR.out.size HB4.out.size) (h6 k hk)
        · have := HLT.out.2.2
          have := HLT.out.1
          simp
          omega)
      have hm1 : n + 1 - (ms.length + 1) < gk := by have := HLT.out; omega
      clear hR HQG HBR HFR HSO HSG HN4 QK QZ
      go_wp2_with fail
      go_roundg (n + 1 - (ms.length + 1))
      case measure => exact hm1
      case rel => exact HF
    · have z0 : ¬ (ms.length : Int) ≤ (n : Int) := by omega
      have hkn2 := hkn
      rw [hs] at hkn2
      obtain ⟨d0, d1⟩ := hkn2.at_ (show n < ms.length by omega)
      have HEL := Lib.hid (hkn.el n (by omega))
      generalize (ms[n]'(by omega)).1 = m1 at *
      generalize (ms[n]'(by omega)).2.1 = m2 at *
      generalize (ms[n]'(by omega)).2.2 = m3 at *
      have r0 := qg.cell 0
      have r1 := qg.cell 1
      have f0 := qg.frozen 0
      have f1 := qg.frozen 1
      have zj : (n : Int) < (ms.length : Int) := by omega
      have hmn : ∀ ty (W : World), (Builtin.min_ #[3, 3] ty #[.int .i64 (n : Int), .int .i64 ((ms.length : Int) - 1)]).run Tryz.prog W = .ok (.int .i64 (n : Int)) W := fun ty W => by
        rw [run_min_int2, if_neg (by omega)]
      have hres := Lib.hid ((qg.set 0 (.bool false)).set 1 (.slice m1 m2 m3))
      have HFIN := Lib.hid (show ∀ u1 u2, Pow2R Bk Bz base (z1, z2, z3) zl s0 n w (.returned (.agg #[.bool false, .slice m1 m2 m3])) ((wr.setCell ⟨G, 0, none⟩ u1).setCell ⟨G, 1, none⟩ u2) from fun u1 u2 => by
        have hgz := HG.out
        have kh : ∀ k, k ≠ G → ((wr.setCell ⟨G, 0, none⟩ u1).setCell ⟨G, 1, none⟩ u2).heap[k]? = wr.heap[k]? := fun k hk => (Below.heap_setCell _ ⟨G, 1, none⟩ u2 k hk).trans (Below.heap_setCell wr ⟨G, 0, none⟩ u1 k hk)
        have kt : ∀ b, TB wr b → ((wr.setCell ⟨G, 0, none⟩ u1).setCell ⟨G, 1, none⟩ u2).heap[b]? = wr.heap[b]? := fun b hb => kh b (fun e => TB_ne (t := 34) (cs := [.bool false, .slice none 0 0]) hb (by rw [e]; exact qg) (by decide))
        have nbk : Bk ≠ G := fun e => by
          have e1 := qg
          rw [← e] at e1
          have e2 := hkn.bk
          unfold Arr at e1 e2
          rw [e1] at e2
          injection e2 with e2
          injection e2 with _ e2 _
          exact absurd e2 (by decide)
        have hbz := HBZ.out
        refine ⟨_, s, ms, rfl, HEL.out.keepT kt, ⟨(kh Bk nbk).trans hkn.bk, hkn.own.keepK fun k hk => kh k (fun e => hsg (by rw [← e]; exact hk)), hkn.pos, fun i hi => (hkn.el i hi).keepT kt, (kh Bz (by omega)).trans hkn.bz, hkn.zv.keepT kt, hkn.nz⟩, (hbr.setCell (p := ⟨G, 0, none⟩) (by show base ≤ G; omega) _).setCell (p := ⟨G, 1, none⟩) (by show base ≤ G; omega) _, fun k hk h1 h2 => (kh k (by omega)).trans (hfr k hk h1 h2), hso, hml2⟩)
      clear hkn hkn2 hfr hso hsg hgk qg
      go_wp2_with fail
      refine bodyPost_ret (v := .agg #[.bool false, .slice m1 m2 m3]) (results_c Tryz.results50 _ _ G 34 _ _ rfl hres.out Tryz.underlying34 rfl info_poly) rfl ?_
      exact HFIN.out _ _
end Go.Proofs.YtnmidhlghhephaaGreatDoor
