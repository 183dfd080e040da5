/- The grids of size at most 6 of one component whose determinant is that of the unknot lead to the grid of size 2 (plain). -/
import Derived.Test.YteliflcbegcdlaaGreatDoorWwGdk
namespace Go.Proofs.YteliflcbegcdlaaGreatDoor
open Go.RowKit
set_option linter.unusedVariables false
theorem lst0 {g : Gd} (h : VdG g) : gt (lstM g).1 0 = 0 := by
  have h2 := h.two
  obtain ⟨i, hi, e⟩ := lst_cand g.1 g.2 (g.1.length - 1)
  have e2 : lstM g = cand g.1 g.2 i := e
  rw [e2]
  unfold cand
  simp only
  have hil : i < g.1.length := by omega
  have hm := h.pX.gt_rng hil
  have q := trl_vd_gt h.pX (c := (g.1.length - i) % g.1.length) (r := (g.1.length - (gt g.1 i).toNat) % g.1.length) (i := i) (Nat.mod_lt _ (by omega)) (Nat.mod_lt _ (by omega)) hil
  rw [Nat.add_mod_mod, show i + (g.1.length - i) = g.1.length by omega, Nat.mod_self] at q
  rw [q]
  by_cases h0 : gt g.1 i = 0
  · rw [h0]
    simp
  · rw [Nat.mod_eq_of_lt (show g.1.length - (gt g.1 i).toNat < g.1.length by omega)]
    rw [if_neg (by omega)]
    omega
theorem nadj_no {n : Nat} {x o : Int} (hx : 0 ≤ x ∧ x < n) (ho : 0 ≤ o ∧ o < n) (hne : x ≠ o) (h : nadj n x o ≠ true) : Adj x o ∨ (x = 0 ∧ o = n - 1) ∨ (o = 0 ∧ x = n - 1) := by
  unfold Adj
  by_cases a1 : x = o + 1
  · exact .inl (.inl a1)
  by_cases a2 : o = x + 1
  · exact .inl (.inr a2)
  by_cases a3 : x = o + n - 1
  · omega
  by_cases a4 : o = x + n - 1
  · omega
  exact absurd (decide_eq_true ⟨hne, a1, a2, a3, a4⟩) h
/-- the finite search, for the first X in the first row -/
theorem srch {g : Gd} (h : VdG g) (h3 : 3 ≤ g.1.length) (h6 : g.1.length ≤ 6) (h0 : gt g.1 0 = 0) (hc : comp g.1 g.2 = 1) (hd : DU g) : ∃ r i, i < g.1.length ∧ nadj g.1.length (gt (vw r g.1) i) (gt (vw r g.2) i) ≠ true := by
  refine Classical.byContradiction fun hno => ?_
  have hall : ∀ r i, i < g.1.length → nadj g.1.length (gt (vw r g.1) i) (gt (vw r g.2) i) = true := fun r i hi => Classical.byContradiction fun k => hno ⟨r, i, hi, k⟩
  have hl := h.len
  have hchk : chk g.1.length = true := by
    have : g.1.length = 3 ∨ g.1.length = 4 ∨ g.1.length = 5 ∨ g.1.length = 6 := by omega
    rcases this with e | e | e | e <;> rw [e]
    · exact chk3
    · exact chk4
    · exact chk5
    · exact chk6
  obtain ⟨X, O⟩ := g
  simp only at h3 h6 h0 hc hl hchk hall
  cases X with
  | nil => simp at h3
  | cons x X =>
    have hx0 : x = 0 := h0
    subst hx0
    have pX := h.pX
    have pO := h.pO
    simp only at pX pO
    have hn := List.nodup_cons.1 pX.2
    unfold chk at hchk
    have hX : X ∈ pk ((0 :: X).length - 1) ((rng (0 :: X).length).erase 0) := by
      simp only [List.length_cons, Nat.add_sub_cancel]
      refine mem_pk X _ hn.2 fun y hy => ?_
      refine (List.mem_erase_of_ne (fun e : y = 0 => hn.1 (by rw [← e]; exact hy))).2 (mem_rng ?_)
      have := pX.1 y (by simp [hy])
      simpa using this
    have h1 := List.all_eq_true.1 hchk X hX
    have hO : O ∈ pkO (0 :: X).length (0 :: X) (rng (0 :: X).length) := by
      refine mem_pkO _ _ _ _ hl.symm pO.2 (fun y hy => mem_rng ?_) (fun k hk => ?_)
      · have := pO.1 y hy
        rw [← hl] at this
        exact this
      · exact hall false k hk
    have h2 := List.all_eq_true.1 h1 O hO
    have hr : rowsN (0 :: X).length (0 :: X) O = true := by
      unfold rowsN
      refine List.all_eq_true.2 fun k hk => ?_
      exact hall true k (List.mem_range.1 hk)
    rw [hr, decide_eq_true hc, decide_eq_true hd] at h2
    cases h2
/-- no two columns make a component of their own -/
theorem no_pair {X O : List Int} {i : Nat} (h : Vd X O) (h3 : 3 ≤ X.length) (hc : comp X O = 1) (hi : i < X.length) : ∀ k, k < X.length → k ≠ i → ¬ (gt O k = gt X i ∧ gt X k = gt O i) := by
  rintro k hk hne ⟨e1, e2⟩
  have f1 : fC X O k = i := fC_uniq h hi e1.symm
  have f2 : fC X O i = k := fC_uniq h hk e2
  have hp := fC_perm h
  obtain ⟨m, hm, m1, m2⟩ : ∃ m, m < X.length ∧ m ≠ i ∧ m ≠ k := by
    by_cases a0 : i ≠ 0 ∧ k ≠ 0
    · exact ⟨0, by omega, Ne.symm a0.1, Ne.symm a0.2⟩
    · by_cases a1 : i ≠ 1 ∧ k ≠ 1
      · exact ⟨1, by omega, Ne.symm a1.1, Ne.symm a1.2⟩
      · exact ⟨2, by omega, by omega, by omega⟩
  have stay : ∀ t, itr (fC X O) t i = i ∨ itr (fC X O) t i = k := fun t => by
    induction t with
    | zero => exact .inl rfl
    | succ t ih =>
      have : itr (fC X O) (t + 1) i = fC X O (itr (fC X O) t i) := by
        rw [show t + 1 = 1 + t by omega, itr_add]; rfl
      rw [this]
      rcases ih with e | e <;> rw [e]
      · exact .inr f2
      · exact .inl f1
  obtain ⟨a, ha, ra⟩ := exists_head hp i hi
  obtain ⟨b, hb, rb⟩ := exists_head hp m hm
  have hab : a = b := by
    unfold comp cls at hc
    obtain ⟨z, hz⟩ := List.length_eq_one_iff.1 hc
    rw [hz] at ha hb
    rw [List.mem_singleton.1 ha, List.mem_singleton.1 hb]
  subst hab
  have hal : a < X.length := ((mem_heads hp).1 ha).1
  obtain ⟨t, ht⟩ := (hp.symm hal ra).trans rb
  rcases stay t with e | e <;> rw [ht] at e <;> omega
theorem fol_adj {g : Gd} {r : Bool} {i : Nat} (h : VdG g) (h3 : 3 ≤ g.1.length) (hc : comp g.1 g.2 = 1) (hi : i < g.1.length) (hA : Adj (gt (vw r g.1) i) (gt (vw r g.2) i)) : ∃ y : Gd, Fol g (lstM y) ∧ VdG y ∧ y.1.length = g.1.length - 1 ∧ Same2 g y ∧ comp y.1 y.2 = comp g.1 g.2 := by
  have hG : VdG (vw r g.1, vw r g.2) := vw_vd h
  have hlG : (vw r g.1).length = g.1.length := vw_length _ _
  have hcG : comp (vw r g.1) (vw r g.2) = 1 := by rw [comp_vw h]; exact hc
  have hd : desOk (vw r g.1) (vw r g.2) i (gt (vw r g.1) i) (gt (vw r g.2) i) = true :=
    (desOk_iff hG.len).2 ⟨by rw [hlG]; exact h3, hA, no_pair hG (by simp only [hlG]; exact h3) hcG (by simp only [hlG]; exact hi)⟩
  have hir : inRange 3 (i : Int) 0 g.1.length := ⟨by omega, by simp [limAt]; omega, by simp [limVar]⟩
  have hap := applyM_of (rows := r) (k := 3) (a := (i : Int)) (v := 0) h hir (by simpa using cols3 hd)
  refine ⟨(vw r (delL (vw r g.1) i (minG (gt (vw r g.1) i) (gt (vw r g.2) i))), vw r (delL (vw r g.2) i (minG (gt (vw r g.1) i) (gt (vw r g.2) i)))), ⟨g, _, 3, r, i, Tl.refl h, .inr rfl, hap, rfl⟩, applyM_res_vd hap, ?_, apply_same hap, comp_apply hap⟩
  show (vw r (delL (vw r g.1) i (minG (gt (vw r g.1) i) (gt (vw r g.2) i)))).length = g.1.length - 1
  rw [vw_length, delL_length _ _ _ (by rw [hlG]; exact hi), hlG]
theorem fol_nadj {g : Gd} {r : Bool} {i : Nat} (h : VdG g) (h3 : 3 ≤ g.1.length) (hc : comp g.1 g.2 = 1) (hi : i < g.1.length) (hA : nadj g.1.length (gt (vw r g.1) i) (gt (vw r g.2) i) ≠ true) : ∃ y : Gd, Fol g (lstM y) ∧ VdG y ∧ y.1.length = g.1.length - 1 ∧ Same2 g y ∧ comp y.1 y.2 = comp g.1 g.2 := by
  have hG : VdG (vw r g.1, vw r g.2) := vw_vd h
  have hl := h.len
  have h2 := h.two
  have hlG : (vw r g.1).length = g.1.length := vw_length _ _
  have hO2 : (vw r g.2).length = g.1.length := by rw [vw_length]; exact hl.symm
  have b1 := Pm.gt_rng (l := vw r g.1) hG.pX (i := i) (by omega)
  have b2 := Pm.gt_rng (l := vw r g.2) hG.pO (i := i) (by omega)
  rw [hlG] at b1
  rw [hO2] at b2
  have hne : gt (vw r g.1) i ≠ gt (vw r g.2) i := by rw [gt_get (by omega), gt_get (by omega)]; exact hG.ne i _ _
  rcases nadj_no b1 b2 hne hA with hA | hends
  · exact fol_adj h h3 hc hi hA
  · have cross : ∀ l : List Int, Pm l → 2 ≤ l.length → vw r (vw (!r) (rotL (vw (!r) l))) = trl 0 (l.length - 1) (vw r l) := fun l hp hll => by
      cases r
      · simp only [Bool.not_false, vw, Bool.false_eq_true, if_false, if_true]
        exact rotR_trl hp hll
      · simp only [Bool.not_true, vw, Bool.false_eq_true, if_false, if_true]
        have := rotR_trl (tr_pm hp) (by rw [tr_length]; exact hll)
        rw [tr_tr hp, tr_length] at this
        exact this
    have ht := tu_tl h (!r)
    have hyv := ht.vd h
    have hyl := ht.len
    obtain ⟨s1, s2⟩ := tl_same h ht
    have e1 := cross _ h.pX h2
    have e2 := cross _ h.pO (by omega)
    rw [← hl] at e2
    have w1 := trl_val (X := vw r g.1) hG.pX (c := 0) (d := g.1.length - 1) (i := i) (a := i) (by omega) (by omega) (by omega) (by rw [hlG, Nat.add_zero]; exact (Nat.mod_eq_of_lt hi).symm)
    have w2 := trl_val (X := vw r g.2) hG.pO (c := 0) (d := g.1.length - 1) (i := i) (a := i) (by omega) (by omega) (by omega) (by rw [hO2, Nat.add_zero]; exact (Nat.mod_eq_of_lt hi).symm)
    rw [hlG] at w1
    rw [hO2] at w2
    obtain ⟨y, y1, y2, y3, y4, y5⟩ := fol_adj (r := r) (i := i) hyv (by rw [hyl]; exact h3) (by rw [s2]; exact hc) (by rw [hyl]; exact hi) (by
      simp only [e1, e2]
      rw [w1, w2]
      unfold Adj shN
      rcases hends with ⟨p1, p2⟩ | ⟨p1, p2⟩ <;> rw [p1, p2] <;> (repeat' split) <;> omega)
    exact ⟨y, (Fol.tl h ht).2 y1, y2, by rw [y3, hyl], s1.trans y4, by rw [y5, s2]⟩
/-- a class leads to another one -/
inductive RC : Gd → Gd → Prop
  | refl (a : Gd) : RC a a
  | head {a b c : Gd} : Fol a b → RC b c → RC a c
theorem to_two : ∀ (n : Nat) (g : Gd), VdG g → g.1.length = n → n ≤ 6 → comp g.1 g.2 = 1 → DU g → ∃ c : Gd, RC (lstM g) c ∧ c.1.length = 2
  | 0, g, h, hn, _, _, _ => by have := h.two; omega
  | n + 1, g, h, hn, h6, hc, hd => by
    by_cases h2 : g.1.length = 2
    · exact ⟨lstM g, .refl _, by rw [lstM_len h]; exact h2⟩
    have h3 : 3 ≤ g.1.length := by have := h.two; omega
    have ht := Tl.least h
    have hv := ht.vd h
    have hll := ht.len
    obtain ⟨s1, s2⟩ := tl_same h ht
    obtain ⟨r, i, hi, hA⟩ := srch hv (by omega) (by omega) (lst0 h) (by rw [s2]; exact hc) (hd.same s1)
    obtain ⟨y, y1, y2, y3, y4, y5⟩ := fol_nadj hv (by omega) (by rw [s2]; exact hc) hi hA
    obtain ⟨c, c1, c2⟩ := to_two n y y2 (by omega) (by omega) (by rw [y5, s2]; exact hc) ((hd.same s1).same y4)
    exact ⟨c, .head y1 c1, c2⟩
end Go.Proofs.YteliflcbegcdlaaGreatDoor
