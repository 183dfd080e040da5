/- package unknot: the classes that follow a class do not depend on the translation that is looked at (plain). -/
import Derived.Test.YteliflcbegcdlaaGreatDoorWwUnq
namespace Go.Proofs.YteliflcbegcdlaaGreatDoor
open Go.RowKit
set_option linter.unusedVariables false
/-- x is a translation of g -/
def Tl (g x : Gd) : Prop := ∃ c r, c < g.1.length ∧ r < g.1.length ∧ x = (trl c r g.1, trl c r g.2)
abbrev VdG (g : Gd) : Prop := Vd g.1 g.2
theorem Tl.vd {g x : Gd} (h : VdG g) (t : Tl g x) : VdG x := by
  obtain ⟨c, r, hc, hr, rfl⟩ := t
  exact trl_vd h hc hr
theorem Tl.len {g x : Gd} (t : Tl g x) : x.1.length = g.1.length := by
  obtain ⟨c, r, hc, hr, rfl⟩ := t
  exact trl_length _ _ _
theorem Tl.refl {g : Gd} (h : VdG g) : Tl g g := by
  have := h.two
  exact ⟨0, 0, by omega, by omega, by rw [trl_zero h.pX, trl_zero h.pO]⟩
theorem Tl.trans {g x y : Gd} (h : VdG g) (a : Tl g x) (b : Tl x y) : Tl g y := by
  obtain ⟨c, r, hc, hr, rfl⟩ := a
  obtain ⟨c', r', hc', hr', rfl⟩ := b
  have hl := h.len
  simp only [trl_length] at hc' hr'
  refine ⟨(c + c') % g.1.length, (r + r') % g.1.length, Nat.mod_lt _ (by omega), Nat.mod_lt _ (by omega), ?_⟩
  simp only
  rw [trl_trl hc hc', trl_trl (by omega) (by omega), hl]
theorem Tl.symm {g x : Gd} (h : VdG g) (a : Tl g x) : Tl x g := by
  obtain ⟨c, r, hc, hr, rfl⟩ := a
  have hl := h.len
  have h2 := h.two
  refine ⟨(g.1.length - c) % g.1.length, (g.1.length - r) % g.1.length, by simp only [trl_length]; exact Nat.mod_lt _ (by omega), by simp only [trl_length]; exact Nat.mod_lt _ (by omega), ?_⟩
  simp only
  have e : ∀ a, a < g.1.length → (a + (g.1.length - a) % g.1.length) % g.1.length = 0 := fun a ha => by rw [Nat.add_mod_mod, show a + (g.1.length - a) = g.1.length by omega, Nat.mod_self]
  rw [trl_trl hc (Nat.mod_lt _ (by omega)), trl_trl (by omega) (by rw [← hl]; exact Nat.mod_lt _ (by omega)), ← hl, e c hc, e r hr, trl_zero h.pX, trl_zero h.pO]
theorem lstM_isL {g : Gd} (h : VdG g) : IsL g.1 g.2 g.1.length (lstM g) := by
  have k := lstK_is g.1 g.2 (g.1.length - 1)
  rw [Nat.sub_add_cancel (by have := h.two; omega)] at k
  exact k
theorem Tl.lst {g x : Gd} (h : VdG g) (t : Tl g x) : lstM x = lstM g := by
  have hx := lstM_isL (t.vd h)
  obtain ⟨c, r, hc, hr, rfl⟩ := t
  simp only [trl_length] at hx
  exact least_trl h hc hr (lstM_isL h) hx
theorem Tl.least {g : Gd} (h : VdG g) : Tl g (lstM g) := lstM_trl h
theorem lstM_lstM {g : Gd} (h : VdG g) : lstM (lstM g) = lstM g := (Tl.least h).lst h
/-! ### rows and columns -/
theorem tr_trl {l : List Int} {c r : Nat} (h : Pm l) (hc : c < l.length) (hr : r < l.length) : tr (trl c r l) = trl r c (tr l) := by
  refine trl_ext (by rw [tr_length]; exact hr) (by rw [tr_length, tr_length, trl_length]) fun i hi => ?_
  rw [tr_length] at hi ⊢
  obtain ⟨k, hk, e1, e2⟩ := tr_get' h hi
  have e3 : gt (tr l) i = k := gt_of e2
  have e4 := gt_trl (r := r) hc hk
  rw [gt_get hk, e1] at e4
  have hp := trl_pm h hc hr
  have hlt : (k + c) % l.length < l.length := Nat.mod_lt _ (by omega)
  have e5 := gt_tr hp (k := (k + c) % l.length) (by rw [trl_length]; exact hlt)
  rw [e4] at e5
  rw [← Int.natCast_add, ← Int.natCast_emod, Int.toNat_natCast] at e5
  rw [e5, e3, ← Int.natCast_add, ← Int.natCast_emod]
theorem Tl.vw {g x : Gd} (h : VdG g) (t : Tl g x) (r : Bool) : Tl (vw r g.1, vw r g.2) (vw r x.1, vw r x.2) := by
  cases r
  · exact t
  · obtain ⟨c, d, hc, hd, rfl⟩ := t
    have hl := h.len
    refine ⟨d, c, by simp only [vw_length]; exact hd, by simp only [vw_length]; exact hc, ?_⟩
    simp only [Go.Proofs.YteliflcbegcdlaaGreatDoor.vw, if_true]
    rw [tr_trl h.pX hc hd, tr_trl h.pO (by omega) (by omega)]
/-! ### commutations -/
theorem gt_swap2 {X : List Int} {a k : Nat} (ha : a + 1 < X.length) (hk : k < X.length) : gt (swapL X a) k = gt X (if k = a then a + 1 else if k = a + 1 then a else k) := by
  have hlt : (if k = a then a + 1 else if k = a + 1 then a else k) < X.length := by split; omega; split <;> omega
  rw [gt_get hlt]
  exact gt_of ((swapL_get X a k ha).trans (List.getElem?_eq_getElem hlt))
theorem gt_del2 {X : List Int} {a k : Nat} {r : Int} (ha : a < X.length) (hk : k + 1 < X.length) : gt (delL X a r) k = lowr r (gt X (if k < a then k else k + 1)) := by
  have hlt : (if k < a then k else k + 1) < X.length := by split <;> omega
  rw [gt_get hlt]
  refine gt_of ((delL_get X a k r ha).trans ?_)
  rw [List.getElem?_eq_getElem hlt]; rfl
theorem swap_trl {X : List Int} {c r i j : Nat} (h : Pm X) (hc : c < X.length) (hr : r < X.length) (hi : i + 1 < X.length) (hj : j + 1 < X.length) (e : j = (i + c) % X.length) : swapL (trl c r X) j = trl c r (swapL X i) := by
  refine trl_ext (by rw [swapL_length]; exact hc) (by rw [swapL_length, swapL_length, trl_length]) fun k hk => ?_
  rw [swapL_length] at hk ⊢
  have hm : (k + c) % X.length < X.length := Nat.mod_lt _ (by omega)
  rw [gt_swap2 hi hk, gt_swap2 (by rw [trl_length]; exact hj) (by rw [trl_length]; exact hm)]
  have hs : (if k = i then i + 1 else if k = i + 1 then i else k) < X.length := by split; omega; split <;> omega
  rw [← gt_trl hc hs]
  congr 1
  rw [mod_small (by omega) hc] at e
  rw [mod_small hk hc, mod_small hs hc]
  split at e <;> repeat' split
  all_goals omega
/-- the rows of a translation -/
def shN (n r : Nat) (v : Int) : Int := if v + r < n then v + r else v + r - n
/-- x lies between a and b -/
def Inn (a b x : Int) : Prop := minG a b < x ∧ x < maxG a b
theorem inn_iff (a b x : Int) : Inn a b x ↔ (a < x ∧ x < b) ∨ (b < x ∧ x < a) := by
  unfold Inn minG maxG
  split <;> split <;> constructor <;> intro h <;> omega
theorem commB_inn {a b c d : Int} (h1 : a ≠ b) (h2 : c ≠ d) : commB a b c d = true ↔ (a ≠ c ∧ a ≠ d ∧ b ≠ c ∧ b ≠ d) ∧ (Inn a b c ↔ Inn a b d) := by
  rw [inn_iff, inn_iff]
  have key : commB a b c d = true ↔ ¬ (minG a b = minG c d ∨ minG a b = maxG c d ∨ maxG a b = minG c d ∨ maxG a b = maxG c d) ∧ (maxG a b < minG c d ∨ maxG c d < minG a b ∨ (minG a b < minG c d ∧ maxG c d < maxG a b) ∨ (minG c d < minG a b ∧ maxG a b < maxG c d)) := by
    unfold commB commIv
    split
    · next h => exact ⟨fun e => (by cases e), fun e => absurd h e.1⟩
    · next h => exact ⟨fun e => ⟨h, of_decide_eq_true e⟩, fun e => decide_eq_true e.2⟩
  rw [key]
  have ha : (minG a b = a ∧ maxG a b = b ∧ a < b) ∨ (minG a b = b ∧ maxG a b = a ∧ b < a) := by unfold minG maxG; split <;> split <;> omega
  have hc : (minG c d = c ∧ maxG c d = d ∧ c < d) ∨ (minG c d = d ∧ maxG c d = c ∧ d < c) := by unfold minG maxG; split <;> split <;> omega
  rcases ha with ⟨e1, e2, h3⟩ | ⟨e1, e2, h3⟩ <;> rcases hc with ⟨e3, e4, h4⟩ | ⟨e3, e4, h4⟩ <;> rw [e1, e2, e3, e4] <;> constructor <;> intro h <;> omega
theorem inn_sh {n r : Nat} {a b x : Int} (hr : r < n) (ha : 0 ≤ a ∧ a < n) (hb : 0 ≤ b ∧ b < n) (hx : 0 ≤ x ∧ x < n) (h1 : a ≠ x) (h2 : b ≠ x) : Inn (shN n r a) (shN n r b) (shN n r x) ↔ ((a + r < n ↔ b + r < n) ↔ Inn a b x) := by
  rw [inn_iff, inn_iff]
  unfold shN
  by_cases q1 : a + r < n <;> by_cases q2 : b + r < n <;> by_cases q3 : x + r < n <;> simp only [q1, q2, q3, if_true, if_false, iff_self, true_iff, iff_true, iff_false, false_iff, not_true_eq_false, not_false_eq_true] <;> constructor <;> intro h <;> omega
theorem shN_inj {n d : Nat} {a b : Int} (ha : 0 ≤ a ∧ a < n) (hb : 0 ≤ b ∧ b < n) (hd : d < n) (e : shN n d a = shN n d b) : a = b := by
  unfold shN at e; split at e <;> split at e <;> omega
theorem commB_sh {n r : Nat} {a b c d : Int} (hr : r < n) (ha : 0 ≤ a ∧ a < n) (hb : 0 ≤ b ∧ b < n) (hc : 0 ≤ c ∧ c < n) (hd : 0 ≤ d ∧ d < n) (h : commB (shN n r a) (shN n r b) (shN n r c) (shN n r d) = true) (h1 : a ≠ b) (h2 : c ≠ d) : commB a b c d = true := by
  obtain ⟨⟨n1, n2, n3, n4⟩, hi⟩ := (commB_inn (fun e => h1 (shN_inj ha hb hr e)) (fun e => h2 (shN_inj hc hd hr e))).1 h
  have m1 : a ≠ c := fun e => n1 (by rw [e])
  have m2 : a ≠ d := fun e => n2 (by rw [e])
  have m3 : b ≠ c := fun e => n3 (by rw [e])
  have m4 : b ≠ d := fun e => n4 (by rw [e])
  rw [inn_sh hr ha hb hc m1 m3, inn_sh hr ha hb hd m2 m4] at hi
  refine (commB_inn h1 h2).2 ⟨⟨m1, m2, m3, m4⟩, ?_⟩
  by_cases q : (a + r < n ↔ b + r < n)
  · simpa [q] using hi
  · have : (Inn a b c ↔ Inn a b d) := by
      constructor
      · intro k
        exact Classical.byContradiction fun k2 => q ((hi.2 ⟨fun e => absurd e q, fun e => absurd e k2⟩).2 k)
      · intro k
        exact Classical.byContradiction fun k2 => q ((hi.1 ⟨fun e => absurd e q, fun e => absurd e k2⟩).2 k)
    exact this
/-! ### a column is removed -/
/-- the translation of what is left -/
def dsh (n i c : Nat) : Nat := if i + c < n then (if c + 1 = n then 0 else c) else c - 1
theorem dsh_lt {n i c : Nat} (hn : 3 ≤ n) (hi : i < n) (hc : c < n) : dsh n i c < n - 1 := by unfold dsh; split; split <;> omega; omega
theorem dsh_col {n i j c k : Nat} (hn : 3 ≤ n) (hi : i < n) (hc : c < n) (hk : k + 1 < n) (e : j = (i + c) % n) : (if (k + dsh n i c) % (n - 1) < j then (k + dsh n i c) % (n - 1) else (k + dsh n i c) % (n - 1) + 1) = ((if k < i then k else k + 1) + c) % n := by
  have hd := dsh_lt hn hi hc
  have hs : (if k < i then k else k + 1) < n := by split <;> omega
  rw [mod_small (show k < n - 1 by omega) hd, mod_small hs hc]
  rw [mod_small hi hc] at e
  unfold dsh
  repeat' split
  all_goals (try split at e) <;> omega
theorem dsh_row {n r : Nat} {low v : Int} (hn : 3 ≤ n) (hr : r < n) (hl : 0 ≤ low ∧ low + 1 < n) (hv : 0 ≤ v ∧ v < n) (hw : shN n r (low + 1) = shN n r low + 1) : lowr (shN n r low) (shN n r v) = shN (n - 1) (dsh n (low + 1).toNat r) (lowr low v) := by
  unfold lowr shN dsh at *
  rw [show ((n - 1 : Nat) : Int) = (n : Int) - 1 by omega]
  repeat' split
  all_goals (try split at hw) <;> (try split at hw) <;> omega
theorem del_trl {X : List Int} {c r i j : Nat} {low : Int} (hn : 3 ≤ X.length) (h : Pm X) (hc : c < X.length) (hr : r < X.length) (hi : i < X.length) (e : j = (i + c) % X.length) (hl : 0 ≤ low ∧ low + 1 < X.length) (hw : shN X.length r (low + 1) = shN X.length r low + 1) :
    delL (trl c r X) j (shN X.length r low) = trl (dsh X.length i c) (dsh X.length (low + 1).toNat r) (delL X i low) := by
  have hj : j < X.length := by rw [e]; exact Nat.mod_lt _ (by omega)
  have hdl : (delL X i low).length = X.length - 1 := delL_length _ _ _ hi
  have hd1 := dsh_lt hn hi hc
  have hd2 := dsh_lt (i := (low + 1).toNat) hn (by omega) hr
  refine trl_ext (by rw [hdl]; exact hd1) (by rw [hdl, delL_length _ _ _ (by rw [trl_length]; exact hj), trl_length]) fun k hk => ?_
  rw [hdl] at hk ⊢
  have hs : (if k < i then k else k + 1) < X.length := by split <;> omega
  have hm : (k + dsh X.length i c) % (X.length - 1) < X.length - 1 := Nat.mod_lt _ (by omega)
  have hg := h.gt_rng hs
  rw [gt_del2 hi (by omega), gt_del2 (by rw [trl_length]; exact hj) (by rw [trl_length]; omega), dsh_col hn hi hc (by omega) e, trl_vd_gt h hc hr hs]
  have := dsh_row hn hr hl hg hw
  generalize gt X (if k < i then k else k + 1) = v at *
  have hlo : 0 ≤ lowr low v ∧ lowr low v < ((X.length - 1 : Nat) : Int) := by unfold lowr; split <;> omega
  rw [emod_small hlo.1 hlo.2 (by omega) (by omega)]
  unfold shN at this
  exact this
theorem getD_gt (X : List Int) (i : Nat) : X.getD i 0 = gt X i := rfl
/-- the values of a column of a translation -/
theorem trl_val {X : List Int} {c d i a : Nat} (h : Pm X) (hc : c < X.length) (hd : d < X.length) (hi : i < X.length) (e : a = (i + c) % X.length) : gt (trl c d X) a = shN X.length d (gt X i) := by
  rw [e, trl_vd_gt h hc hd hi]; rfl
theorem com_one {G : Gd} {c d i a : Nat} (h : VdG G) (hc : c < G.1.length) (hd : d < G.1.length) (hi : i + 1 < G.1.length) (ha : a + 1 < G.1.length) (e : a = (i + c) % G.1.length)
    (hk : commB (gt (trl c d G.1) a) (gt (trl c d G.2) a) (gt (trl c d G.1) (a + 1)) (gt (trl c d G.2) (a + 1)) = true) :
    commB (gt G.1 i) (gt G.2 i) (gt G.1 (i + 1)) (gt G.2 (i + 1)) = true ∧ (swapL (trl c d G.1) a, swapL (trl c d G.2) a) = (trl c d (swapL G.1 i), trl c d (swapL G.2 i)) := by
  have hl := h.len
  have e2 : a + 1 = (i + 1 + c) % G.1.length := by
    rw [mod_small (by omega) hc] at e ⊢
    split at e <;> split <;> omega
  have v3 := trl_val h.pO (c := c) (d := d) (i := i) (a := a) (by omega) (by omega) (by omega) (by rw [← hl]; exact e)
  have v4 := trl_val h.pO (c := c) (d := d) (i := i + 1) (a := a + 1) (by omega) (by omega) (by omega) (by rw [← hl]; exact e2)
  rw [← hl] at v3 v4
  rw [trl_val h.pX hc hd (by omega) e, trl_val h.pX hc hd hi e2, v3, v4] at hk
  have b1 := h.pX.gt_rng (show i < G.1.length by omega)
  have b2 := h.pX.gt_rng hi
  have b3 := h.pO.gt_rng (show i < G.2.length by omega)
  have b4 := h.pO.gt_rng (show i + 1 < G.2.length by omega)
  rw [← hl] at b3 b4
  have n1 : gt G.1 i ≠ gt G.2 i := by rw [gt_get (by omega), gt_get (by omega)]; exact h.ne i _ _
  have n2 : gt G.1 (i + 1) ≠ gt G.2 (i + 1) := by rw [gt_get (by omega), gt_get (by omega)]; exact h.ne (i + 1) _ _
  refine ⟨commB_sh hd b1 b3 b2 b4 hk n1 n2, ?_⟩
  rw [swap_trl h.pX hc hd hi ha e, swap_trl (i := i) (j := a) h.pO (by omega) (by omega) (by omega) (by omega) (by rw [← hl]; exact e)]
/-- the two rows of a column are neighbors -/
def Adj (x o : Int) : Prop := x = o + 1 ∨ o = x + 1
theorem adj_iff (x o : Int) : maxG x o = minG x o + 1 ↔ Adj x o := by
  unfold maxG minG Adj
  split <;> split <;> omega
theorem desOk_iff {X O : List Int} {a : Nat} (hl : X.length = O.length) : desOk X O a (gt X a) (gt O a) = true ↔ 3 ≤ X.length ∧ Adj (gt X a) (gt O a) ∧ ∀ k, k < X.length → k ≠ a → ¬ (gt O k = gt X a ∧ gt X k = gt O a) := by
  unfold desOk
  rw [Bool.and_eq_true, Bool.and_eq_true, decide_eq_true_eq, decide_eq_true_eq, adj_iff, and_assoc]
  refine and_congr Iff.rfl (and_congr Iff.rfl ⟨fun h k hk hne => ?_, fun h => ?_⟩)
  · have := desAll_spec a (gt X a) (gt O a) X O 0 hl h k hk (by omega) (by omega)
    rw [gt_get hk, gt_get (show k < O.length by omega)]; exact this
  · refine desAll_of a _ _ X O 0 hl fun k h1 h2 hne => ?_
    have := h k h1 (by omega)
    rw [gt_get h1, gt_get h2] at this; exact this
theorem des_one {G : Gd} {c d i a : Nat} (h : VdG G) (hc : c < G.1.length) (hd : d < G.1.length) (hi : i < G.1.length) (e : a = (i + c) % G.1.length)
    (hk : desOk (trl c d G.1) (trl c d G.2) a (gt (trl c d G.1) a) (gt (trl c d G.2) a) = true) (hA : Adj (gt G.1 i) (gt G.2 i)) :
    desOk G.1 G.2 i (gt G.1 i) (gt G.2 i) = true ∧ Tl (delL G.1 i (minG (gt G.1 i) (gt G.2 i)), delL G.2 i (minG (gt G.1 i) (gt G.2 i))) (delL (trl c d G.1) a (minG (gt (trl c d G.1) a) (gt (trl c d G.2) a)), delL (trl c d G.2) a (minG (gt (trl c d G.1) a) (gt (trl c d G.2) a))) := by
  have hl := h.len
  have ha : a < G.1.length := by rw [e]; exact Nat.mod_lt _ (by omega)
  obtain ⟨h3, hA2, hno⟩ := (desOk_iff (by rw [trl_length, trl_length]; exact hl)).1 hk
  rw [trl_length] at h3 hno
  have v1 := trl_val h.pX hc hd hi e
  have v2 : gt (trl c d G.2) a = shN G.1.length d (gt G.2 i) := by
    have := trl_val h.pO (c := c) (d := d) (i := i) (a := a) (by omega) (by omega) (by omega) (by rw [← hl]; exact e)
    rw [← hl] at this; exact this
  have b1 := h.pX.gt_rng hi
  have b2 := h.pO.gt_rng (show i < G.2.length by omega)
  rw [← hl] at b2
  rw [v1, v2] at hno hA2 ⊢
  refine ⟨(desOk_iff hl).2 ⟨h3, hA, fun k hk hne hh => ?_⟩, ?_⟩
  · have hm : (k + c) % G.1.length < G.1.length := Nat.mod_lt _ (by omega)
    refine hno _ hm (fun e3 => hne ?_) ⟨?_, ?_⟩
    · rw [e, mod_small hk hc, mod_small hi hc] at e3
      split at e3 <;> split at e3 <;> omega
    · have := trl_val h.pO (c := c) (d := d) (i := k) (a := (k + c) % G.1.length) (by omega) (by omega) (by omega) (by rw [← hl])
      rw [this, hh.1, ← hl]
    · rw [trl_val h.pX hc hd hk rfl, hh.2]
  · obtain ⟨low, hlow⟩ : ∃ l, l = minG (gt G.1 i) (gt G.2 i) := ⟨_, rfl⟩
    have hb : 0 ≤ low ∧ low + 1 < G.1.length := by
      rw [hlow]; unfold minG; unfold Adj at hA; split <;> omega
    have hw : shN G.1.length d (low + 1) = shN G.1.length d low + 1 := by
      rw [hlow]
      unfold shN minG Adj at *
      (repeat' split) <;> (repeat' split at hA2) <;> omega
    have hmn : minG (shN G.1.length d (gt G.1 i)) (shN G.1.length d (gt G.2 i)) = shN G.1.length d low := by
      rw [hlow]
      unfold shN minG Adj at *
      (repeat' split) <;> (repeat' split at hA2) <;> omega
    rw [hmn, ← hlow]
    have hdl : (delL G.1 i low).length = G.1.length - 1 := delL_length _ _ _ hi
    refine ⟨dsh G.1.length i c, dsh G.1.length (low + 1).toNat d, by simp only [hdl]; exact dsh_lt h3 hi hc, by simp only [hdl]; exact dsh_lt h3 (by omega) hd, ?_⟩
    have q1 := del_trl h3 h.pX hc hd hi e hb hw
    have q2 := del_trl (low := low) (X := G.2) (c := c) (r := d) (i := i) (j := a) (by omega) h.pO (by omega) (by omega) (by omega) (by rw [← hl]; exact e) (by rw [← hl]; exact hb) (by rw [← hl]; exact hw)
    rw [← hl] at q2
    simp only
    rw [q1, q2]
/-! ### tries -/
theorem tryM_one {g : Gd} {m : Mv} (h : VdG g) (ms : List Mv) (z : Gd) : (ms, z) ∈ tryM g [m] ↔ ms = [m] ∧ m.app g.1 g.2 = (0, z.1, z.2) := by
  have hp : ∀ l, playM g.1 g.2 l = playFrom 0 g.1 g.2 l := fun l => by
    unfold playM
    rw [if_neg (by rw [(validB_iff _ _).2 h]; simp)]
  unfold tryM
  rw [hp]
  obtain ⟨R, hR⟩ : ∃ R, m.app g.1 g.2 = R := ⟨_, rfl⟩
  obtain ⟨er, Y, P⟩ := R
  simp only [playFrom, hR]
  by_cases h0 : er = 0
  · subst h0
    simp only [if_true]
    rw [if_pos (by simp)]
    simp only [List.mem_singleton, Prod.mk.injEq, true_and]
    obtain ⟨z1, z2⟩ := z
    simp only [Prod.mk.injEq]
    exact and_congr Iff.rfl (and_congr eq_comm eq_comm)
  · simp only [h0, if_false]
    rw [if_neg (by simp)]
    simp [h0]
theorem tryM_two {g : Gd} {m m' : Mv} (h : VdG g) (ms : List Mv) (z : Gd) : (ms, z) ∈ tryM g [m, m'] ↔ ms = [m, m'] ∧ ∃ y : Gd, m.app g.1 g.2 = (0, y.1, y.2) ∧ m'.app y.1 y.2 = (0, z.1, z.2) := by
  have hp : ∀ l, playM g.1 g.2 l = playFrom 0 g.1 g.2 l := fun l => by
    unfold playM
    rw [if_neg (by rw [(validB_iff _ _).2 h]; simp)]
  unfold tryM
  rw [hp]
  obtain ⟨R, hR⟩ : ∃ R, m.app g.1 g.2 = R := ⟨_, rfl⟩
  obtain ⟨er, Y, P⟩ := R
  simp only [playFrom, hR]
  by_cases h0 : er = 0
  · subst h0
    simp only [if_true]
    obtain ⟨R2, hr2⟩ : ∃ R, m'.app Y P = R := ⟨_, rfl⟩
    obtain ⟨er2, Y2, P2⟩ := R2
    simp only [hr2]
    have key : (∃ y : Gd, ((0 : Int), Y, P) = (0, y.1, y.2) ∧ m'.app y.1 y.2 = (0, z.1, z.2)) ↔ (er2, Y2, P2) = (0, z.1, z.2) := by
      constructor
      · rintro ⟨⟨y1, y2⟩, e1, e2⟩
        injection e1 with _ e1
        injection e1 with e1 e3
        subst e1; subst e3
        rw [hr2] at e2; exact e2
      · intro e; exact ⟨(Y, P), rfl, hr2.trans e⟩
    rw [key]
    by_cases h1 : er2 = 0
    · subst h1
      simp only [if_true]
      rw [if_pos (by simp)]
      obtain ⟨z1, z2⟩ := z
      simp only [List.mem_singleton, Prod.mk.injEq, true_and]
      exact and_congr Iff.rfl (and_congr eq_comm eq_comm)
    · simp only [h1, if_false]
      rw [if_neg (by simp)]
      simp [h1]
  · simp only [h0, if_false]
    rw [if_neg (by simp)]
    simp [h0]
theorem rot_vd {l : List Int} (h : Pm l) (h2 : 2 ≤ l.length) : Pm (rotL l) := by rw [rotL_trl h h2]; exact trl_pm h (by omega) (by omega)
/-- a translation of columns or rows -/
theorem tu_app {g : Gd} (h : VdG g) (r : Bool) : (tuM r).app g.1 g.2 = (0, vw r (rotL (vw r g.1)), vw r (rotL (vw r g.2))) :=
  applyM_of h ⟨by simp [tuM], by simp [limAt, tuM], by simp [limVar, tuM]⟩ rfl
theorem tu_tl {g : Gd} (h : VdG g) (r : Bool) : Tl g (vw r (rotL (vw r g.1)), vw r (rotL (vw r g.2))) := by
  have h2 := h.two
  have hl := h.len
  cases r
  · refine ⟨g.1.length - 1, 0, by omega, by omega, ?_⟩
    simp only [vw, Bool.false_eq_true, if_false]
    rw [rotL_trl h.pX h2, rotL_trl h.pO (by omega), hl]
  · refine ⟨0, g.1.length - 1, by omega, by omega, ?_⟩
    simp only [vw, if_true]
    rw [rotR_trl h.pX h2, rotR_trl h.pO (by omega), hl]
/-- c follows the class of g -/
def Fol (g c : Gd) : Prop := ∃ (x y : Gd) (k : Int) (r : Bool) (a : Int), Tl g x ∧ (k = 2 ∨ k = 3) ∧ applyM x.1 x.2 k r a 0 = (0, y.1, y.2) ∧ lstM y = c
theorem Fol.tl {g g' c : Gd} (h : VdG g) (t : Tl g g') : Fol g c ↔ Fol g' c := by
  constructor
  · rintro ⟨x, y, k, r, a, hx, q⟩
    exact ⟨x, y, k, r, a, (t.symm h).trans (t.vd h) hx, q⟩
  · rintro ⟨x, y, k, r, a, hx, q⟩
    exact ⟨x, y, k, r, a, t.trans h hx, q⟩
theorem nbR_fol {g : Gd} {ms : List Mv} {z : Gd} {r : Bool} (h : VdG g) (hm : (ms, z) ∈ nbR g r) : Fol g (lstM z) := by
  have one : ∀ {k : Int} {i : Int} {ms : List Mv}, (k = 2 ∨ k = 3) → (ms, z) ∈ tryM g [⟨k, r, i, 0⟩] → Fol g (lstM z) := fun hk hm => by
    obtain ⟨_, q⟩ := (tryM_one h _ _).1 hm
    exact ⟨g, z, _, r, _, Tl.refl h, hk, q, rfl⟩
  have two : ∀ {k : Int} {i : Int} {r' : Bool} {ms : List Mv}, (k = 2 ∨ k = 3) → (ms, z) ∈ tryM g [tuM r', ⟨k, r, i, 0⟩] → Fol g (lstM z) := fun {k i r' ms} hk hm => by
    obtain ⟨_, y, q1, q2⟩ := (tryM_two h _ _).1 hm
    have ey : y = (vw r' (rotL (vw r' g.1)), vw r' (rotL (vw r' g.2))) := by
      rw [tu_app h r'] at q1
      injection q1 with _ q1
      injection q1 with e1 e2
      exact Prod.ext e1.symm e2.symm
    exact ⟨y, z, _, r, _, by rw [ey]; exact tu_tl h r', hk, q2, rfl⟩
  unfold nbR nb1 nb2 nb3 at hm
  rcases List.mem_append.1 hm with hm | hm
  · rcases List.mem_append.1 hm with hm | hm
    · obtain ⟨i, hi, q⟩ := List.mem_flatMap.1 hm
      unfold rmL at q
      split at q
      · exact one (.inr rfl) q
      · exact two (.inr rfl) q
    · obtain ⟨i, hi, q⟩ := List.mem_flatMap.1 hm
      exact one (.inl rfl) q
  · exact two (.inl rfl) hm
theorem nbrs_fol {g : Gd} {ms : List Mv} {z : Gd} (h : VdG g) (hm : (ms, z) ∈ nbrs g) : Fol g (lstM z) := by
  unfold nbrs at hm
  rcases List.mem_append.1 hm with hm | hm
  · exact nbR_fol h hm
  · exact nbR_fol h hm
theorem Tl.lst_eq {z y : Gd} (h : VdG z) (t : Tl z y) : lstM z = lstM y := (t.lst h).symm
theorem trl_back {l : List Int} {c d c1 d1 c2 d2 : Nat} (hc1 : c1 < l.length) (hc2 : c2 < l.length) (hc : (c1 + c2) % l.length = c) (hd : (d1 + d2) % l.length = d) : trl c d l = trl c2 d2 (trl c1 d1 l) := by
  rw [trl_trl hc1 hc2, hc, hd]
theorem cols2 {X O : List Int} {a : Nat} (h : commB (gt X a) (gt O a) (gt X (a + 1)) (gt O (a + 1)) = true) : colsL X O 2 a 0 = (0, swapL X a, swapL O a) := by
  have h : commB (X.getD a 0) (O.getD a 0) (X.getD (a + 1) 0) (O.getD (a + 1) 0) = true := h
  unfold colsL
  rw [if_neg (by decide), if_pos rfl, if_pos h]
theorem cols3 {X O : List Int} {a : Nat} (h : desOk X O a (gt X a) (gt O a) = true) : colsL X O 3 a 0 = (0, delL X a (minG (gt X a) (gt O a)), delL O a (minG (gt X a) (gt O a))) := by
  have h : desOk X O a (X.getD a 0) (O.getD a 0) = true := h
  unfold colsL
  rw [if_neg (by decide), if_neg (by decide), if_pos rfl, if_pos h]
  rfl
theorem fol_nbrs {g c : Gd} (h : VdG g) (hf : Fol g c) : ∃ ms z, (ms, z) ∈ nbrs g ∧ lstM z = c := by
  obtain ⟨x, y, k, r, a, hx, hk, happ, hc⟩ := hf
  have hxv := hx.vd h
  have h2 := h.two
  have hl := h.len
  obtain ⟨_, hr, Y, P, hcol, ey1, ey2⟩ := applyM_inv happ
  have hG : VdG (vw r g.1, vw r g.2) := vw_vd h
  obtain ⟨c0, d0, hc0, hd0, ex⟩ := hx.vw h r
  simp only [vw_length] at hc0 hd0
  injection ex with ex1 ex2
  have hxl := hx.len
  have hlG : (vw r g.1).length = g.1.length := vw_length _ _
  have inR : ∀ z, (∃ ms, (ms, z) ∈ nbR g r) → lstM z = c → ∃ ms z, (ms, z) ∈ nbrs g ∧ lstM z = c := fun z ⟨ms, hm⟩ e => by
    refine ⟨ms, z, ?_, e⟩
    unfold nbrs
    cases r
    · exact List.mem_append_left _ hm
    · exact List.mem_append_right _ hm
  have hlst : ∀ z : Gd, VdG z → Tl z y → lstM z = c := fun z hz t => by rw [← hc]; exact t.lst_eq hz
  obtain ⟨hk14, ⟨ha0, ha1⟩, _, _⟩ := hr
  rw [hxl] at ha1
  obtain ⟨j, rfl⟩ : ∃ j : Nat, a = j := ⟨a.toNat, by omega⟩
  simp only [Int.toNat_natCast] at hcol
  rcases hk with rfl | rfl
  · have hj : j + 1 < g.1.length := by simp only [limAt] at ha1; simp at ha1; omega
    unfold colsL at hcol
    rw [if_neg (by decide), if_pos rfl] at hcol
    split at hcol
    · next hcm =>
      injection hcol with _ hcol
      injection hcol with eY eP
      simp only [getD_gt] at hcm
      rw [ex1, ex2] at hcm
      rw [ex1] at eY
      rw [ex2] at eP
      have hie : j = ((j + (g.1.length - c0)) % g.1.length + c0) % g.1.length := by
        rw [Nat.mod_add_mod, show j + (g.1.length - c0) + c0 = j + g.1.length by omega, Nat.add_mod_right, Nat.mod_eq_of_lt (by omega)]
      obtain ⟨i, hi⟩ : ∃ i, i = (j + (g.1.length - c0)) % g.1.length := ⟨_, rfl⟩
      have hilt : i < g.1.length := by rw [hi]; exact Nat.mod_lt _ (by omega)
      rw [← hi] at hie
      by_cases hi1 : i + 1 < g.1.length
      · obtain ⟨q1, q2⟩ := com_one hG (by simp only [hlG]; exact hc0) (by simp only [hlG]; exact hd0) (by simp only [hlG]; exact hi1) (by simp only [hlG]; exact hj) (by simp only [hlG]; exact hie) hcm
        simp only at q1 q2
        have hcl : colsL (vw r g.1) (vw r g.2) 2 i 0 = (0, swapL (vw r g.1) i, swapL (vw r g.2) i) := by
          exact cols2 q1
        have hir : inRange 2 (i : Int) 0 g.1.length := ⟨by omega, by simp [limAt]; omega, by simp [limVar]⟩
        have hap := applyM_of (rows := r) (k := 2) (a := (i : Int)) (v := 0) h hir (by simpa using hcl)
        have hzv := applyM_res_vd hap
        refine inR (vw r (swapL (vw r g.1) i), vw r (swapL (vw r g.2) i)) ⟨[coM r i], ?_⟩ (hlst _ hzv ?_)
        · unfold nbR nb2
          exact List.mem_append_left _ (List.mem_append_right _ (List.mem_flatMap.2 ⟨i, List.mem_range.2 (by omega), (tryM_one h _ _).2 ⟨rfl, hap⟩⟩))
        · have hsv : VdG (swapL (vw r g.1) i, swapL (vw r g.2) i) := swapL_vd hG (by simp only [hlG]; exact hi1)
          have t : Tl (swapL (vw r g.1) i, swapL (vw r g.2) i) (Y, P) := ⟨c0, d0, by simp only [swapL_length, hlG]; exact hc0, by simp only [swapL_length, hlG]; exact hd0, by rw [← eY, ← eP]; exact q2⟩
          have := t.vw hsv r
          rw [show y = (vw r Y, vw r P) from Prod.ext ey1 ey2]
          exact this
      · have hin : i = g.1.length - 1 := by omega
        have hRv : VdG (rotL (vw r g.1), rotL (vw r g.2)) := rotL_vd hG
        have hRl : (rotL (vw r g.1)).length = g.1.length := by rw [rotL_length, hlG]
        have hc1 : (1 + c0) % g.1.length < g.1.length := Nat.mod_lt _ (by omega)
        have bk : ∀ l : List Int, Pm l → l.length = g.1.length → trl c0 d0 l = trl ((1 + c0) % g.1.length) d0 (rotL l) := fun l hp hll => by
          rw [rotL_trl hp (by omega)]
          refine trl_back (by omega) (by omega) ?_ ?_
          · rw [hll, Nat.add_mod_mod, show g.1.length - 1 + (1 + c0) = c0 + g.1.length by omega, Nat.add_mod_right, Nat.mod_eq_of_lt hc0]
          · rw [hll, Nat.zero_add, Nat.mod_eq_of_lt hd0]
        have k1 := bk (vw r g.1) hG.pX hlG
        have k2 := bk (vw r g.2) hG.pO (by rw [vw_length]; omega)
        simp only [k1, k2] at hcm eY eP
        obtain ⟨q1, q2⟩ := com_one (i := g.1.length - 2) (a := j) hRv (by simp only [hRl]; exact hc1) (by simp only [hRl]; exact hd0) (by simp only [hRl]; omega) (by simp only [hRl]; exact hj) (by
          simp only [hRl]
          rw [Nat.add_mod_mod, hie, hin, show g.1.length - 2 + (1 + c0) = g.1.length - 1 + c0 by omega]) hcm
        simp only at q1 q2
        have hap1 := tu_app h r
        have hyv := (tu_tl h r).vd h
        have hyl := (tu_tl h r).len
        have hww : ∀ l : List Int, Pm l → 2 ≤ l.length → vw r (vw r (rotL (vw r l))) = rotL (vw r l) := fun l hp hll => vw_vw (rot_vd (by cases r; exact hp; exact tr_pm hp) (by rw [vw_length]; exact hll))
        have hcl : colsL (vw r (vw r (rotL (vw r g.1)))) (vw r (vw r (rotL (vw r g.2)))) 2 (g.1.length - 2) 0 = (0, swapL (rotL (vw r g.1)) (g.1.length - 2), swapL (rotL (vw r g.2)) (g.1.length - 2)) := by
          rw [hww _ h.pX h2, hww _ h.pO (by omega)]
          exact cols2 q1
        have hir : inRange 2 ((g.1.length : Int) - 2) 0 (vw r (rotL (vw r g.1))).length := ⟨by omega, by simp only at hyl; rw [hyl]; simp [limAt]; omega, by simp [limVar]⟩
        have hap := applyM_of (rows := r) (k := 2) (a := (g.1.length : Int) - 2) (v := 0) hyv hir (by rw [show ((g.1.length : Int) - 2).toNat = g.1.length - 2 by omega]; simpa using hcl)
        have hzv := applyM_res_vd hap
        refine inR (vw r (swapL (rotL (vw r g.1)) (g.1.length - 2)), vw r (swapL (rotL (vw r g.2)) (g.1.length - 2))) ⟨[tuM r, coM r ((g.1.length : Int) - 2)], ?_⟩ (hlst _ hzv ?_)
        · unfold nbR nb3
          exact List.mem_append_right _ ((tryM_two h _ _).2 ⟨rfl, (vw r (rotL (vw r g.1)), vw r (rotL (vw r g.2))), hap1, hap⟩)
        · have hsv : VdG (swapL (rotL (vw r g.1)) (g.1.length - 2), swapL (rotL (vw r g.2)) (g.1.length - 2)) := swapL_vd hRv (by simp only [hRl]; omega)
          have t : Tl (swapL (rotL (vw r g.1)) (g.1.length - 2), swapL (rotL (vw r g.2)) (g.1.length - 2)) (Y, P) := ⟨(1 + c0) % g.1.length, d0, by simp only [swapL_length, hRl]; exact hc1, by simp only [swapL_length, hRl]; exact hd0, by rw [← eY, ← eP]; exact q2⟩
          have := t.vw hsv r
          rw [show y = (vw r Y, vw r P) from Prod.ext ey1 ey2]
          exact this
    · injection hcol with hcol _; cases hcol
  · have hj : j < g.1.length := by simp only [limAt] at ha1; simp at ha1; omega
    unfold colsL at hcol
    rw [if_neg (by decide), if_neg (by decide), if_pos rfl] at hcol
    split at hcol
    · next hcm =>
      injection hcol with _ hcol
      injection hcol with eY eP
      simp only [getD_gt] at hcm eY eP
      rw [ex1, ex2] at hcm eY eP
      have hie : j = ((j + (g.1.length - c0)) % g.1.length + c0) % g.1.length := by
        rw [Nat.mod_add_mod, show j + (g.1.length - c0) + c0 = j + g.1.length by omega, Nat.add_mod_right, Nat.mod_eq_of_lt hj]
      obtain ⟨i, hi⟩ : ∃ i, i = (j + (g.1.length - c0)) % g.1.length := ⟨_, rfl⟩
      have hilt : i < g.1.length := by rw [hi]; exact Nat.mod_lt _ (by omega)
      rw [← hi] at hie
      have hir : inRange 3 (i : Int) 0 g.1.length := ⟨by omega, by simp [limAt]; omega, by simp [limVar]⟩
      by_cases hA : Adj (gt (vw r g.1) i) (gt (vw r g.2) i)
      · obtain ⟨q1, t⟩ := des_one (G := (vw r g.1, vw r g.2)) hG (by simp only [hlG]; exact hc0) (by simp only [hlG]; exact hd0) (by simp only [hlG]; exact hilt) (by simp only [hlG]; exact hie) hcm hA
        simp only at q1 t
        rw [eY, eP] at t
        have hcl : colsL (vw r g.1) (vw r g.2) 3 i 0 = (0, delL (vw r g.1) i (minG (gt (vw r g.1) i) (gt (vw r g.2) i)), delL (vw r g.2) i (minG (gt (vw r g.1) i) (gt (vw r g.2) i))) := by
          exact cols3 q1
        have hap := applyM_of (rows := r) (k := 3) (a := (i : Int)) (v := 0) h hir (by simpa using hcl)
        have hzv := applyM_res_vd hap
        have hsv := delL_vd hG (by simp only [hlG]; exact hilt) q1
        have t2 := t.vw hsv r
        rw [show (vw r Y, vw r P) = y from (Prod.ext ey1 ey2).symm] at t2
        refine inR _ ⟨[rmM r i], ?_⟩ (hlst _ hzv t2)
        unfold nbR nb1
        refine List.mem_append_left _ (List.mem_append_left _ (List.mem_flatMap.2 ⟨i, List.mem_range.2 hilt, ?_⟩))
        have : rmL g r i = [rmM r i] := by
          unfold rmL
          rw [if_pos (by rw [hap])]
        rw [this]
        exact (tryM_one h _ _).2 ⟨rfl, hap⟩
      · -- the two rows are the first and the last one
        have h3 := ((desOk_iff (by rw [trl_length, trl_length]; exact hG.len)).1 hcm)
        rw [trl_length, hlG] at h3
        obtain ⟨h3, hA2, _⟩ := h3
        have hO2 : (vw r g.2).length = g.1.length := by rw [vw_length]; exact hl.symm
        have b1 := Pm.gt_rng (l := vw r g.1) hG.pX (i := i) (by omega)
        have b2 := Pm.gt_rng (l := vw r g.2) hG.pO (i := i) (by omega)
        rw [hlG] at b1
        rw [hO2] at b2
        have v1 := trl_val (X := vw r g.1) hG.pX (c := c0) (d := d0) (i := i) (a := j) (by omega) (by omega) (by omega) (by rw [hlG]; exact hie)
        have v2 := trl_val (X := vw r g.2) hG.pO (c := c0) (d := d0) (i := i) (a := j) (by omega) (by omega) (by omega) (by rw [hO2]; exact hie)
        rw [hlG] at v1
        rw [hO2] at v2
        rw [v1, v2] at hA2
        have hends : (gt (vw r g.1) i = 0 ∧ gt (vw r g.2) i = g.1.length - 1) ∨ (gt (vw r g.2) i = 0 ∧ gt (vw r g.1) i = g.1.length - 1) := by
          unfold Adj shN at *
          split at hA2 <;> split at hA2 <;> omega
        have cross : ∀ l : List Int, Pm l → 2 ≤ l.length → vw r (vw (!r) (rotL (vw (!r) l))) = trl 0 (l.length - 1) (vw r l) := fun l hp hll => by
          cases r
          · simp only [Bool.not_false, vw, Bool.false_eq_true, if_false, if_true]
            exact rotR_trl hp hll
          · simp only [Bool.not_true, vw, Bool.false_eq_true, if_false, if_true]
            have := rotR_trl (tr_pm hp) (by rw [tr_length]; exact hll)
            rw [tr_tr hp, tr_length] at this
            exact this
        have hap1 := tu_app h (!r)
        have hyv := (tu_tl h (!r)).vd h
        have hyl := (tu_tl h (!r)).len
        have e1 := cross _ h.pX h2
        have e2 := cross _ h.pO (by omega)
        rw [← hl] at e2
        have hT : VdG (trl 0 (g.1.length - 1) (vw r g.1), trl 0 (g.1.length - 1) (vw r g.2)) := trl_vd hG (by simp only [hlG]; omega) (by simp only [hlG]; omega)
        have hTl : (trl 0 (g.1.length - 1) (vw r g.1)).length = g.1.length := by rw [trl_length, hlG]
        have bk : ∀ l : List Int, l.length = g.1.length → trl c0 d0 l = trl c0 ((1 + d0) % g.1.length) (trl 0 (g.1.length - 1) l) := fun l hll => by
          refine trl_back (by omega) (by omega) ?_ ?_
          · rw [hll, Nat.zero_add, Nat.mod_eq_of_lt hc0]
          · rw [hll, Nat.add_mod_mod, show g.1.length - 1 + (1 + d0) = d0 + g.1.length by omega, Nat.add_mod_right, Nat.mod_eq_of_lt hd0]
        have k1 := bk (vw r g.1) hlG
        have k2 := bk (vw r g.2) hO2
        simp only [k1, k2] at hcm eY eP
        have w1 := trl_val (X := vw r g.1) hG.pX (c := 0) (d := g.1.length - 1) (i := i) (a := i) (by omega) (by omega) (by omega) (by rw [hlG, Nat.add_zero]; exact (Nat.mod_eq_of_lt hilt).symm)
        have w2 := trl_val (X := vw r g.2) hG.pO (c := 0) (d := g.1.length - 1) (i := i) (a := i) (by omega) (by omega) (by omega) (by rw [hO2, Nat.add_zero]; exact (Nat.mod_eq_of_lt hilt).symm)
        rw [hlG] at w1
        rw [hO2] at w2
        have hA3 : Adj (gt (trl 0 (g.1.length - 1) (vw r g.1)) i) (gt (trl 0 (g.1.length - 1) (vw r g.2)) i) := by
          rw [w1, w2]
          unfold Adj shN
          rcases hends with ⟨p1, p2⟩ | ⟨p1, p2⟩ <;> rw [p1, p2] <;> (repeat' split) <;> omega
        obtain ⟨q1, t⟩ := des_one (G := (trl 0 (g.1.length - 1) (vw r g.1), trl 0 (g.1.length - 1) (vw r g.2))) hT (by simp only [hTl]; exact hc0) (by simp only [hTl]; exact Nat.mod_lt _ (by omega)) (by simp only [hTl]; exact hilt) (by simp only [hTl]; exact hie) hcm hA3
        simp only at q1 t
        rw [eY, eP] at t
        have hcl : colsL (vw r (vw (!r) (rotL (vw (!r) g.1)))) (vw r (vw (!r) (rotL (vw (!r) g.2)))) 3 i 0 = (0, delL (trl 0 (g.1.length - 1) (vw r g.1)) i (minG (gt (trl 0 (g.1.length - 1) (vw r g.1)) i) (gt (trl 0 (g.1.length - 1) (vw r g.2)) i)), delL (trl 0 (g.1.length - 1) (vw r g.2)) i (minG (gt (trl 0 (g.1.length - 1) (vw r g.1)) i) (gt (trl 0 (g.1.length - 1) (vw r g.2)) i))) := by
          rw [e1, e2]
          exact cols3 q1
        have hir2 : inRange 3 (i : Int) 0 (vw (!r) (rotL (vw (!r) g.1))).length := by simp only at hyl; rw [hyl]; exact hir
        have hap := applyM_of (rows := r) (k := 3) (a := (i : Int)) (v := 0) hyv hir2 (by simpa using hcl)
        have hzv := applyM_res_vd hap
        have hsv := delL_vd hT (by simp only [hTl]; exact hilt) q1
        have t2 := t.vw hsv r
        rw [show (vw r Y, vw r P) = y from (Prod.ext ey1 ey2).symm] at t2
        refine inR _ ⟨[tuM (!r), rmM r i], ?_⟩ (hlst _ hzv t2)
        unfold nbR nb1
        refine List.mem_append_left _ (List.mem_append_left _ (List.mem_flatMap.2 ⟨i, List.mem_range.2 hilt, ?_⟩))
        have : rmL g r i = [tuM (!r), rmM r i] := by
          unfold rmL
          rw [if_neg]
          intro h0
          rw [applyM_vw h hir] at h0
          have hcl2 : colsL (vw r g.1) (vw r g.2) 3 i 0 = (6, [], []) := by
            unfold colsL
            rw [if_neg (by decide), if_neg (by decide), if_pos rfl, if_neg]
            intro hd
            exact hA ((desOk_iff hG.len).1 hd).2.1
          simp only [Int.toNat_natCast, Int.toNat_zero, hcl2] at h0
          cases h0
        rw [this]
        exact (tryM_two h _ _).2 ⟨rfl, _, hap1, hap⟩
    · injection hcol with hcol _; cases hcol
end Go.Proofs.YteliflcbegcdlaaGreatDoor
