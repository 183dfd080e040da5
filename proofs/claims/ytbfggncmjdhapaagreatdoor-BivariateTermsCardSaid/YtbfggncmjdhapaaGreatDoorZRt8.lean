/- The text of a polynomial in two variables tells it: plain. -/
import Derived.Test.YtbfggncmjdhapaaGreatDoorZPhm
namespace Go.Proofs.YtbfggncmjdhapaaGreatDoor
set_option linter.unusedVariables false

/-- the first byte, if there is one, is not in P -/
def nsP (P : UInt8 → Bool) : List UInt8 → Bool
  | [] => true
  | c :: _ => !P c
def isD (c : UInt8) : Bool := decide (48 ≤ c) && decide (c ≤ 57)
theorem isD_digit {i : Nat} (h : i < 10) : isD (UInt8.ofNat (48 + i)) = true := by
  rcases (by omega : i = 0 ∨ i = 1 ∨ i = 2 ∨ i = 3 ∨ i = 4 ∨ i = 5 ∨ i = 6 ∨ i = 7 ∨ i = 8 ∨ i = 9) with rfl | rfl | rfl | rfl | rfl | rfl | rfl | rfl | rfl | rfl <;> rfl
theorem digit_inj {i j : Nat} (h : i < 10) (k : j < 10) (e : UInt8.ofNat (48 + i) = UInt8.ofNat (48 + j)) : i = j := by
  have h1 := congrArg UInt8.toNat e
  simp only [UInt8.toNat_ofNat'] at h1
  omega
theorem dd_all (u : Nat) : ∀ c ∈ Lib.decDigits u, isD c = true := by
  induction u using Nat.strongRecOn with
  | _ u ih =>
    intro c hc
    rw [Lib.decDigits] at hc
    split at hc
    · next h => rw [List.mem_singleton.1 hc]; exact isD_digit h
    · next h =>
      rcases List.mem_append.1 hc with hc | hc
      · exact ih _ (by omega) c hc
      · rw [List.mem_singleton.1 hc]; exact isD_digit (by omega)
theorem dd_ne (u : Nat) : Lib.decDigits u ≠ [] := by
  rw [Lib.decDigits]
  split
  · simp
  · simp
theorem dd_inj : ∀ (u v : Nat), Lib.decDigits u = Lib.decDigits v → u = v := by
  intro u
  induction u using Nat.strongRecOn with
  | _ u ih =>
    intro v h
    have e1 := Lib.decDigits.eq_def u
    have e2 := Lib.decDigits.eq_def v
    by_cases h1 : u < 10
    · rw [dif_pos h1] at e1
      by_cases h2 : v < 10
      · rw [dif_pos h2] at e2
        rw [e1, e2] at h
        exact digit_inj h1 h2 (List.singleton_inj.1 h)
      · rw [dif_neg h2] at e2
        rw [e1, e2] at h
        have := congrArg List.length h
        have h3 := dd_ne (v / 10)
        cases hd : Lib.decDigits (v / 10) with
        | nil => exact absurd hd h3
        | cons a b => rw [hd] at this; simp at this
    · rw [dif_neg h1] at e1
      by_cases h2 : v < 10
      · rw [dif_pos h2] at e2
        rw [e1, e2] at h
        have := congrArg List.length h
        have h3 := dd_ne (u / 10)
        cases hd : Lib.decDigits (u / 10) with
        | nil => exact absurd hd h3
        | cons a b => rw [hd] at this; simp at this
      · rw [dif_neg h2] at e2
        rw [e1, e2] at h
        obtain ⟨h3, h4⟩ := List.append_inj' h rfl
        have h5 := ih _ (by omega) _ h3
        have h6 := digit_inj (by omega) (by omega) (List.singleton_inj.1 h4)
        omega
theorem run_split {P : UInt8 → Bool} : ∀ {x y r s : List UInt8}, (∀ c ∈ x, P c = true) → (∀ c ∈ y, P c = true) → nsP P r = true → nsP P s = true → x ++ r = y ++ s → x = y ∧ r = s
  | [], [], r, s, _, _, _, _, h => ⟨rfl, h⟩
  | [], b :: y, r, s, _, hy, hr, _, h => by
    rw [List.nil_append] at h
    rw [h] at hr
    have : P b = true := hy b (List.mem_cons_self ..)
    simp [nsP, this] at hr
  | a :: x, [], r, s, hx, _, _, hs, h => by
    rw [List.nil_append] at h
    rw [← h] at hs
    have : P a = true := hx a (List.mem_cons_self ..)
    simp [nsP, this] at hs
  | a :: x, b :: y, r, s, hx, hy, hr, hs, h => by
    rw [List.cons_append, List.cons_append] at h
    injection h with h1 h2
    obtain ⟨h3, h4⟩ := run_split (fun c hc => hx c (List.mem_cons_of_mem _ hc)) (fun c hc => hy c (List.mem_cons_of_mem _ hc)) hr hs h2
    exact ⟨by rw [h1, h3], h4⟩
theorem dd_split {u v : Nat} {r s : List UInt8} (hr : nsP isD r = true) (hs : nsP isD s = true) (h : Lib.decDigits u ++ r = Lib.decDigits v ++ s) : u = v ∧ r = s := by
  obtain ⟨h1, h2⟩ := run_split (dd_all u) (dd_all v) hr hs h
  exact ⟨dd_inj u v h1, h2⟩
theorem dd_head (u : Nat) : ∃ c t, Lib.decDigits u = c :: t ∧ isD c = true := by
  cases hd : Lib.decDigits u with
  | nil => exact absurd hd (dd_ne u)
  | cons a b => exact ⟨a, b, rfl, dd_all u a (by rw [hd]; exact List.mem_cons_self ..)⟩
theorem d45 : isD 45 = false := rfl
theorem itoa_split {m n : Int} {r s : List UInt8} (hr : nsP isD r = true) (hs : nsP isD s = true) (h : Lib.itoa m ++ r = Lib.itoa n ++ s) : m = n ∧ r = s := by
  unfold Lib.itoa at h
  by_cases h1 : m < 0 <;> by_cases h2 : n < 0
  · rw [if_pos h1, if_pos h2, List.cons_append, List.cons_append] at h
    injection h with _ h
    obtain ⟨h3, h4⟩ := dd_split hr hs h
    exact ⟨by omega, h4⟩
  · rw [if_pos h1, if_neg h2] at h
    obtain ⟨c, t, hc, hd⟩ := dd_head n.toNat
    rw [hc, List.cons_append, List.cons_append] at h
    injection h with h _
    rw [← h, d45] at hd; cases hd
  · rw [if_neg h1, if_pos h2] at h
    obtain ⟨c, t, hc, hd⟩ := dd_head m.toNat
    rw [hc, List.cons_append, List.cons_append] at h
    injection h with h _
    rw [h, d45] at hd; cases hd
  · rw [if_neg h1, if_neg h2] at h
    obtain ⟨h3, h4⟩ := dd_split hr hs h
    exact ⟨by omega, h4⟩
/-- what must not follow a power of the variable ch -/
def afP (ch : UInt8) (c : UInt8) : Bool := c == ch || c == 94 || isD c
theorem af_d {ch : UInt8} {l : List UInt8} (h : nsP (afP ch) l = true) : nsP isD l = true := by
  cases l with
  | nil => rfl
  | cons c l => simp [nsP, afP] at h ⊢; exact h.2
theorem pow_split {ch : UInt8} (h94 : ch ≠ 94) {m n : Int} {r s : List UInt8} (hr : nsP (afP ch) r = true) (hs : nsP (afP ch) s = true) (h : powB [ch] m ++ r = powB [ch] n ++ s) : m = n ∧ r = s := by
  have key : ∀ {k : Int}, powB [ch] k = if k = 0 then [] else if k = 1 then [ch] else ch :: 94 :: Lib.itoa k := by
    intro k
    unfold powB vaT poT
    by_cases h0 : k = 0
    · simp [h0]
    · by_cases h1 : k = 1
      · simp [h1]
      · simp [h0, h1]
  have nf : ∀ {l t : List UInt8}, nsP (afP ch) l = true → l ≠ ch :: t := by
    intro l t hl e
    rw [e] at hl
    simp [nsP, afP] at hl
  have n9 : ∀ {l t : List UInt8}, nsP (afP ch) l = true → l ≠ 94 :: t := by
    intro l t hl e
    rw [e] at hl
    simp [nsP, afP] at hl
  rw [key, key] at h
  by_cases m0 : m = 0
  · rw [if_pos m0, List.nil_append] at h
    by_cases n0 : n = 0
    · rw [if_pos n0, List.nil_append] at h
      exact ⟨by omega, h⟩
    · rw [if_neg n0] at h
      by_cases n1 : n = 1
      · rw [if_pos n1] at h; exact absurd h (nf hr)
      · rw [if_neg n1] at h; exact absurd h (nf hr)
  · rw [if_neg m0] at h
    by_cases n0 : n = 0
    · rw [if_pos n0, List.nil_append] at h
      by_cases m1 : m = 1
      · rw [if_pos m1] at h; exact absurd h.symm (nf hs)
      · rw [if_neg m1] at h; exact absurd h.symm (nf hs)
    · rw [if_neg n0] at h
      by_cases m1 : m = 1
      · rw [if_pos m1] at h
        by_cases n1 : n = 1
        · rw [if_pos n1] at h
          exact ⟨by omega, by simpa using h⟩
        · rw [if_neg n1] at h
          simp only [List.cons_append, List.nil_append, List.cons.injEq, true_and] at h
          exact absurd h (n9 hr)
      · rw [if_neg m1] at h
        by_cases n1 : n = 1
        · rw [if_pos n1] at h
          simp only [List.cons_append, List.nil_append, List.cons.injEq, true_and] at h
          exact absurd h.symm (n9 hs)
        · rw [if_neg n1] at h
          simp only [List.cons_append, List.cons.injEq, true_and] at h
          exact itoa_split (af_d hr) (af_d hs) h
/-- what may follow a term: nothing, or a sign -/
def stp : List UInt8 → Bool
  | [] => true
  | c :: _ => c == 43 || c == 45
theorem stp_af {l : List UInt8} (h : stp l = true) (ch : UInt8) (h1 : ch ≠ 43) (h2 : ch ≠ 45) : nsP (afP ch) l = true := by
  cases l with
  | nil => rfl
  | cons c l =>
    simp only [stp, Bool.or_eq_true, beq_iff_eq] at h
    rcases h with rfl | rfl
    · simp [nsP, afP, Ne.symm h1, isD]
    · simp [nsP, afP, Ne.symm h2, isD]
theorem powB_cases (ch : UInt8) (k : Int) : powB [ch] k = [] ∧ k = 0 ∨ ∃ t, powB [ch] k = ch :: t := by
  unfold powB vaT poT
  by_cases h0 : k = 0
  · exact .inl ⟨by simp [h0], h0⟩
  · exact .inr ⟨_, by rw [if_neg h0]; rfl⟩
/-- the bytes behind the sign of a term -/
def bdT (t : T2) : List UInt8 := coB t.2 t.1 ++ (powB [97] t.1.1 ++ powB [122] t.1.2)
theorem tail_cases (t : K2) (r : List UInt8) (hr : stp r = true) : nsP isD (powB [97] t.1 ++ (powB [122] t.2 ++ r)) = true := by
  rcases powB_cases 97 t.1 with ⟨h, _⟩ | ⟨u, h⟩
  · rw [h, List.nil_append]
    rcases powB_cases 122 t.2 with ⟨h, _⟩ | ⟨u, h⟩
    · rw [h, List.nil_append]; exact af_d (stp_af hr 97 (by decide) (by decide))
    · rw [h]; rfl
  · rw [h]; rfl
theorem bdT_head (t : T2) : ∃ c u, bdT t = c :: u ∧ c ≠ 43 ∧ c ≠ 45 ∧ c ≠ 98 := by
  unfold bdT coB
  split
  · next h =>
    rw [List.nil_append]
    rcases powB_cases 97 t.1.1 with ⟨h1, e1⟩ | ⟨u, h1⟩
    · rw [h1, List.nil_append]
      rcases powB_cases 122 t.1.2 with ⟨h2, e2⟩ | ⟨u, h2⟩
      · exact absurd ⟨e1, e2⟩ h.2
      · exact ⟨_, _, h2, by decide, by decide, by decide⟩
    · exact ⟨_, _, by rw [h1]; rfl, by decide, by decide, by decide⟩
  · next h =>
    have hp : ¬ cabs t.2 < 0 := by unfold cabs; split <;> omega
    obtain ⟨c, u, hc, hd⟩ := dd_head (cabs t.2).toNat
    refine ⟨c, _, by unfold Lib.itoa; rw [if_neg hp, hc]; rfl, ?_, ?_, ?_⟩ <;> (intro e; rw [e] at hd; cases hd)
theorem cabs_nn (c : Int) : ¬ cabs c < 0 := by unfold cabs; split <;> omega
theorem bd_split {t u : T2} {r s : List UInt8} (hr : stp r = true) (hs : stp s = true) (h : bdT t ++ r = bdT u ++ s) : cabs t.2 = cabs u.2 ∧ t.1 = u.1 ∧ r = s := by
  have fin : ∀ {a b : K2}, powB [97] a.1 ++ (powB [122] a.2 ++ r) = powB [97] b.1 ++ (powB [122] b.2 ++ s) → a = b ∧ r = s := by
    intro a b h
    have hz : ∀ (z : Int) (q : List UInt8), stp q = true → nsP (afP 97) (powB [122] z ++ q) = true := by
      intro z q hq
      rcases powB_cases 122 z with ⟨h, _⟩ | ⟨u, h⟩
      · rw [h, List.nil_append]; exact stp_af hq 97 (by decide) (by decide)
      · rw [h]; rfl
    obtain ⟨h1, h2⟩ := pow_split (by decide) (hz _ _ hr) (hz _ _ hs) h
    obtain ⟨h3, h4⟩ := pow_split (by decide) (stp_af hr 122 (by decide) (by decide)) (stp_af hs 122 (by decide) (by decide)) h2
    exact ⟨Prod.ext h1 h3, h4⟩
  have mix : ∀ {a b : K2} {c : Int} {q q' : List UInt8}, ¬ (a.1 = 0 ∧ a.2 = 0) → ¬ c < 0 → powB [97] a.1 ++ (powB [122] a.2 ++ q) ≠ Lib.itoa c ++ (powB [97] b.1 ++ (powB [122] b.2 ++ q')) := by
    intro a b c q q' hz hc e
    obtain ⟨d, v, hd, hdd⟩ := dd_head c.toNat
    unfold Lib.itoa at e
    rw [if_neg hc, hd, List.cons_append] at e
    rcases powB_cases 97 a.1 with ⟨h1, e1⟩ | ⟨x, h1⟩
    · rw [h1, List.nil_append] at e
      rcases powB_cases 122 a.2 with ⟨h2, e2⟩ | ⟨x, h2⟩
      · exact hz ⟨e1, e2⟩
      · rw [h2, List.cons_append] at e
        injection e with e _
        rw [← e] at hdd; cases hdd
    · rw [h1, List.cons_append] at e
      injection e with e _
      rw [← e] at hdd; cases hdd
  unfold bdT coB at h
  rw [List.append_assoc, List.append_assoc, List.append_assoc, List.append_assoc] at h
  by_cases c1 : cabs t.2 = 1 ∧ ¬ (t.1.1 = 0 ∧ t.1.2 = 0)
  · rw [if_pos c1, List.nil_append] at h
    by_cases c2 : cabs u.2 = 1 ∧ ¬ (u.1.1 = 0 ∧ u.1.2 = 0)
    · rw [if_pos c2, List.nil_append] at h
      obtain ⟨h1, h2⟩ := fin h
      exact ⟨by omega, h1, h2⟩
    · rw [if_neg c2] at h
      exact absurd h (mix c1.2 (cabs_nn _))
  · rw [if_neg c1] at h
    by_cases c2 : cabs u.2 = 1 ∧ ¬ (u.1.1 = 0 ∧ u.1.2 = 0)
    · rw [if_pos c2, List.nil_append] at h
      exact absurd h.symm (mix c2.2 (cabs_nn _))
    · rw [if_neg c2] at h
      obtain ⟨h1, h2⟩ := itoa_split (tail_cases _ _ hr) (tail_cases _ _ hs) h
      obtain ⟨h3, h4⟩ := fin h2
      exact ⟨h1, h3, h4⟩
theorem cabs_eq {c d : Int} (h : cabs c = cabs d) (hs : c < 0 ↔ d < 0) : c = d := by
  unfold cabs at h
  by_cases h1 : c < 0
  · rw [if_pos h1, if_pos (hs.1 h1)] at h; omega
  · rw [if_neg h1, if_neg (fun k => h1 (hs.2 k))] at h; exact h
theorem term_split {i : Nat} {t u : T2} {r s : List UInt8} (hr : stp r = true) (hs : stp s = true) (h : txtB1 [97] [122] i t ++ r = txtB1 [97] [122] i u ++ s) : t = u ∧ r = s := by
  have e1 : txtB1 [97] [122] i t ++ r = sgT i t.2 ++ (bdT t ++ r) := by unfold txtB1 bdT; rw [List.append_assoc]
  have e2 : txtB1 [97] [122] i u ++ s = sgT i u.2 ++ (bdT u ++ s) := by unfold txtB1 bdT; rw [List.append_assoc]
  rw [e1, e2] at h
  obtain ⟨c, x, hx, n1, n2, _⟩ := bdT_head t
  obtain ⟨d, y, hy, m1, m2, _⟩ := bdT_head u
  have hsg : (t.2 < 0 ↔ u.2 < 0) ∧ bdT t ++ r = bdT u ++ s := by
    unfold sgT at h
    by_cases a1 : t.2 < 0 <;> by_cases a2 : u.2 < 0
    · rw [if_pos a1, if_pos a2] at h
      exact ⟨⟨fun _ => a2, fun _ => a1⟩, by simpa using h⟩
    · exfalso
      rw [if_pos a1, if_neg a2] at h
      by_cases a3 : 0 < i
      · rw [if_pos a3] at h; simp at h
      · rw [if_neg a3, hy] at h; simp at h; exact m2 h.1.symm
    · exfalso
      rw [if_neg a1, if_pos a2] at h
      by_cases a3 : 0 < i
      · rw [if_pos a3] at h; simp at h
      · rw [if_neg a3, hx] at h; simp at h; exact n2 h.1
    · rw [if_neg a1, if_neg a2] at h
      exact ⟨⟨fun k => absurd k a1, fun k => absurd k a2⟩, List.append_cancel_left h⟩
  obtain ⟨h1, h2, h3⟩ := bd_split hr hs hsg.2
  exact ⟨Prod.ext h2 (cabs_eq h1 hsg.1), h3⟩
/-- the terms' texts, from an index on -/
def txF : Nat → List T2 → List UInt8
  | _, [] => []
  | i, t :: l => txtB1 [97] [122] i t ++ txF (i + 1) l
theorem txF_snoc : ∀ (l : List T2) (i : Nat) (t : T2), txF i (l ++ [t]) = txF i l ++ txtB1 [97] [122] (i + l.length) t
  | [], i, t => by simp [txF]
  | s :: l, i, t => by
    rw [List.cons_append, txF, txF_snoc l (i + 1) t, txF, List.append_assoc, List.length_cons, show i + 1 + l.length = i + (l.length + 1) by omega]
theorem txF_eq (l : List T2) : ∀ k, k ≤ l.length → txtBU [97] [122] l k = txF 0 (l.take k)
  | 0, _ => by simp [txtBU, txF]
  | k + 1, h => by
    have hk : k < l.length := by omega
    rw [txtBU, txF_eq l k (by omega), List.getElem?_eq_getElem hk, Option.getD_some, show l.take (k + 1) = l.take k ++ [l[k]] from by rw [List.take_add_one, List.getElem?_eq_getElem hk]; rfl, txF_snoc, Nat.zero_add, List.length_take, Nat.min_eq_left (by omega)]
theorem txF_stp (l : List T2) (i : Nat) (hi : 0 < i) : stp (txF i l) = true := by
  cases l with
  | nil => rfl
  | cons t l =>
    rw [txF]
    unfold txtB1 sgT
    by_cases h : t.2 < 0
    · rw [if_pos h]; rfl
    · rw [if_neg h, if_pos hi]; rfl
theorem txF_ne (t : T2) (l : List T2) (i : Nat) : txF i (t :: l) ≠ [] := by
  obtain ⟨c, x, hx, _⟩ := bdT_head t
  intro h
  have e : txF i (t :: l) = sgT i t.2 ++ (bdT t ++ txF (i + 1) l) := by rw [txF]; unfold txtB1 bdT; rw [List.append_assoc]
  rw [e, hx] at h
  simp at h
theorem txF_inj : ∀ (l m : List T2) (i : Nat), txF i l = txF i m → l = m
  | [], [], _, _ => rfl
  | [], t :: m, i, h => absurd h.symm (txF_ne t m i)
  | t :: l, [], i, h => absurd h (txF_ne t l i)
  | t :: l, u :: m, i, h => by
    rw [txF, txF] at h
    obtain ⟨h1, h2⟩ := term_split (txF_stp l (i + 1) (by omega)) (txF_stp m (i + 1) (by omega)) h
    rw [h1, txF_inj l m (i + 1) h2]
theorem txB_some (l : List T2) : txtB [97] [122] (some l) = if l.length = 0 then [48] else txF 0 l := by
  show (if l.length = 0 then [48] else txtBU [97] [122] l l.length) = _
  rw [txF_eq l l.length (Nat.le_refl _), List.take_length]
theorem tx_not_big {l : List T2} : txtB [97] [122] (some l) ≠ [98, 105, 103] := by
  rw [txB_some]
  split
  · simp
  · next h0 =>
    cases l with
    | nil => simp at h0
    | cons t l =>
      obtain ⟨c, x, hx, _, _, n3⟩ := bdT_head t
      have e : txF 0 (t :: l) = sgT 0 t.2 ++ (bdT t ++ txF 1 l) := by rw [txF]; unfold txtB1 bdT; rw [List.append_assoc]
      rw [e, hx]
      unfold sgT
      by_cases h : t.2 < 0
      · rw [if_pos h]; simp
      · rw [if_neg h, if_neg (by omega)]
        intro q
        simp at q
        exact n3 q.1
theorem tx_not_zero {t : T2} {l : List T2} (hn : t.2 ≠ 0) : txF 0 (t :: l) ≠ [48] := by
  have e : txF 0 (t :: l) = sgT 0 t.2 ++ (bdT t ++ txF 1 l) := by rw [txF]; unfold txtB1 bdT; rw [List.append_assoc]
  rw [e]
  unfold sgT
  by_cases h : t.2 < 0
  · rw [if_pos h]; simp
  · rw [if_neg h, if_neg (by omega), List.nil_append]
    intro q
    unfold bdT coB at q
    by_cases c1 : cabs t.2 = 1 ∧ ¬ (t.1.1 = 0 ∧ t.1.2 = 0)
    · rw [if_pos c1, List.nil_append] at q
      rcases powB_cases 97 t.1.1 with ⟨h1, e1⟩ | ⟨x, h1⟩
      · rw [h1, List.nil_append] at q
        rcases powB_cases 122 t.1.2 with ⟨h2, e2⟩ | ⟨x, h2⟩
        · exact c1.2 ⟨e1, e2⟩
        · rw [h2] at q; simp at q
      · rw [h1] at q; simp at q
    · rw [if_neg c1, List.append_assoc, List.append_assoc] at q
      have h3 : Lib.itoa (cabs t.2) ++ (powB [97] t.1.1 ++ (powB [122] t.1.2 ++ txF 1 l)) = Lib.itoa 0 ++ [] := by
        rw [q]; decide +kernel
      obtain ⟨h4, _⟩ := itoa_split (tail_cases _ _ (txF_stp l 1 (by omega))) rfl h3
      unfold cabs at h4
      rw [if_neg h] at h4
      exact hn h4
theorem txtB_inj {p q : PolB} (okp : okB2 p) (okq : okB2 q) (h : txtB [97] [122] p = txtB [97] [122] q) : p = q := by
  cases p with
  | none =>
    cases q with
    | none => rfl
    | some m => exact absurd h.symm tx_not_big
  | some l =>
    cases q with
    | none => exact absurd h tx_not_big
    | some m =>
      rw [txB_some, txB_some] at h
      cases l with
      | nil =>
        cases m with
        | nil => rfl
        | cons u m =>
          rw [if_pos List.length_nil, if_neg (by simp)] at h
          exact absurd h.symm (tx_not_zero (okq.1.nz u (List.mem_cons_self ..)))
      | cons t l =>
        cases m with
        | nil =>
          rw [if_neg (by simp), if_pos List.length_nil] at h
          exact absurd h (tx_not_zero (okp.1.nz t (List.mem_cons_self ..)))
        | cons u m =>
          rw [if_neg (by simp), if_neg (by simp)] at h
          rw [txF_inj _ _ 0 h]
end Go.Proofs.YtbfggncmjdhapaaGreatDoor
