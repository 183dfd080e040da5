/- Polynomials in two variables as sorted lists of terms ((a, z), coefficient): plain. -/
/- Polynomials in two variables: products of lists of terms, bounds: plain. -/
/- A region that draws its order, by facts: one obligation for each operation, whatever the order. -/
import Derived.Lib.Hide
import Derived.Test.YtbfggncmjdhapaaGreatDoorZBase
import Derived.Orders
namespace Go.Proofs.YtbfggncmjdhapaaGreatDoor
set_option linter.unusedVariables false

abbrev K2 := Int × Int
abbrev T2 := K2 × Int
/-- the order of the exponents -/
def kb (a b : K2) : Prop := a.1 < b.1 ∨ (a.1 = b.1 ∧ a.2 < b.2)
theorem kb_ne {a b : K2} (h : kb a b) : a ≠ b := by
  intro e; subst e; unfold kb at h; omega
theorem kb_trans {a b c : K2} (h : kb a b) (h2 : kb b c) : kb a c := by unfold kb at *; omega
theorem kb_tri (a b : K2) : kb a b ∨ a = b ∨ kb b a := by
  unfold kb
  by_cases h : a.1 = b.1
  · by_cases h2 : a.2 = b.2
    · exact .inr (.inl (Prod.ext h h2))
    · omega
  · omega
/-- the coefficient at a pair of exponents -/
def cg2 : List T2 → K2 → Int
  | [], _ => 0
  | t :: l, e => (if t.1 = e then t.2 else 0) + cg2 l e
theorem cg2_nil (e : K2) : cg2 [] e = 0 := rfl
theorem cg2_cons (t : T2) (l : List T2) (e : K2) : cg2 (t :: l) e = (if t.1 = e then t.2 else 0) + cg2 l e := rfl
theorem cg2_append (l m : List T2) (e : K2) : cg2 (l ++ m) e = cg2 l e + cg2 m e := by
  induction l with
  | nil => simp [cg2]
  | cons t l ih => rw [List.cons_append, cg2_cons, cg2_cons, ih]; omega
theorem cg2_one (t : T2) (e : K2) : cg2 [t] e = if t.1 = e then t.2 else 0 := by rw [cg2_cons, cg2_nil]; omega
theorem cg2_perm {l m : List T2} (h : l.Perm m) (e : K2) : cg2 l e = cg2 m e := by
  induction h with
  | nil => rfl
  | cons t _ ih => rw [cg2_cons, cg2_cons, ih]
  | swap s t l => rw [cg2_cons, cg2_cons, cg2_cons, cg2_cons]; omega
  | trans _ _ ih1 ih2 => rw [ih1, ih2]
theorem cg2_out {l : List T2} {e : K2} (h : ∀ t ∈ l, t.1 ≠ e) : cg2 l e = 0 := by
  induction l with
  | nil => rfl
  | cons t l ih => rw [cg2_cons, if_neg (h t (List.mem_cons_self ..)), ih (fun s hs => h s (List.mem_cons_of_mem _ hs))]; rfl
def Srt2 (l : List T2) : Prop := l.Pairwise fun a b => kb a.1 b.1
structure Can2 (l : List T2) : Prop where
  srt : Srt2 l
  nz : ∀ t ∈ l, t.2 ≠ 0
theorem Can2.nil : Can2 [] := ⟨List.Pairwise.nil, fun t h => by cases h⟩
theorem cg2_nodup {l : List T2} (h : l.Pairwise fun a b => a.1 ≠ b.1) {t : T2} (ht : t ∈ l) : cg2 l t.1 = t.2 := by
  induction l with
  | nil => cases ht
  | cons s l ih =>
    obtain ⟨h1, h2⟩ := List.pairwise_cons.1 h
    rw [cg2_cons]
    rcases List.mem_cons.1 ht with rfl | hm
    · rw [if_pos rfl, cg2_out (fun s hs e => h1 s hs e.symm)]; omega
    · rw [if_neg (h1 t hm), ih h2 hm]; omega
theorem Srt2.nodup {l : List T2} (h : Srt2 l) : l.Pairwise fun a b => a.1 ≠ b.1 := h.imp fun h => kb_ne h
theorem cg2_mem {l : List T2} (h : Srt2 l) {t : T2} (ht : t ∈ l) : cg2 l t.1 = t.2 := cg2_nodup h.nodup ht
theorem Can2.tail {t : T2} {l : List T2} (h : Can2 (t :: l)) : Can2 l := ⟨(List.pairwise_cons.1 h.srt).2, fun s hs => h.nz s (List.mem_cons_of_mem _ hs)⟩
theorem Can2.ext : ∀ {l m : List T2}, Can2 l → Can2 m → (∀ e, cg2 l e = cg2 m e) → l = m
  | [], [], _, _, _ => rfl
  | [], t :: m, _, k, he => by
    have h1 := cg2_mem k.srt (List.mem_cons_self (a := t) (l := m))
    have h2 := k.nz t (List.mem_cons_self ..)
    rw [← he] at h1
    exact absurd h1.symm h2
  | s :: l, [], h, _, he => by
    have h1 := cg2_mem h.srt (List.mem_cons_self (a := s) (l := l))
    have h2 := h.nz s (List.mem_cons_self ..)
    rw [he] at h1
    exact absurd h1.symm h2
  | s :: l, t :: m, h, k, he => by
    have a1 := (List.pairwise_cons.1 h.srt).1
    have b1 := (List.pairwise_cons.1 k.srt).1
    have a2 := cg2_mem h.srt (List.mem_cons_self (a := s) (l := l))
    have b2 := cg2_mem k.srt (List.mem_cons_self (a := t) (l := m))
    have a3 := h.nz s (List.mem_cons_self ..)
    have b3 := k.nz t (List.mem_cons_self ..)
    have e1 : s.1 = t.1 := by
      rcases kb_tri s.1 t.1 with q | q | q
      · rw [he, cg2_out (fun x hx => by rcases List.mem_cons.1 hx with rfl | hx; exact (kb_ne q).symm; exact (kb_ne (kb_trans q (b1 x hx))).symm)] at a2
        exact absurd a2.symm a3
      · exact q
      · rw [← he, cg2_out (fun x hx => by rcases List.mem_cons.1 hx with rfl | hx; exact (kb_ne q).symm; exact (kb_ne (kb_trans q (a1 x hx))).symm)] at b2
        exact absurd b2.symm b3
    have e2 : s = t := by
      refine Prod.ext e1 ?_
      rw [← a2, ← b2, he, e1]
    subst e2
    rw [Can2.ext h.tail k.tail (fun e => by have := he e; rw [cg2_cons, cg2_cons] at this; omega)]
theorem cg2_ne {l : List T2} {e : K2} (h : cg2 l e ≠ 0) : ∃ t ∈ l, t.1 = e := by
  apply Classical.byContradiction
  intro hn
  exact h (cg2_out fun t ht he => hn ⟨t, ht, he⟩)
theorem Can2.ne {l : List T2} (k : Can2 l) {t : T2} (ht : t ∈ l) : cg2 l t.1 ≠ 0 := by rw [cg2_mem k.srt ht]; exact k.nz t ht
/-- within the limits of the program -/
structure Lim2 (l : List T2) : Prop where
  co : ∀ t ∈ l, -1125899906842624 ≤ t.2 ∧ t.2 ≤ 1125899906842624
  ea : ∀ t ∈ l, -1048576 ≤ t.1.1 ∧ t.1.1 ≤ 1048576
  ez : ∀ t ∈ l, -1048576 ≤ t.1.2 ∧ t.1.2 ≤ 1048576
theorem Lim2.nil : Lim2 [] := ⟨fun t h => (by cases h), fun t h => (by cases h), fun t h => (by cases h)⟩
/-- the list of the terms that a function has on a list of keys -/
theorem nodup_of_fn {F : K2 → Int} {l : List T2} (h : ∀ t ∈ l, t.2 = F t.1) (hd : l.Pairwise fun a b => a.1 ≠ b.1) (hc : ∀ e, F e ≠ 0 → ∃ t ∈ l, t.1 = e) (e : K2) : cg2 l e = F e := by
  by_cases hx : ∃ t ∈ l, t.1 = e
  · obtain ⟨t, ht, rfl⟩ := hx
    rw [cg2_nodup hd ht, h t ht]
  · rw [cg2_out (fun t ht he => hx ⟨t, ht, he⟩)]
    apply Classical.byContradiction
    intro hn
    exact hx (hc e fun h => hn h.symm)
end Go.Proofs.YtbfggncmjdhapaaGreatDoor

namespace Go.Proofs.YtbfggncmjdhapaaGreatDoor
set_option linter.unusedVariables false

def kadd (a b : K2) : K2 := (a.1 + b.1, a.2 + b.2)
def ksub (a b : K2) : K2 := (a.1 - b.1, a.2 - b.2)
theorem kadd_iff {a b e : K2} : kadd a b = e ↔ a = ksub e b := by
  unfold kadd ksub
  constructor
  · intro h; subst h; apply Prod.ext <;> simp <;> omega
  · intro h; subst h; apply Prod.ext <;> simp
def mulT (l m : List T2) : List T2 := l.flatMap fun s => m.map fun t => (kadd s.1 t.1, s.2 * t.2)
theorem mulT_nil (m : List T2) : mulT [] m = [] := rfl
theorem mulT_cons (s : T2) (l m : List T2) : mulT (s :: l) m = (m.map fun t => (kadd s.1 t.1, s.2 * t.2)) ++ mulT l m := by
  unfold mulT; rw [List.flatMap_cons]
/-- the sum of F (e - t) times the coefficient of t -/
def cvS (F : K2 → Int) : List T2 → K2 → Int
  | [], _ => 0
  | t :: m, e => t.2 * F (ksub e t.1) + cvS F m e
theorem cvS_add (F G : K2 → Int) (m : List T2) (e : K2) : cvS (fun x => F x + G x) m e = cvS F m e + cvS G m e := by
  induction m with
  | nil => rfl
  | cons t m ih => rw [cvS, cvS, cvS, ih, Int.mul_add]; omega
theorem cvS_append (F : K2 → Int) (m n : List T2) (e : K2) : cvS F (m ++ n) e = cvS F m e + cvS F n e := by
  induction m with
  | nil => rw [List.nil_append, cvS]; omega
  | cons t m ih => rw [List.cons_append, cvS, cvS, ih]; omega
theorem cvS_congr {F G : K2 → Int} (h : ∀ e, F e = G e) (m : List T2) (e : K2) : cvS F m e = cvS G m e := by
  have : F = G := funext h
  rw [this]
theorem cg2_map_mul (s : T2) (m : List T2) (e : K2) : cg2 (m.map fun t => (kadd s.1 t.1, s.2 * t.2)) e = cvS (fun x => cg2 [s] x) m e := by
  induction m with
  | nil => rfl
  | cons t m ih =>
    rw [List.map_cons, cg2_cons, cvS, ih, cg2_one]
    by_cases h : kadd s.1 t.1 = e
    · rw [if_pos h, if_pos (kadd_iff.1 h), Int.mul_comm]
    · rw [if_neg h, if_neg (fun q => h (kadd_iff.2 q)), Int.mul_zero]
theorem cg2_mulT (l m : List T2) (e : K2) : cg2 (mulT l m) e = cvS (cg2 l) m e := by
  induction l with
  | nil =>
    rw [mulT_nil, cg2_nil]
    induction m with
    | nil => rfl
    | cons t m ih => rw [cvS, ← ih, cg2_nil]; omega
  | cons s l ih =>
    rw [mulT_cons, cg2_append, cg2_map_mul, ih, ← cvS_add]
    exact cvS_congr (fun x => by rw [cg2_cons s l, cg2_one]) m e
theorem mulT_congr_left {l l' : List T2} (h : ∀ e, cg2 l e = cg2 l' e) (m : List T2) (e : K2) : cg2 (mulT l m) e = cg2 (mulT l' m) e := by
  rw [cg2_mulT, cg2_mulT]; exact cvS_congr h m e
theorem mulT_single (l : List T2) (t : T2) (e : K2) : cg2 (mulT l [t]) e = cg2 (mulT [t] l) e := by
  rw [cg2_mulT, mulT_cons, mulT_nil, List.append_nil, cvS, cvS]
  induction l with
  | nil => simp [cg2]
  | cons s l ih =>
    rw [List.map_cons, cg2_cons, cg2_cons, ← ih, Int.mul_add]
    by_cases h : s.1 = ksub e t.1
    · have h2 := kadd_iff.2 h
      have h3 : kadd t.1 s.1 = e := by rw [← h2]; unfold kadd; apply Prod.ext <;> simp <;> omega
      rw [if_pos h, if_pos h3]; omega
    · have h3 : ¬ kadd t.1 s.1 = e := fun q => h (kadd_iff.1 (by rw [← q]; unfold kadd; apply Prod.ext <;> simp <;> omega))
      rw [if_neg h, if_neg h3]; omega
theorem mulT_comm (l m : List T2) (e : K2) : cg2 (mulT l m) e = cg2 (mulT m l) e := by
  induction m with
  | nil => rw [cg2_mulT, cvS, mulT_nil, cg2_nil]
  | cons t m ih =>
    have h1 : cg2 (mulT l (t :: m)) e = cg2 (mulT l [t]) e + cg2 (mulT l m) e := by
      rw [cg2_mulT, cg2_mulT, cg2_mulT, cvS, cvS, cvS]; omega
    have h2 : mulT (t :: m) l = mulT [t] l ++ mulT m l := by rw [mulT_cons, mulT_cons, mulT_nil, List.append_nil]
    rw [h1, h2, cg2_append, ih, mulT_single]
theorem mulT_congr_right {m m' : List T2} (h : ∀ e, cg2 m e = cg2 m' e) (l : List T2) (e : K2) : cg2 (mulT l m) e = cg2 (mulT l m') e := by
  rw [mulT_comm, mulT_congr_left h, mulT_comm]
theorem mulT_append (l l' m : List T2) : mulT (l ++ l') m = mulT l m ++ mulT l' m := by unfold mulT; rw [List.flatMap_append]
theorem mulT_map (s : T2) (m n : List T2) : mulT (m.map fun t => (kadd s.1 t.1, s.2 * t.2)) n = (mulT m n).map fun t => (kadd s.1 t.1, s.2 * t.2) := by
  induction m with
  | nil => rfl
  | cons t m ih =>
    rw [List.map_cons, mulT_cons, mulT_cons, List.map_append, ih, List.map_map]
    congr 1
    apply List.map_congr_left
    intro u _
    apply Prod.ext
    · apply Prod.ext <;> simp [kadd] <;> omega
    · simp [Int.mul_assoc]
theorem mulT_assoc (l m n : List T2) : mulT (mulT l m) n = mulT l (mulT m n) := by
  induction l with
  | nil => rfl
  | cons s l ih => rw [mulT_cons, mulT_append, ih, mulT_map, ← mulT_cons]
theorem mulT_add (l m n : List T2) (e : K2) : cg2 (mulT l (m ++ n)) e = cg2 (mulT l m) e + cg2 (mulT l n) e := by
  rw [cg2_mulT, cg2_mulT, cg2_mulT, cvS_append]
def negT (l : List T2) : List T2 := l.map fun t => (t.1, -t.2)
theorem cg2_neg (l : List T2) (e : K2) : cg2 (negT l) e = - cg2 l e := by
  unfold negT
  induction l with
  | nil => rfl
  | cons t l ih => rw [List.map_cons, cg2_cons, cg2_cons, ih]; simp only; split <;> omega
/-- the sum of the absolute values -/
def asum2 : List T2 → Nat
  | [] => 0
  | t :: l => t.2.natAbs + asum2 l
theorem asum2_append (l m : List T2) : asum2 (l ++ m) = asum2 l + asum2 m := by
  induction l with
  | nil => simp [asum2]
  | cons t l ih => rw [List.cons_append, asum2, asum2, ih]; omega
theorem asum2_neg (l : List T2) : asum2 (negT l) = asum2 l := by
  unfold negT
  induction l with
  | nil => rfl
  | cons t l ih => rw [List.map_cons, asum2, asum2, ih]; simp
theorem asum2_map (s : T2) (m : List T2) : asum2 (m.map fun t => (kadd s.1 t.1, s.2 * t.2)) = s.2.natAbs * asum2 m := by
  induction m with
  | nil => simp [asum2]
  | cons t m ih => rw [List.map_cons, asum2, asum2, ih, Int.natAbs_mul, Nat.mul_add]
theorem asum2_mulT (l m : List T2) : asum2 (mulT l m) = asum2 l * asum2 m := by
  induction l with
  | nil => simp [mulT_nil, asum2]
  | cons s l ih => rw [mulT_cons, asum2_append, asum2_map, ih, asum2, Nat.add_mul]
theorem cg2_asum (l : List T2) (e : K2) : (cg2 l e).natAbs ≤ asum2 l := by
  induction l with
  | nil => simp [cg2, asum2]
  | cons t l ih => rw [cg2_cons, asum2]; split <;> omega
/-- the sum of the absolute values of a function over a list of keys -/
def fsum2 (F : K2 → Int) : List K2 → Nat
  | [] => 0
  | k :: l => (F k).natAbs + fsum2 F l
theorem fsum2_le (s : T2) (F : K2 → Int) (ks : List K2) (hd : ks.Nodup) : fsum2 (fun e => (if s.1 = e then s.2 else 0) + F e) ks ≤ (if s.1 ∈ ks then s.2.natAbs else 0) + fsum2 F ks := by
  induction ks with
  | nil => simp [fsum2]
  | cons k ks ih =>
    obtain ⟨h1, h2⟩ := List.nodup_cons.1 hd
    have := ih h2
    rw [fsum2, fsum2]
    by_cases hk : s.1 = k
    · subst hk
      rw [if_neg h1] at this
      rw [if_pos (List.mem_cons_self ..), if_pos rfl]
      omega
    · rw [if_neg hk]
      by_cases hm : s.1 ∈ ks
      · rw [if_pos hm] at this
        rw [if_pos (List.mem_cons_of_mem _ hm)]
        omega
      · rw [if_neg hm] at this
        rw [if_neg (fun q => by rcases List.mem_cons.1 q with q | q; exact hk q; exact hm q)]
        omega
theorem fsum2_cg (L : List T2) (ks : List K2) (hd : ks.Nodup) : fsum2 (cg2 L) ks ≤ asum2 L := by
  induction L with
  | nil =>
    have : ∀ ks, fsum2 (cg2 []) ks = 0 := fun ks => by
      induction ks with
      | nil => rfl
      | cons k ks ih => rw [fsum2, ih]; rfl
    rw [this]; exact Nat.zero_le _
  | cons s L ih =>
    have h := fsum2_le s (cg2 L) ks hd
    have e : (fun e => (if s.1 = e then s.2 else 0) + cg2 L e) = cg2 (s :: L) := by funext e; rw [cg2_cons]
    rw [e] at h
    rw [asum2]
    split at h <;> omega
theorem asum2_fsum {r : List T2} {F : K2 → Int} (h : ∀ t ∈ r, t.2 = F t.1) : asum2 r = fsum2 F (r.map (·.1)) := by
  induction r with
  | nil => rfl
  | cons t r ih => rw [asum2, List.map_cons, fsum2, ih (fun s hs => h s (List.mem_cons_of_mem _ hs)), h t (List.mem_cons_self ..)]
/-- a canonical list has the least sum of absolute values -/
theorem Can2.asum {r L : List T2} (k : Can2 r) (h : ∀ e, cg2 r e = cg2 L e) : asum2 r ≤ asum2 L := by
  rw [asum2_fsum (F := cg2 L) (fun t ht => by rw [← h, cg2_mem k.srt ht])]
  refine fsum2_cg L _ ?_
  rw [List.nodup_iff_pairwise_ne, List.pairwise_map]
  exact k.srt.nodup
/-- the exponents of a list are at most N in absolute value -/
def Ebd (N : Nat) (l : List T2) : Prop := ∀ t ∈ l, (-(N : Int) ≤ t.1.1 ∧ t.1.1 ≤ N) ∧ -(N : Int) ≤ t.1.2 ∧ t.1.2 ≤ N
theorem Ebd.nil (N : Nat) : Ebd N [] := fun t h => by cases h
theorem Ebd.append {N : Nat} {l m : List T2} (h : Ebd N l) (k : Ebd N m) : Ebd N (l ++ m) := fun t ht => by
  rcases List.mem_append.1 ht with ht | ht
  · exact h t ht
  · exact k t ht
theorem Ebd.mono {N M : Nat} {l : List T2} (h : Ebd N l) (hm : N ≤ M) : Ebd M l := fun t ht => by have := h t ht; omega
theorem Ebd.neg {N : Nat} {l : List T2} (h : Ebd N l) : Ebd N (negT l) := fun t ht => by
  unfold negT at ht
  obtain ⟨s, hs, rfl⟩ := List.mem_map.1 ht
  exact h s hs
theorem Ebd.mul {N M : Nat} {l m : List T2} (h : Ebd N l) (k : Ebd M m) : Ebd (N + M) (mulT l m) := fun t ht => by
  unfold mulT at ht
  obtain ⟨s, hs, ht⟩ := List.mem_flatMap.1 ht
  obtain ⟨u, hu, rfl⟩ := List.mem_map.1 ht
  have h1 := h s hs
  have h2 := k u hu
  simp only [kadd]
  omega
theorem Can2.lim {r L : List T2} {N : Nat} (k : Can2 r) (h : ∀ e, cg2 r e = cg2 L e) (hb : asum2 L ≤ 1125899906842624) (he : Ebd N L) (hN : N ≤ 1048576) : Lim2 r := by
  have key : ∀ t ∈ r, ∃ s ∈ L, s.1 = t.1 := fun t ht => cg2_ne (by rw [← h]; exact k.ne ht)
  refine ⟨fun t ht => ?_, fun t ht => ?_, fun t ht => ?_⟩
  · have h1 := cg2_mem k.srt ht
    rw [h] at h1
    have h2 := cg2_asum L t.1
    omega
  · obtain ⟨s, hs, e⟩ := key t ht
    have := he s hs
    rw [e] at this
    omega
  · obtain ⟨s, hs, e⟩ := key t ht
    have := he s hs
    rw [e] at this
    omega
end Go.Proofs.YtbfggncmjdhapaaGreatDoor

namespace Go.Proofs.YtbfggncmjdhapaaGreatDoor
set_option linter.unusedVariables false
open Go.RowKit

def upd {α : Type} (x : Nat → α) (i : Nat) (v : α) : Nat → α := fun j => if j = i then v else x j
@[simp] theorem upd_same {α : Type} (x : Nat → α) (i : Nat) (v : α) : upd x i v i = v := by simp [upd]
theorem upd_ne {α : Type} (x : Nat → α) {i j : Nat} (v : α) (h : j ≠ i) : upd x i v j = x j := by simp [upd, h]

/-- what the operations of a region have put so far -/
def putAll : List (Option Tmp) → Nat → (Nat → Value) → Act → Act
  | [], _, _, a => a
  | d :: ds, i, x, a => putAll ds (i + 1) x (a.put d (x i))
def dstOf (ops : Array Oper) : List (Option Tmp) := ops.toList.map (·.dst)
/-- no temporary is written twice -/
def apartD : List (Option Tmp) → Bool
  | [] => true
  | d :: ds => (match d with | none => true | some t => !ds.contains (some t)) && apartD ds

theorem putAll_put : ∀ (ds : List (Option Tmp)) (i : Nat) (x : Nat → Value) (a : Act) (d : Option Tmp) (v : Value), (∀ t, d = some t → some t ∉ ds) → putAll ds i x (a.put d v) = (putAll ds i x a).put d v := by
  intro ds
  induction ds with
  | nil => intro i x a d v _; rfl
  | cons e ds ih =>
    intro i x a d v h
    rw [putAll, putAll, ← ih _ _ _ _ _ (fun t ht hm => h t ht (List.mem_cons_of_mem _ hm))]
    congr 1
    refine Act.put_comm a v (x i) (fun t ht he => ?_)
    exact h t ht (by rw [he]; exact List.mem_cons_self)
theorem putAll_congr : ∀ (ds : List (Option Tmp)) (i : Nat) (x y : Nat → Value) (a : Act), (∀ j, i ≤ j → j < i + ds.length → x j = y j) → putAll ds i x a = putAll ds i y a := by
  intro ds
  induction ds with
  | nil => intro i x y a _; rfl
  | cons e ds ih =>
    intro i x y a h
    rw [putAll, putAll, h i (Nat.le_refl _) (by simp), ih (i + 1) x y _ (fun j h1 h2 => h j (by omega) (by simp at h2 ⊢; omega))]
theorem put_put (a : Act) (d : Option Tmp) (u v : Value) : (a.put d u).put d v = a.put d v := by
  cases d <;> simp [Act.put]
theorem putAll_upd : ∀ (ds : List (Option Tmp)) (i : Nat) (x : Nat → Value) (a : Act) (k : Nat) (v : Value), apartD ds = true → k < ds.length → (putAll ds i x a).put (ds.getD k none) v = putAll ds i (upd x (i + k) v) a := by
  intro ds
  induction ds with
  | nil => intro i x a k v _ h; simp at h
  | cons e ds ih =>
    intro i x a k v hd hk
    simp only [apartD, Bool.and_eq_true] at hd
    rw [putAll, putAll]
    cases k with
    | zero =>
      simp only [Nat.add_zero, upd_same, List.getD_cons_zero]
      rw [← putAll_put]
      · rw [put_put]
        exact putAll_congr _ _ _ _ _ (fun j h1 h2 => (upd_ne x v (by omega)).symm)
      · intro t ht
        rw [ht] at hd
        have := hd.1
        simpa using this
    | succ k =>
      rw [List.getD_cons_succ, ih _ _ _ _ _ hd.2 (by simpa using hk), upd_ne x v (by omega)]
      congr 2
      omega
def slotV (a : Act) (d : Option Tmp) : Value := match d with | some t => a.tmps.getD t undef | none => undef
theorem put_get (a : Act) (d : Option Tmp) : a.put d (slotV a d) = a := by
  cases d with
  | none => rfl
  | some t =>
    simp only [Act.put, slotV]
    congr 1
    apply Array.ext
    · simp
    · intro j h1 h2
      simp only [Array.getElem_setIfInBounds h2]
      split
      · rename_i h; subst h; simp [h2]
      · rfl
theorem putAll_start : ∀ (ds : List (Option Tmp)) (i : Nat) (a : Act), apartD ds = true → putAll ds i (fun j => slotV a (ds.getD (j - i) none)) a = a := by
  intro ds
  induction ds with
  | nil => intro i a _; rfl
  | cons e ds ih =>
    intro i a hd
    simp only [apartD, Bool.and_eq_true] at hd
    rw [putAll]
    have h0 : slotV a ((e :: ds).getD (i - i) none) = slotV a e := by simp
    simp only [h0, put_get]
    refine Eq.trans (putAll_congr _ _ _ _ _ (fun j h1 h2 => ?_)) (ih (i + 1) a hd.2)
    rw [show j - i = (j - (i + 1)) + 1 from by omega, List.getD_cons_succ]

/-- each edge leads back -/
def backD (ops : Array Oper) : Bool := (List.range ops.size).all fun i => ((ops[i]?).map (·.after.all fun e => !Region.binds .any e || decide (e.on < i))).getD true

def deps (o : Oper) : List Nat := (o.after.toList.filter fun e => Region.binds .any e).map (·.on)
def depsAt (ops : Array Oper) (j : Nat) : List Nat := match ops[j]? with | some o => deps o | none => []

section
variable {P : Program} {ops : Array Oper} {Q : Exit → Act → World → Prop}
theorem ready_nil (hb : backD ops = true) {listed : Array Bool} (hs : listed.size = ops.size) (h : Region.ready .any ops listed = []) : ∀ i, i < ops.size → listed.getD i true = true := by
  intro i
  induction i using Nat.strongRecOn with
  | _ i ih =>
    intro hi
    cases hl : listed.getD i true with
    | true => rfl
    | false =>
      exfalso
      have : i ∈ Region.ready .any ops listed := by
        rw [mem_ready]
        refine ⟨hl, ops[i], by simp [hi], fun e he hbe => ?_⟩
        have hlt : e.on < i := by
          simp only [backD, List.all_eq_true, List.mem_range] at hb
          have := hb i hi
          simp only [hi, Array.getElem?_eq_getElem, Option.map_some, Option.getD_some, Array.all_eq_true_iff_forall_mem] at this
          have h2 := this e he
          rw [hbe] at h2
          simpa using h2
        have := ih e.on hlt (by omega)
        have hlt' : e.on < listed.size := by omega
        simpa [Array.getD, hlt'] using this
      rw [h] at this
      cases this
def countF (l : Array Bool) : Nat := l.toList.countP (· == false)
theorem countF_list : ∀ (m : List Bool) (i : Nat), m[i]? = some false → (m.set i true).countP (· == false) + 1 = m.countP (· == false) := by
  intro m
  induction m with
  | nil => intro i h; simp at h
  | cons b m ih =>
    intro i h
    cases i with
    | zero => simp at h; simp [h]
    | succ i =>
      have := ih i (by simpa using h)
      simp only [List.set_cons_succ, List.countP_cons]
      omega
theorem countF_set {l : Array Bool} {i : Nat} (h : l.getD i true = false) : countF (l.setIfInBounds i true) + 1 = countF l := by
  have hi : i < l.size := by
    rcases Nat.lt_or_ge i l.size with h' | h'
    · exact h'
    · simp [Array.getD, Nat.not_lt.2 h'] at h
  unfold countF
  rw [Array.toList_setIfInBounds]
  refine countF_list _ _ ?_
  simpa [Array.getD, hi] using h

theorem wpAny_inv (hb : backD ops = true) (I : Array Bool → Act → World → Prop)
    (hstep : ∀ l a w i, l.size = ops.size → I l a w → i ∈ Region.ready .any ops l → wpOp P ops Q i (I (l.setIfInBounds i true)) a w)
    (hend : ∀ l a w, l.size = ops.size → I l a w → (∀ i, i < ops.size → l.getD i true = true) → Q .normal a w) :
    ∀ (fuel : Nat) (l : Array Bool) (a : Act) (w : World), l.size = ops.size → countF l ≤ fuel → I l a w → wpAny P .any ops Q fuel l a w := by
  intro fuel
  induction fuel with
  | zero =>
    intro l a w hs hc h
    have hr : Region.ready .any ops l = [] := by
      cases hr : Region.ready .any ops l with
      | nil => rfl
      | cons i r =>
        have : i ∈ Region.ready .any ops l := by rw [hr]; exact List.mem_cons_self
        have := countF_set (mem_ready.1 this).1
        omega
    exact ⟨hr, hend l a w hs h (ready_nil hb hs hr)⟩
  | succ fuel ih =>
    intro l a w hs hc h
    refine ⟨fun hr => hend l a w hs h (ready_nil hb hs hr), fun i hi => ?_⟩
    refine wpOp_mono (fun a' w' h' => ih _ a' w' (by simpa using hs) ?_ h') (hstep l a w i hs h hi)
    have := countF_set (mem_ready.1 hi).1
    omega

/-- The region by facts. 'x i' is the value of operation i, 'D i' says that it has come up. -/
theorem wp_region_facts {id : Nat} {a : Act} {w : World} (hm : P.follows .mixedOrders = true) (hd : apartD (dstOf ops) = true) (hb : backD ops = true)
    (I : (Nat → Bool) → (Nat → Value) → World → Prop)
    (h0 : ∀ x, I (fun _ => false) x w.drew)
    (hstep : ∀ i o, ops[i]? = some o → ∀ D x w, I D x w → D i = false → (∀ j ∈ deps o, D j = true) → (∀ j, D j = true → ∀ k ∈ depsAt ops j, D k = true) → wpOp P ops Q i (fun a' w' => ∃ v, a' = (putAll (dstOf ops) 0 x a).put o.dst v ∧ I (upd D i true) (upd x i v) w') (putAll (dstOf ops) 0 x a) w)
    (hend : ∀ D x w, I D x w → (∀ i, i < ops.size → D i = true) → Q .normal (putAll (dstOf ops) 0 x a) w) : (Code.region id ops true).wp P Q a w := by
  refine wp_region_any hm (wpAny_inv hb (fun l a' w' => ∃ x, a' = putAll (dstOf ops) 0 x a ∧ (∀ j, l.getD j false = true → ∀ k ∈ depsAt ops j, l.getD k false = true) ∧ I (fun j => l.getD j false) x w') ?_ ?_ _ _ _ _ (by simp) ?_ ?_)
  · rintro l a' w' i hs ⟨x, rfl, hcl, hI⟩ hi
    obtain ⟨hun, o, ho, hdep⟩ := mem_ready.1 hi
    have hlt : i < ops.size := (Array.getElem?_eq_some_iff.1 ho).1
    have hdi : (dstOf ops).getD i none = o.dst := by
      have : ops[i] = o := by simpa [hlt] using ho
      simp [dstOf, hlt, this]
    have hdp : ∀ j ∈ deps o, l.getD j false = true := by
      intro j hj
      simp only [deps, List.mem_map, List.mem_filter] at hj
      obtain ⟨e, ⟨he, hbe⟩, rfl⟩ := hj
      exact hdep e (by simpa using he) hbe
    refine wpOp_mono ?_ (hstep i o ho (fun j => l.getD j false) x w' hI (by have h' : i < l.size := by omega
                                                                            simpa [Array.getD, h'] using hun) hdp hcl)
    · rintro a'' w'' ⟨v, rfl, hI'⟩
      refine ⟨upd x i v, ?_, ?_, ?_⟩
      · rw [← hdi, putAll_upd _ _ _ _ _ _ hd (by simpa [dstOf] using hlt), Nat.zero_add]
      · intro j hj k hk
        by_cases e : k = i
        · subst e
          have h' : k < l.size := by omega
          simp [Array.getD, h']
        rw [getD_set_ne _ (Ne.symm e)]
        by_cases ej : j = i
        · subst ej
          simp only [depsAt, ho] at hk
          exact hdp k hk
        · rw [getD_set_ne _ (Ne.symm ej)] at hj
          exact hcl j hj k hk
      · have : (fun j => (l.setIfInBounds i true).getD j false) = upd (fun j => l.getD j false) i true := by
          funext j
          by_cases e : j = i
          · subst e
            have h' : j < l.size := by omega
            simp [upd, Array.getD, h']
          · rw [upd_ne _ _ e, getD_set_ne _ (Ne.symm e)]
        rw [this]
        exact hI'
  · rintro l a' w' hs ⟨x, rfl, _, hI⟩ hall
    refine hend _ x w' hI (fun i hi => ?_)
    have := hall i hi
    cases hl : l.getD i false with
    | true => rfl
    | false => 
      rcases Nat.lt_or_ge i l.size with h' | h'
      · simp [Array.getD, h'] at this hl; rw [this] at hl; cases hl
      · omega
  · exact Nat.le_trans List.countP_le_length (by simp)
  · refine ⟨_, (putAll_start _ 0 a hd).symm, fun j hj => ?_, ?_⟩
    · by_cases h : j < ops.size <;> simp [Array.getD, h] at hj
    have : (fun j => (Array.replicate ops.size false).getD j false) = fun _ => false := by
      funext j
      by_cases h : j < ops.size <;> simp [Array.getD, h]
    rw [this]
    exact h0 _

def AllOps (Φ : Nat → Oper → Prop) : Nat → List Oper → Prop
  | _, [] => True
  | i, o :: os => Φ i o ∧ AllOps Φ (i + 1) os
theorem AllOps.get {Φ : Nat → Oper → Prop} : ∀ (l : List Oper) (i : Nat), AllOps Φ i l → ∀ k o, l[k]? = some o → Φ (i + k) o := by
  intro l
  induction l with
  | nil => intro i _ k o h; simp at h
  | cons q l ih =>
    intro i h k o ho
    cases k with
    | zero => simp at ho; subst ho; exact h.1
    | succ k => have := ih (i + 1) h.2 k o (by simpa using ho); rw [show i + (k + 1) = i + 1 + k from by omega]; exact this
theorem wpOp_plain {i : Nat} {o : Oper} {a : Act} {w : World} {K : Act → World → Prop} (h : ops[i]? = some o) (hg : o.guard = none) (hw : o.wp P a w K Q) : wpOp P ops Q i K a w := by
  unfold wpOp
  simp only [h, Region.wanted, hg, if_true]
  exact .inl hw
def NoQ : Exit → Act → World → Prop := fun _ _ _ => False
theorem wp_noQ {o : Oper} {a : Act} {w : World} {K : Act → World → Prop} (h : o.wp P a w K NoQ) : o.wp P a w K Q := by
  unfold Oper.wp at *
  generalize (execOp a.eval o).run P w = r at *
  cases r with
  | ok n w' =>
    cases n <;> simp only [Oper.upon] at h ⊢ <;>
      first
        | exact h
        | exact Calls.mono h (fun e w'' he => by cases e <;> first | exact he | exact he.elim | (obtain ⟨_, _, hf⟩ := he; exact hf.elim))
  | halt x w' => cases x <;> simp only [Oper.upon] at h ⊢ <;> first | exact h | exact h.elim

/-- what slot t holds -/
def look (ds : List (Option Tmp)) (x : Nat → Value) (a : Act) (t : Tmp) : Value :=
  match ds.idxOf? (some t) with
  | some i => x i
  | none => a.tmps.getD t undef
theorem getD_put (a : Act) (d t : Tmp) (v : Value) (hd : d < a.tmps.size) : (a.put (some d) v).tmps.getD t undef = if d = t then v else a.tmps.getD t undef := by
  simp only [Act.put, Array.getD_eq_getD_getElem?, Array.getElem?_setIfInBounds]
  by_cases h : d = t
  · subst h; simp [hd]
  · simp [h]
theorem size_put (a : Act) (d : Option Tmp) (v : Value) : (a.put d v).tmps.size = a.tmps.size := by cases d <;> simp [Act.put]
def inD (n : Nat) (ds : List (Option Tmp)) : Bool := ds.all fun d => match d with | some t => decide (t < n) | none => true
theorem putAll_look : ∀ (ds : List (Option Tmp)) (i : Nat) (x : Nat → Value) (a : Act) (t : Tmp), apartD ds = true → inD a.tmps.size ds = true →
    (putAll ds i x a).tmps.getD t undef = match ds.idxOf? (some t) with | some k => x (i + k) | none => a.tmps.getD t undef := by
  intro ds
  induction ds with
  | nil => intro i x a t _ _; rfl
  | cons e ds ih =>
    intro i x a t hd hn
    simp only [apartD, Bool.and_eq_true] at hd
    simp only [inD, List.all_cons, Bool.and_eq_true] at hn
    rw [putAll, ih _ _ _ _ hd.2 (by rw [size_put]; exact hn.2), List.idxOf?_cons]
    by_cases he : e = some t
    · subst he
      have hnm : ds.idxOf? (some t) = none := by
        rw [List.idxOf?_eq_none_iff]
        have := hd.1
        simpa using this
      simp only [hnm, beq_self_eq_true, if_true, Nat.add_zero]
      rw [getD_put _ _ _ _ (by simpa using hn.1), if_pos rfl]
    · have hb : (e == some t) = false := by simpa using he
      rw [hb]
      simp only [Bool.false_eq_true, if_false]
      cases hk : ds.idxOf? (some t) with
      | some k => simp only [Option.map_some]; congr 1; omega
      | none =>
        simp only [Option.map_none]
        cases e with
        | none => rfl
        | some d =>
          rw [getD_put _ _ _ _ (by simpa using hn.1), if_neg (fun h => he (by rw [h]))]

/-- behind one operation -/
def StepPost (I : (Nat → Bool) → (Nat → Value) → World → Prop) (D : Nat → Bool) (x : Nat → Value) (i : Nat) (b : Act) (d : Option Tmp) (a' : Act) (w' : World) : Prop := ∃ v, a' = b.put d v ∧ I (upd D i true) (upd x i v) w'
theorem StepPost.mk' {I : (Nat → Bool) → (Nat → Value) → World → Prop} {D : Nat → Bool} {x : Nat → Value} {i : Nat} {b : Act} {d : Option Tmp} {w' : World} {v : Value} (h : I (upd D i true) (upd x i v) w') : StepPost I D x i b d (b.put d v) w' := ⟨v, rfl, h⟩

/-- the region by facts, no operation guarded -/
theorem wp_region_factsU {id : Nat} {l : List Oper} {a : Act} {w : World} (hm : P.follows .mixedOrders = true) (hd : apartD (dstOf l.toArray) = true) (hb : backD l.toArray = true) (hg : l.all (fun o => o.guard.isNone) = true) (hn : inD a.tmps.size (dstOf l.toArray) = true)
    (I : (Nat → Bool) → (Nat → Value) → World → Prop)
    (h0 : ∀ x, I (fun _ => false) x w.drew)
    (hstep : AllOps (fun i o => ∀ D x w (b : Act), I D x w → D i = false → (∀ j ∈ deps o, D j = true) → (∀ j, D j = true → ∀ k ∈ depsAt l.toArray j, D k = true) → (∀ t : Nat, b.tmps[t]?.getD undef = look (dstOf l.toArray) x a t) → o.wp P b w (StepPost I D x i b o.dst) NoQ) 0 l)
    (hend : ∀ D x w, I D x w → (∀ i, i < l.length → D i = true) → Q .normal (putAll (dstOf l.toArray) 0 x a) w) : (Code.region id l.toArray true).wp P Q a w := by
  refine wp_region_facts hm hd hb I h0 (fun i o ho D x w hI hD hdep hcl => ?_) (fun D x w hI h => hend D x w hI (by simpa using h))
  have ho' : l[i]? = some o := by simpa using ho
  refine wpOp_plain ho ?_ ?_
  · have := List.all_eq_true.1 hg o (List.mem_of_getElem? ho')
    simpa using this
  · have := hstep.get _ _ i o ho' D x w (putAll (dstOf l.toArray) 0 x a)
    rw [Nat.zero_add] at this
    refine wp_noQ (this hI hD hdep hcl (fun t => ?_))
    rw [← Array.getD_eq_getD_getElem?, putAll_look _ _ _ _ _ hd hn]
    unfold look
    simp only [Nat.zero_add]
theorem wp_of_run {I : (Nat → Bool) → (Nat → Value) → World → Prop} {D : Nat → Bool} {x : Nat → Value} {i : Nat} {o : Oper} {b : Act} {w w' : World} (v : Value) (h : (execOp b.eval o).run P w = .ok (.value v) w') (hK : I (upd D i true) (upd x i v) w') : o.wp P b w (StepPost I D x i b o.dst) NoQ := by
  unfold Oper.wp; rw [h]; exact StepPost.mk' hK
theorem wp_of_skip {I : (Nat → Bool) → (Nat → Value) → World → Prop} {D : Nat → Bool} {x : Nat → Value} {i : Nat} {o : Oper} {b : Act} {w w' : World} (h : (execOp b.eval o).run P w = .ok .skip w') (hK : I (upd D i true) (upd x i undef) w') : o.wp P b w (StepPost I D x i b o.dst) NoQ := by
  unfold Oper.wp; rw [h]; exact StepPost.mk' hK
end
end Go.Proofs.YtbfggncmjdhapaaGreatDoor
