/- A region that draws its order, reads, appends one element to an own slice and stores the slice back. -/
/- unravelref13: polynomials as values; Of. -/
import Derived.Test.YtbfggncmjdhapaaGreatDoorZBsm
import Derived.Test.YtbfggncmjdhapaaGreatDoorZRt1
import Derived.Test.YtbfggncmjdhapaaGreatDoorZBeq
namespace Go.Proofs.YtbfggncmjdhapaaGreatDoor
open Go.RowKit
set_option linter.unusedVariables false

/-- what an append to v0 has left as it was; v: the slice that came -/
structure Kpt (B : Nat) (w0 w : World) (v0 v : Value) : Prop where
  bel : Below B w0 w
  keep : ∀ k, k < w0.heap.size → v0.ownBlock ≠ some k → w.heap[k]? = w0.heap[k]?
  blk : ∀ k, v.ownBlock = some k → v0.ownBlock = some k ∨ w0.heap.size ≤ k
section
variable {α : Type}
/-- c: the literal; a: the append; f: the store at p -/
structure ApS (e : TypeId) (sz : Nat) (enc : α → List Value) (B : Nat) (w0 : World) (ev : Nat → Option Value) (c a f : Nat) (v0 : Value) (p : Addr) (L LIT : List α) (D : Nat → Bool) (x : Nat → Value) (w : World) : Prop where
  kn : ∀ i v, ev i = some v → D i = true → x i = v
  pre : D a = false → D f = false → Below w0.heap.size w0 w
  lit : D c = true → D a = false → D f = false → OwnA e sz enc w0.heap.size w (x c) LIT
  mid : D a = true → D f = false → OwnA e sz enc B w (x a) (L ++ LIT) ∧ Kpt B w0 w v0 (x a)
  fin : D f = true → ∃ W v, w = W.setCell p v ∧ OwnA e sz enc B W v (L ++ LIT) ∧ Kpt B w0 W v0 v
variable {e : TypeId} {sz : Nat} {enc : α → List Value} {B : Nat} {w0 w w' : World} {ev : Nat → Option Value} {c a f : Nat} {v0 : Value} {p : Addr} {L LIT : List α} {D : Nat → Bool} {x : Nat → Value}
theorem ApS.start : ApS e sz enc B w0 ev c a f v0 p L LIT (fun _ => false) x w0.drew :=
  ⟨fun i v _ h => Bool.noConfusion h, fun _ _ => (Below.refl _ _).drew, fun h => Bool.noConfusion h, fun h => Bool.noConfusion h, fun h => Bool.noConfusion h⟩
theorem ApS.val (h : ApS e sz enc B w0 ev c a f v0 p L LIT D x w) {i : Nat} {v : Value} (hv : ev i = some v) (h1 : i ≠ c) (h2 : i ≠ a) (h3 : i ≠ f) : ApS e sz enc B w0 ev c a f v0 p L LIT (upd D i true) (upd x i v) w := by
  refine ⟨fun j u hu hd => ?_, fun d1 d2 => ?_, fun d1 d2 d3 => ?_, fun d1 d2 => ?_, fun d => ?_⟩
  · by_cases e : j = i
    · subst e; rw [upd_same]; rw [hv] at hu; injection hu
    · rw [upd_ne _ _ e] at hd ⊢; exact h.kn j u hu hd
  · rw [upd_ne _ _ (Ne.symm h2)] at d1; rw [upd_ne _ _ (Ne.symm h3)] at d2; exact h.pre d1 d2
  · rw [upd_ne _ _ (Ne.symm h1)] at d1 ⊢; rw [upd_ne _ _ (Ne.symm h2)] at d2; rw [upd_ne _ _ (Ne.symm h3)] at d3; exact h.lit d1 d2 d3
  · rw [upd_ne _ _ (Ne.symm h2)] at d1 ⊢; rw [upd_ne _ _ (Ne.symm h3)] at d2; exact h.mid d1 d2
  · rw [upd_ne _ _ (Ne.symm h3)] at d; exact h.fin d
theorem ApS.call (h : ApS e sz enc B w0 ev c a f v0 p L LIT D x w) {v : Value} (hev : ev c = none) (h1 : c ≠ a) (h2 : c ≠ f) (ha : D a = false) (hf : D f = false) (hb : Below w.heap.size w w') (ho : OwnA e sz enc w.heap.size w' v LIT) : ApS e sz enc B w0 ev c a f v0 p L LIT (upd D c true) (upd x c v) w' := by
  have hp := h.pre ha hf
  refine ⟨fun j u hu hd => ?_, fun d1 d2 => hp.trans (hb.mono hp.size), fun d1 d2 d3 => by rw [upd_same]; exact ho.low hp.size, fun d1 d2 => ?_, fun d => ?_⟩
  · have e : j ≠ c := fun e => (by rw [e, hev] at hu; cases hu)
    rw [upd_ne _ _ e] at hd ⊢; exact h.kn j u hu hd
  · rw [upd_ne _ _ (Ne.symm h1), ha] at d1; cases d1
  · rw [upd_ne _ _ (Ne.symm h2), hf] at d; cases d
theorem ApS.app {P : Program} (E : ElA P e sz enc) (h : ApS e sz enc B w0 ev c a f v0 p L LIT D x w) {o : Oper} {b : Act} (sx ux : Operand) (t t2 : TypeId) (ho : o.op = .call { callee := .builtin .append, args := #[sx, ux], argTypes := #[t, t2] })
    (ht : P.underlying t = some (.slice e)) (ht2 : P.underlying t2 = some (.slice e)) (hev : ev a = none) (hca : c ≠ a) (haf : a ≠ f) (hc : D c = true) (ha : D a = false) (hf : D f = false)
    (he1 : b.eval sx = v0) (he2 : b.eval ux = x c) (hv0 : OwnA e sz enc B w0 v0 L) (hB : B ≤ w0.heap.size) (hlen : L.length + LIT.length ≤ 100000000) : o.wp P b w (StepPost (ApS e sz enc B w0 ev c a f v0 p L LIT) D x a b o.dst) NoQ := by
  have hp := h.pre ha hf
  have hl := h.lit hc ha hf
  refine wp_appA (P := P) (base := B) E sx ux t t2 ho ht ht2 he1 (hv0.below hp) he2 hl.sl (by omega) (Nat.le_trans hB hp.size) ?_
  intro v' w' h1 h2 h3 h4
  refine ⟨v', rfl, fun j u hu hd => ?_, fun d1 d2 => ?_, fun d1 d2 d3 => ?_, fun d1 d2 => ?_, fun d => ?_⟩
  · have e : j ≠ a := fun e => (by rw [e, hev] at hu; cases hu)
    rw [upd_ne _ _ e] at hd ⊢; exact h.kn j u hu hd
  · rw [upd_same] at d1; cases d1
  · rw [upd_same] at d2; cases d2
  · rw [upd_same]
    refine ⟨h1, (hp.mono hB).trans h2, fun k hk hne => (h3 k (Nat.lt_of_lt_of_le hk hp.size) hne).trans (hp.block k hk), fun k hk => ?_⟩
    rcases h4 with q | q
    · rw [q] at hk; exact .inl hk
    · rw [q] at hk
      injection hk with hk
      subst hk
      exact .inr hp.size
  · rw [upd_ne _ _ (Ne.symm haf), hf] at d; cases d
theorem ApS.store (h : ApS e sz enc B w0 ev c a f v0 p L LIT D x w) (hev : ev f = none) (ha : D a = true) (hf : D f = false) (v : Value) : ApS e sz enc B w0 ev c a f v0 p L LIT (upd D f true) (upd x f v) (w.setCell p (x a)) := by
  obtain ⟨m1, m2⟩ := h.mid ha hf
  refine ⟨fun j u hu hd => ?_, fun d1 d2 => ?_, fun d1 d2 d3 => ?_, fun d1 d2 => ?_, fun d => ⟨w, x a, rfl, m1, m2⟩⟩
  · have e : j ≠ f := fun e => (by rw [e, hev] at hu; cases hu)
    rw [upd_ne _ _ e] at hd ⊢; exact h.kn j u hu hd
  · rw [upd_same] at d2; cases d2
  · rw [upd_same] at d3; cases d3
  · rw [upd_same] at d2; cases d2
theorem Kpt.arr {g : Nat} {t : TypeId} {cs : List Value} {v : Value} (h : Kpt B w0 w v0 v) (hg : Arr w0 g t cs) (hne : v0.ownBlock ≠ some g) : Arr w g t cs := (h.keep g hg.lt hne).trans hg
/-- a block that the append does not write, at any time before the store -/
theorem ApS.arrK (h : ApS e sz enc B w0 ev c a f v0 p L LIT D x w) (hf : D f = false) {g : Nat} {t : TypeId} {cs : List Value} (hg : Arr w0 g t cs) (hne : v0.ownBlock ≠ some g) : Arr w g t cs := by
  cases ha : D a with
  | false => exact hg.below (h.pre ha hf) hg.lt
  | true => exact (h.mid ha hf).2.arr hg hne
end
end Go.Proofs.YtbfggncmjdhapaaGreatDoor

namespace Go.Proofs.YtbfggncmjdhapaaGreatDoor
open Go.RowKit
set_option linter.unusedVariables false

theorem info_rp13 : (Tryz.prog.info? 49).map (·.size) = some 2 := by kernel_rfl
/-- a polynomial of the reference -/
def R13 (w : World) (v : Value) (p : PolB) : Prop := ∃ A c, v = .agg #[.slice A (p.getD []).length c, .bool p.isNone] ∧ SlA tB w (.slice A (p.getD []).length c) (p.getD [])
theorem R13.below {w w' : World} {v : Value} {p : PolB} (h : R13 w v p) (hb : Below w.heap.size w w') : R13 w' v p := by
  obtain ⟨A, c, hv, hx⟩ := h
  exact ⟨A, c, hv, hx.below hb⟩
theorem R13.big (w : World) : R13 w (.agg #[.slice none 0 0, .bool true]) none := ⟨none, 0, rfl, SlA.nil _ w⟩
theorem R13.zero (w : World) : R13 w (.agg #[.slice none 0 0, .bool false]) (some []) := ⟨none, 0, rfl, SlA.nil _ w⟩
theorem R13.parts {w : World} {v : Value} {p : PolB} (h : R13 w v p) : ∃ (b : Bool) (A : Option Addr) (n c : Nat), v = .agg #[.slice A n c, .bool b] ∧ b = p.isNone ∧ n = (p.getD []).length ∧ SlA tB w (.slice A n c) (p.getD []) := by
  obtain ⟨A, c, hv, hx⟩ := h
  exact ⟨_, A, _, c, hv, rfl, rfl, hx⟩
theorem SlA.far3 {w : World} {v : Value} {xs : List T2} (h : SlA tB w v xs) {g : Nat} {t : TypeId} {b : Bool} {A : Option Addr} {n c : Nat} (hg : Arr w g t [.slice A n c, .bool b]) (u1 u2 : Value) : SlA tB ((w.setCell ⟨g, 0, none⟩ u1).setCell ⟨g, 1, none⟩ u2) v xs := by
  obtain ⟨A', c', hv, hc, hx⟩ := h
  refine ⟨A', c', hv, hc, fun j q hq => ?_⟩
  obtain ⟨b', o', hA, hcell⟩ := hx j q hq
  have hint : ∃ z, q = .int .i64 z := by
    have := List.mem_of_getElem? hq
    obtain ⟨y, _, hy⟩ := List.mem_flatMap.1 this
    unfold tB at hy
    simp at hy
    rcases hy with rfl | rfl | rfl
    · exact ⟨_, rfl⟩
    · exact ⟨_, rfl⟩
    · exact ⟨_, rfl⟩
  obtain ⟨z, rfl⟩ := hint
  have ne : g ≠ b' := fun e => by
    subst e
    rw [hg.cell] at hcell
    rcases (by omega : o' + j = 0 ∨ o' + j = 1 ∨ 2 ≤ o' + j) with q | q | q
    · rw [q] at hcell; injection hcell with hcell; cases hcell
    · rw [q] at hcell; injection hcell with hcell; cases hcell
    · rw [List.getElem?_eq_none (by simpa using q)] at hcell; cases hcell
  refine ⟨b', o', hA, ?_⟩
  rw [World.cell?_setCell_far _ _ _ _ ne, World.cell?_setCell_far _ _ _ _ ne]; exact hcell
theorem R13.box {w : World} {v : Value} {p : PolB} {g : Nat} {t : TypeId} {b : Bool} {A : Option Addr} {n c : Nat} (h : R13 w v p) (hg : Arr w g t [.slice A n c, .bool b]) (u1 u2 : Value) : R13 ((w.setCell ⟨g, 0, none⟩ u1).setCell ⟨g, 1, none⟩ u2) v p := by
  obtain ⟨A', c', hv, hx⟩ := h
  exact ⟨A', c', hv, hx.far3 hg u1 u2⟩
/-- the terms, added one after the other -/
def sumPL (l : List T2) : List T2 := l.foldl plusL []
theorem sumPL_snoc {l : List T2} {k : Nat} (h : k < l.length) : sumPL (l.take (k + 1)) = plusL (sumPL (l.take k)) l[k] := by
  unfold sumPL
  rw [take_snocB h, List.foldl_append]; rfl
theorem foldP_cg (l : List T2) (e : K2) : ∀ m, cg2 (l.foldl plusL m) e = cg2 m e + cg2 l e := by
  induction l with
  | nil => intro m; simp [cg2]
  | cons t l ih => intro m; rw [List.foldl_cons, ih, plusL_cg, cg2_cons, cg2_cons, cg2_nil]; omega
theorem sumPL_cg (l : List T2) (e : K2) : cg2 (sumPL l) e = cg2 l e := by
  unfold sumPL; rw [foldP_cg, cg2_nil]; omega
theorem foldP_srt (l : List T2) : ∀ m, Srt2 m → Srt2 (l.foldl plusL m) := by
  induction l with
  | nil => intro m h; exact h
  | cons t l ih => intro m h; exact ih _ (plusL_srt t h)
theorem sumPL_srt (l : List T2) : Srt2 (sumPL l) := foldP_srt l [] List.Pairwise.nil
theorem foldP_len (l : List T2) : ∀ m : List T2, (l.foldl plusL m).length ≤ m.length + l.length := by
  induction l with
  | nil => intro m; simp
  | cons t l ih => intro m; have h1 := ih (plusL m t); have h2 := plusL_len m t; rw [List.foldl_cons, List.length_cons]; omega
theorem sumPL_len (l : List T2) : (sumPL l).length ≤ l.length := by have := foldP_len l []; simpa [sumPL] using this
theorem cg2_bd {l : List T2} {B : Nat} (h : ∀ t ∈ l, t.2.natAbs ≤ B) (e : K2) : (cg2 l e).natAbs ≤ B * l.length := by
  induction l with
  | nil => simp [cg2]
  | cons t l ih =>
    have h1 := h t (List.mem_cons_self ..)
    have h2 := ih (fun s hs => h s (List.mem_cons_of_mem _ hs))
    rw [cg2_cons, List.length_cons, Nat.mul_succ]
    split <;> omega
theorem sumPL_bd {l : List T2} {B : Nat} (h : ∀ t ∈ l, t.2.natAbs ≤ B) : ∀ s ∈ sumPL l, s.2.natAbs ≤ B * l.length := fun s hs => by
  have h1 := cg2_mem (sumPL_srt l) hs
  rw [sumPL_cg] at h1
  rw [← h1]
  exact cg2_bd h _
theorem sumPL_bd2 {l : List T2} (hl : l.length ≤ 1000) (h : ∀ t ∈ l, t.2.natAbs ≤ 2251799813685248) (k : Nat) : ∀ s ∈ sumPL (l.take k), -2305843009213693952 ≤ s.2 ∧ s.2 ≤ 2305843009213693952 := fun s hs => by
  have h1 := sumPL_bd (B := 2251799813685248) (l := l.take k) (fun t ht => h t (List.mem_of_mem_take ht)) s hs
  have h2 : (l.take k).length ≤ 1000 := by rw [List.length_take]; omega
  have h3 := Nat.mul_le_mul_left 2251799813685248 h2
  omega
theorem sumPL_ln2 {l : List T2} (hl : l.length ≤ 1000) (k : Nat) : (sumPL (l.take k)).length ≤ 1000000 := by
  have h1 := sumPL_len (l.take k)
  have h2 : (l.take k).length ≤ 1000 := by rw [List.length_take]; omega
  omega
def lim3 (t : T2) : Bool := decide (-1125899906842624 ≤ t.2 ∧ t.2 ≤ 1125899906842624) && (decide (-1048576 ≤ t.1.1 ∧ t.1.1 ≤ 1048576) && decide (-1048576 ≤ t.1.2 ∧ t.1.2 ≤ 1048576))
def col3L (l : List T2) : List T2 := l.filter fun t => t.2 != 0
def col3B (l : List T2) : Bool := l.all fun t => t.2 == 0 || lim3 t
def ofP3 (l : List T2) : PolB := if col3B (sumPL l) = true then some (col3L (sumPL l)) else none
theorem col3L_snoc {L : List T2} {k : Nat} (hk : k < L.length) : col3L (L.take (k + 1)) = col3L (L.take k) ++ (if L[k].2 = 0 then [] else [L[k]]) := by
  unfold col3L
  rw [take_snocB hk, List.filter_append]
  congr 1
  by_cases h : L[k].2 = 0 <;> simp [h]
theorem col3B_snoc {L : List T2} {k : Nat} (hk : k < L.length) : col3B (L.take (k + 1)) = (col3B (L.take k) && (L[k].2 == 0 || lim3 L[k])) := by
  unfold col3B
  rw [take_snocB hk, List.all_append, List.all_cons, List.all_nil, Bool.and_true]
theorem col3B_take {L : List T2} {k : Nat} (h : col3B (L.take k) = false) : col3B L = false := by
  cases hh : col3B L with
  | false => rfl
  | true =>
    unfold col3B at h hh
    have h2 : (L.take k).all (fun t => t.2 == 0 || lim3 t) = true := List.all_eq_true.2 fun t ht => List.all_eq_true.1 hh t (List.mem_of_mem_take ht)
    rw [h2] at h; cases h
theorem cg2_col3 (l : List T2) (e : K2) : cg2 (col3L l) e = cg2 l e := by
  unfold col3L
  induction l with
  | nil => rfl
  | cons t l ih =>
    rw [List.filter_cons]
    by_cases h : t.2 = 0
    · rw [if_neg (by simp [h]), ih, cg2_cons, h]; split <;> omega
    · rw [if_pos (by simp [h]), cg2_cons, cg2_cons, ih]
theorem col3L_len (l : List T2) : (col3L l).length ≤ l.length := List.length_filter_le _ _
theorem ofP3_gth (l : List T2) : GthP (fun e => cg2 l e) (ofP3 l) := by
  unfold ofP3
  split
  · next h =>
    have h2 := List.all_eq_true.1 h
    have hm : ∀ t ∈ col3L (sumPL l), t.2 ≠ 0 ∧ lim3 t = true := fun t ht => by
      obtain ⟨a, b⟩ := List.mem_filter.1 ht
      have b2 : t.2 ≠ 0 := by simpa using b
      have := h2 t a
      rcases Bool.or_eq_true_iff.1 this with q | q
      · exact absurd (beq_iff_eq.1 q) b2
      · exact ⟨b2, q⟩
    refine .inl ⟨_, rfl, ⟨List.Pairwise.filter _ (sumPL_srt l), fun t ht => (hm t ht).1⟩, ⟨fun t ht => ?_, fun t ht => ?_, fun t ht => ?_⟩, fun e => by rw [cg2_col3, sumPL_cg]⟩
    · have := (hm t ht).2
      unfold lim3 at this
      simp only [Bool.and_eq_true, decide_eq_true_eq] at this
      exact this.1
    · have := (hm t ht).2
      unfold lim3 at this
      simp only [Bool.and_eq_true, decide_eq_true_eq] at this
      exact this.2.1
    · have := (hm t ht).2
      unfold lim3 at this
      simp only [Bool.and_eq_true, decide_eq_true_eq] at this
      exact this.2.2
  · next h =>
    refine .inr ⟨rfl, ?_⟩
    have h2 : ∃ t ∈ sumPL l, ¬ (t.2 == 0 || lim3 t) = true := by
      by_cases q : ∃ t ∈ sumPL l, ¬ (t.2 == 0 || lim3 t) = true
      · exact q
      · exact absurd (List.all_eq_true.2 fun t ht => Decidable.not_not.1 fun k => q ⟨t, ht, k⟩) h
    obtain ⟨t, ht, hb⟩ := h2
    have h3 := cg2_mem (sumPL_srt l) ht
    rw [sumPL_cg] at h3
    refine ⟨t.1, ?_, ?_⟩
    · show cg2 l t.1 ≠ 0
      rw [h3]; intro q; exact hb (by simp [q])
    · show ¬ inB t.1 (cg2 l t.1)
      rw [h3]
      intro q
      refine hb (Bool.or_eq_true_iff.2 (.inr ?_))
      unfold lim3
      obtain ⟨q1, q2, q3⟩ := q
      simp only [Bool.and_eq_true, decide_eq_true_eq]
      exact ⟨q1, q2, q3⟩
/-- the state of the loop that collects terms -/
structure Rc3 (r ga : Nat) (w6 W : World) (s : Value) (R : List T2) : Prop where
  bel : Below ga w6 W
  siz : ga + 1 ≤ W.heap.size
  hlt : r < ga
  res : Arr W r 49 [.slice none 0 0, .bool false]
  acc : Arr W ga 49 [s, .bool false]
  own : OwnA 34 3 tB (ga + 1) W s R
section
variable {r ga : Nat} {w6 W W' : World} {s s' : Value} {R : List T2} {m : T2}
theorem Rc3.below (h : Rc3 r ga w6 W s R) (hb : Below W.heap.size W W') : Rc3 r ga w6 W' s R := by
  have h1 := h.siz
  exact ⟨h.bel.trans (hb.mono (by omega)), Nat.le_trans h1 hb.size, h.hlt, h.res.below hb h.res.lt, h.acc.below hb h.acc.lt, h.own.below hb⟩
theorem Rc3.ne (h : Rc3 r ga w6 W s R) : s.ownBlock ≠ some ga ∧ s.ownBlock ≠ some r := by
  have h2 := h.hlt
  constructor
  · intro e; have := h.own.block _ e; omega
  · intro e; have := h.own.block _ e; omega
theorem Rc3.app (h : Rc3 r ga w6 W s R) (ho : OwnA 34 3 tB (ga + 1) W' s' (R ++ [m])) (hk : Kpt (ga + 1) W W' s s') : Rc3 r ga w6 (W'.setCell ⟨ga, 0, none⟩ s') s' (R ++ [m]) := by
  have h1 := h.siz
  have h2 := hk.bel.size
  have h3 := h.hlt
  refine ⟨(h.bel.trans (hk.bel.mono (by omega))).setCell (p := ⟨ga, 0, none⟩) (Nat.le_refl _) _, by simp; omega, h3, (hk.arr h.res h.ne.2).far (p := ⟨ga, 0, none⟩) (show r ≠ ga by omega) _, (hk.arr h.acc h.ne.1).set 0 s', ho.keepK fun k hk' => Below.heap_setCell _ _ _ _ (fun e => ?_)⟩
  have := ho.block k hk'
  simp only at e
  omega
end
theorem lim3_f {y1 y2 y3 : Int} {b : Bool} (h : lim3 ((y1, y2), y3) = b) : b = (!(decide (1125899906842624 < y3 ∨ y3 < -1125899906842624) || decide (1048576 < y1 ∨ y1 < -1048576) || decide (1048576 < y2 ∨ y2 < -1048576))) := by
  rw [← h]
  unfold lim3
  have a1 : decide (-1125899906842624 ≤ y3 ∧ y3 ≤ 1125899906842624) = !decide (1125899906842624 < y3 ∨ y3 < -1125899906842624) := by
    rw [← decide_not]; congr 1; exact propext ⟨fun h => by omega, fun h => by omega⟩
  have a2 : ∀ y : Int, decide (-1048576 ≤ y ∧ y ≤ 1048576) = !decide (1048576 < y ∨ y < -1048576) := fun y => by
    rw [← decide_not]; congr 1; exact propext ⟨fun h => by omega, fun h => by omega⟩
  simp only [a1, a2]
  cases decide (1125899906842624 < y3 ∨ y3 < -1125899906842624) <;> cases decide (1048576 < y1 ∨ y1 < -1048576) <;> cases decide (1048576 < y2 ∨ y2 < -1048576) <;> rfl
set_option maxHeartbeats 8000000 in
set_option maxRecDepth 100000 in
theorem of13_ref (v : Value) (l : List T2) (w : World) (hs : SlA tB w v l) (hl : l.length ≤ 1000) (hb1 : ∀ t ∈ l, t.2.natAbs ≤ 2251799813685248) :
    Calls Tryz.prog 57 #[v] w fun e w' => ∃ v r, e = .returned v ∧ R13 w' v r ∧ GthP (fun e => cg2 l e) r ∧ lenB r ≤ l.length ∧ Below w.heap.size w w' := by
  have HS := Lib.hid (fun W (hb : Below w.heap.size w W) => hs.below hb)
  have HLB := Lib.hid hb1
  have HGP := Lib.hid (ofP3_gth l)
  obtain ⟨P, hP⟩ : ∃ P, P = ofP3 l := ⟨_, rfl⟩
  rw [← hP] at HGP
  have HP := Lib.hid hP
  clear hP hb1
  obtain ⟨A, c, rfl, hcA, _⟩ := hs
  have hW : ∀ W, W = w.alloc (.cells #[.slice none 0 0, .bool false] 49) → Arr W w.heap.size 49 [.slice none 0 0, .bool false] ∧ Below w.heap.size w W := by
    intro W hW
    subst hW
    exact ⟨Arr.new _ _ [_, _], (Below.refl _ _).alloc (Nat.le_refl _) _⟩
  obtain ⟨N, hN⟩ : ∃ n, n = l.length := ⟨_, rfl⟩
  rw [← hN] at hl hcA HS ⊢
  have HN := Lib.hid hN
  clear hN
  go_enter Tryz.func57, Tryz.ntmps57
  go_upto_region 1 with fail
  generalize w.alloc (.cells #[.slice none 0 0, .bool false] 49) = w3 at hW ⊢
  obtain ⟨qr, hb3⟩ := hW w3 rfl
  obtain ⟨rb, hrb⟩ : ∃ r, r = w.heap.size := ⟨_, rfl⟩
  rw [← hrb] at qr HS hb3 ⊢
  have QR := Lib.hid qr
  have HB3 := Lib.hid hb3
  have HRB := Lib.hid hrb
  clear hW qr hb3 hrb
  go_wp2_with fail
  go_loopg [3, 4] N (fun gk s3 s4 wr => ∃ k : Nat, k ≤ N ∧ gk = N - k ∧ s4 = .int .i64 (k : Int) ∧ SlA tB wr s3 (sumPL (l.take k)) ∧ Below w3.heap.size w3 wr)
  case atStart => exact ⟨0, Nat.zero_le _, rfl, rfl, SlA.nil _ _, Below.refl _ _⟩
  case round =>
    obtain ⟨k, hk, rfl, rfl, hsl, hbr⟩ := hrel
    by_cases hlt : k < N
    · have z1 : (k : Int) < (N : Int) := by omega
      have hkl : k < l.length := by have := HN.out; omega
      have HBR := Lib.hid hbr
      obtain ⟨b, o, rfl, -, y0, y1, y2⟩ := (HS.out wr (HB3.out.trans (hbr.mono (Nat.le_of_lt QR.out.lt)))).at3 hkl
      have HE := Lib.hid (sumPL_snoc hkl)
      have hbt := HLB.out _ (List.getElem_mem hkl)
      obtain ⟨A3, c3, rfl, _⟩ := id hsl
      have HC := Lib.hid (plus_ref (.slice A3 (sumPL (l.take k)).length c3) (sumPL (l.take k)) l[k] wr hsl (sumPL_ln2 (by have := HN.out; omega) k) (sumPL_bd2 (by have := HN.out; omega) HLB.out k) (by omega))
      generalize (sumPL (l.take k)).length = n3 at *
      clear hsl hbr hbt
      generalize l[k] = t at *
      obtain ⟨⟨t1, t2⟩, t3⟩ := t
      simp only at y0 y1 y2 HC
      go_wp2_with fail
      refine HC.out.mono ?_
      rintro e w4 ⟨u, rfl, hu, hb4⟩
      have HU := Lib.hid hu
      have HB4 := Lib.hid (HBR.out.trans (hb4.mono HBR.out.size))
      clear hu hb4 HC y0 y1 y2
      go_wp2_with fail
      go_roundg (N - (k + 1))
      case measure => omega
      case rel => exact ⟨k + 1, by omega, rfl, by go_num, by rw [HE.out]; exact HU.out, HB4.out⟩
    · have z1 : ¬ (k : Int) < (N : Int) := by omega
      obtain ⟨wo, rfl⟩ : ∃ W, W = wr := ⟨_, rfl⟩
      have hkk : l.take k = l := List.take_of_length_le (by have := HN.out; omega)
      rw [hkk] at hsl
      have HLS := Lib.hid (show (sumPL l).length ≤ N from by have := sumPL_len l; have := HN.out; omega)
      have HPS := Lib.hid (show P = if col3B (sumPL l) = true then some (col3L (sumPL l)) else none from HP.out)
      clear hkk HP
      generalize sumPL l = L at *
      have HS1 := Lib.hid (fun W (hb : Below wo.heap.size wo W) => hsl.below hb)
      obtain ⟨A3, c, rfl, hc3, _⟩ := hsl
      have hW : ∀ W, W = wo.alloc (.cells #[.slice none 0 0, .bool false] 49) → ∃ ga, ga = wo.heap.size ∧ Rc3 rb ga wo W (.slice none 0 0) [] ∧ Below rb w W := by
        intro W hW
        subst hW
        have h1 := QR.out.below hbr QR.out.lt
        exact ⟨_, rfl, ⟨(Below.refl _ _).alloc (Nat.le_refl _) _, by simp, h1.lt, h1.alloc _, Arr.new _ _ [_, _], OwnA.nil _ _ _ _ _⟩, (HB3.out.trans (hbr.mono (Nat.le_of_lt QR.out.lt))).alloc (Nat.le_of_lt h1.lt) _⟩
      have HW := Lib.hid hW
      clear hW
      obtain ⟨n, hn⟩ : ∃ n, n = L.length := ⟨_, rfl⟩
      rw [← hn] at hc3 HS1 HLS ⊢
      have HN2 := Lib.hid hn
      have hn1000 : n ≤ 1000 := by have := HLS.out; omega
      clear hn
      go_upto_region 7 with fail
      have hW := HW.out
      clear HW
      generalize wo.alloc (.cells #[.slice none 0 0, .bool false] 49) = w6 at hW ⊢
      obtain ⟨ga, hga, hst, hb6⟩ := hW w6 rfl
      rw [← hga] at HS1 ⊢
      have HB6 := Lib.hid hb6
      have HS3 := Lib.hid (fun W (hb : Below ga wo W) => HS1.out W hb)
      have HRG := Lib.hid hst.hlt
      clear hW hga hb6 HS1 HS hcA HLB hk z1 hlt QR HB3 hbr
      go_wp2_with fail
      go_loopg [6] n (fun gk s6 wr => ∃ (k : Nat) (s : Value), k ≤ n ∧ gk = n - k ∧ s6 = .int .i64 (k : Int) ∧ Rc3 rb ga wo wr s (col3L (L.take k)) ∧ Hid (col3B (L.take k) = true) ∧ Below rb w wr)
      case atStart => exact ⟨0, _, Nat.zero_le _, rfl, rfl, hst, Lib.hid rfl, HB6.out⟩
      case round =>
        clear hst HB6
        obtain ⟨k, s, hk, rfl, rfl, hst, HK, hbw⟩ := hrel
        by_cases hlt : k < n
        · have z1 : (k : Int) < (n : Int) := by omega
          have hkl : k < L.length := by have := HN2.out; omega
          have HZ := Lib.hid z1
          obtain ⟨b, o, rfl, -, e0, e1, e2⟩ := (HS3.out wr hst.bel).at3 hkl
          have HEX0 := Lib.hid (fun W (hb : Below ga wo W) => (HS3.out W hb).cells3 hkl)
          have HL := Lib.hid (col3L_snoc hkl)
          have HB := Lib.hid (col3B_snoc hkl)
          have HBad := Lib.hid (fun (h : col3B (L.take (k + 1)) = false) => (show P = none from by rw [HPS.out, col3B_take h]; rfl))
          have HRL := Lib.hid (show (col3L (L.take k)).length ≤ 1000000 from by have := col3L_len (L.take k); rw [List.length_take] at this; have := HLS.out; omega)
          generalize col3L (L.take k) = R at *
          generalize L[k] = y at *
          obtain ⟨⟨y1, y2⟩, y3⟩ := y
          simp only at e0 e1 e2 HEX0 HL HB
          obtain ⟨As, cs, rfl⟩ := hst.own.form
          have HST := Lib.hid hst
          have HBW := Lib.hid hbw
          by_cases hX : y3 = 0
          · have zz : (y3 == 0) = true := beq_iff_eq.2 hX
            have HL2 := Lib.hid (show col3L (L.take (k + 1)) = R from by rw [HL.out, if_pos hX, List.append_nil])
            have HB2 := Lib.hid (show col3B (L.take (k + 1)) = true from by rw [HB.out, HK.out, zz]; rfl)
            clear HL HB HBad hX hst hbw
            go_wp2_with fail
            go_roundg (n - (k + 1))
            case measure => omega
            case rel => exact ⟨k + 1, _, by omega, rfl, by go_num, by rw [HL2.out]; exact HST.out, HB2, HBW.out⟩
          · have zz : (y3 == 0) = false := beq_eq_false_iff_ne.2 hX
            have HL2 := Lib.hid (show col3L (L.take (k + 1)) = R ++ [((y1, y2), y3)] from by rw [HL.out, if_neg hX])
            obtain ⟨LB, hLB⟩ : ∃ LB, LB = lim3 ((y1, y2), y3) := ⟨_, rfl⟩
            have HB2 := Lib.hid (show col3B (L.take (k + 1)) = LB from by rw [HB.out, HK.out, zz, hLB]; rfl)
            have HF := Lib.hid (lim3_f hLB.symm)
            have HF1 := Lib.hid (fun W => far_any y3 1125899906842624 W (by decide) (by decide))
            have HF2 := Lib.hid (fun W => far_any y1 1048576 W (by decide) (by decide))
            have HF3 := Lib.hid (fun W => far_any y2 1048576 W (by decide) (by decide))
            generalize decide (1125899906842624 < y3 ∨ y3 < -1125899906842624) = f1 at HF HF1
            generalize decide (1048576 < y1 ∨ y1 < -1048576) = f2 at HF HF2
            generalize decide (1048576 < y2 ∨ y2 < -1048576) = f3 at HF HF3
            have qr := hst.res
            have x0 := qr.cell 0
            have x1 := qr.cell 1
            have f0 := qr.frozen 0
            have g0 := qr.frozen 1
            have HRS := Lib.hid ((qr.set 0 (.slice none 0 0)).set 1 (.bool true))
            have HBE := Lib.hid ((hbw.setCell (p := ⟨rb, 0, none⟩) (Nat.le_refl _) (.slice none 0 0)).setCell (p := ⟨rb, 1, none⟩) (Nat.le_refl _) (.bool true))
            clear qr HL HB hX hLB hst hbw
            cases f1 with
            | true =>
              have HPN := Lib.hid (HBad.out (by rw [HB2.out, HF.out]; rfl))
              clear HBad HB2 HL2 HF
              go_wp2_with fail
              refine (HF1.out wr).mono ?_
              rintro e w7 ⟨rfl, rfl⟩
              go_wp2_with fail
              refine bodyPost_ret (v := .agg #[.slice none 0 0, .bool true]) (results_c Tryz.results57 _ _ rb 49 _ _ rfl HRS.out Tryz.underlying49 rfl info_rp13) rfl ?_
              exact ⟨_, none, rfl, R13.big _, by rw [← HPN.out]; exact HGP.out, Nat.zero_le _, by rw [← HRB.out]; exact HBE.out⟩
            | false =>
              cases f2 with
              | true =>
                have HPN := Lib.hid (HBad.out (by rw [HB2.out, HF.out]; rfl))
                clear HBad HB2 HL2 HF
                go_wp2_with fail
                refine (HF1.out wr).mono ?_
                rintro e w7 ⟨rfl, rfl⟩
                go_wp2_with fail
                refine (HF2.out w7).mono ?_
                rintro e w8 ⟨rfl, rfl⟩
                go_wp2_with fail
                refine bodyPost_ret (v := .agg #[.slice none 0 0, .bool true]) (results_c Tryz.results57 _ _ rb 49 _ _ rfl HRS.out Tryz.underlying49 rfl info_rp13) rfl ?_
                exact ⟨_, none, rfl, R13.big _, by rw [← HPN.out]; exact HGP.out, Nat.zero_le _, by rw [← HRB.out]; exact HBE.out⟩
              | false =>
                cases f3 with
                | true =>
                  have HPN := Lib.hid (HBad.out (by rw [HB2.out, HF.out]; rfl))
                  clear HBad HB2 HL2 HF
                  go_wp2_with fail
                  refine (HF1.out wr).mono ?_
                  rintro e w7 ⟨rfl, rfl⟩
                  go_wp2_with fail
                  refine (HF2.out w7).mono ?_
                  rintro e w8 ⟨rfl, rfl⟩
                  go_wp2_with fail
                  refine (HF3.out w8).mono ?_
                  rintro e w9 ⟨rfl, rfl⟩
                  go_wp2_with fail
                  refine bodyPost_ret (v := .agg #[.slice none 0 0, .bool true]) (results_c Tryz.results57 _ _ rb 49 _ _ rfl HRS.out Tryz.underlying49 rfl info_rp13) rfl ?_
                  exact ⟨_, none, rfl, R13.big _, by rw [← HPN.out]; exact HGP.out, Nat.zero_le _, by rw [← HRB.out]; exact HBE.out⟩
                | false =>
                  have HB4 := Lib.hid (show col3B (L.take (k + 1)) = true from by rw [HB2.out, HF.out]; rfl)
                  clear HBad HB2 HF HRS HBE x0 x1 f0 g0
                  go_wp2_with fail
                  refine (HF1.out wr).mono ?_
                  rintro e w7 ⟨rfl, rfl⟩
                  go_wp2_with fail
                  refine (HF2.out w7).mono ?_
                  rintro e w8 ⟨rfl, rfl⟩
                  go_wp2_with fail
                  refine (HF3.out w8).mono ?_
                  rintro e w5 ⟨rfl, rfl⟩
                  have HEX := Lib.hid (fun W (hb : Below w5.heap.size w5 W) => HEX0.out W (HST.out.below hb).bel)
                  clear HF1 HF2 HF3 e0 e1 e2
                  go_upto_region 13 with fail
                  refine wp_region_factsU (by kernel_rfl) (by kernel_rfl) (by kernel_rfl) (by kernel_rfl) (by kernel_rfl) (ApS 34 3 tB (ga + 1) w5 (fun i => ([some (.pointer (some ⟨ga, 0, none⟩)), some (.slice As R.length cs), some (.slice (some ⟨b, o, none⟩) n c), some (.int .i64 (k : Int)), some (.pointer (some ⟨b, o + k * 3, none⟩)), some (.agg #[.int .i64 y1, .int .i64 y2, .int .i64 y3]), none, none, some (.pointer (some ⟨ga, 0, none⟩)), none] : List (Option Value)).getD i none) 6 7 9 (.slice As R.length cs) (⟨ga, 0, none⟩) (R) ([((y1, y2), y3)])) (fun x => ApS.start) ⟨?_, ?_, ?_, ?_, ?_, ?_, ?_, ?_, ?_, ?_, trivial⟩ ?_
                  · intro D x w1 bA hI hD hdep hcl hb
                    have e5 : bA.tmps[5]?.getD undef = .pointer (some ⟨ga, 0, none⟩) := hb 5
                    refine wp_of_run (.pointer (some ⟨ga, 0, none⟩)) (w' := w1) ?_ (hI.val rfl (by decide) (by decide) (by decide))
                    clear hb hI hdep hcl
                    go_simp
                  · intro D x w1 bA hI hD hdep hcl hb
                    have hq7 : D 7 = false := by cases h : D 7 with | false => rfl | true => (have := hcl 7 h 1 (by decide); rw [hD] at this; cases this)
                    have hqf : D 9 = false := by cases h : D 9 with | false => rfl | true => (have := hcl 9 h 7 (by decide); rw [hq7] at this; cases this)
                    have hpre := hI.pre hq7 hqf
                    have e54 : bA.tmps[54]?.getD undef = .pointer (some ⟨ga, 0, none⟩) := (hb 54).trans (hI.kn 0 _ rfl (hdep 0 (by decide)))
                    have ya := (HST.out.below hpre).acc.cell 0
                    refine wp_of_run (.slice As R.length cs) (w' := w1) ?_ (hI.val rfl (by decide) (by decide) (by decide))
                    clear hb hI hdep hcl
                    go_simp
                  · intro D x w1 bA hI hD hdep hcl hb
                    have e3 : bA.tmps[3]?.getD undef = .slice (some ⟨b, o, none⟩) n c := hb 3
                    refine wp_of_run (.slice (some ⟨b, o, none⟩) n c) (w' := w1) ?_ (hI.val rfl (by decide) (by decide) (by decide))
                    clear hb hI hdep hcl
                    go_simp
                  · intro D x w1 bA hI hD hdep hcl hb
                    have e6 : bA.tmps[6]?.getD undef = .int .i64 (k : Int) := hb 6
                    refine wp_of_run (.int .i64 (k : Int)) (w' := w1) ?_ (hI.val rfl (by decide) (by decide) (by decide))
                    clear hb hI hdep hcl
                    go_simp
                  · intro D x w1 bA hI hD hdep hcl hb
                    have e56 : bA.tmps[56]?.getD undef = .slice (some ⟨b, o, none⟩) n c := (hb 56).trans (hI.kn 2 _ rfl (hdep 2 (by decide)))
                    have e57 : bA.tmps[57]?.getD undef = .int .i64 (k : Int) := (hb 57).trans (hI.kn 3 _ rfl (hdep 3 (by decide)))
                    have zz := HZ.out
                    refine wp_of_run (.pointer (some ⟨b, o + k * 3, none⟩)) (w' := w1) ?_ (hI.val rfl (by decide) (by decide) (by decide))
                    clear hb hI hdep hcl
                    go_simp
                  · intro D x w1 bA hI hD hdep hcl hb
                    have hq6 : D 6 = false := by cases h : D 6 with | false => rfl | true => (have := hcl 6 h 5 (by decide); rw [hD] at this; cases this)
                    have hq7 : D 7 = false := by cases h : D 7 with | false => rfl | true => (have := hcl 7 h 6 (by decide); rw [hq6] at this; cases this)
                    have hqf : D 9 = false := by cases h : D 9 with | false => rfl | true => (have := hcl 9 h 7 (by decide); rw [hq7] at this; cases this)
                    have hpre := hI.pre hq7 hqf
                    have e58 : bA.tmps[58]?.getD undef = .pointer (some ⟨b, o + k * 3, none⟩) := (hb 58).trans (hI.kn 4 _ rfl (hdep 4 (by decide)))
                    obtain ⟨ye0, ye1, ye2⟩ := HEX.out _ hpre
                    refine wp_of_run (.agg #[.int .i64 y1, .int .i64 y2, .int .i64 y3]) (w' := w1) ?_ (hI.val rfl (by decide) (by decide) (by decide))
                    clear hb hI hdep hcl
                    go_simp
                  · intro D x w1 bA hI hD hdep hcl hb
                    have hq7 : D 7 = false := by cases h : D 7 with | false => rfl | true => (have := hcl 7 h 6 (by decide); rw [hD] at this; cases this)
                    have hqf : D 9 = false := by cases h : D 9 with | false => rfl | true => (have := hcl 9 h 7 (by decide); rw [hq7] at this; cases this)
                    have e59 : bA.tmps[59]?.getD undef = .agg #[.int .i64 y1, .int .i64 y2, .int .i64 y3] := (hb 59).trans (hI.kn 5 _ rfl (hdep 5 (by decide)))
                    refine wp_of_run (.slice (some ⟨w1.heap.size, 0, none⟩) 1 1) (w' := w1.alloc (.cells #[.int .i64 y1, .int .i64 y2, .int .i64 y3] 34)) ?_ (hI.call rfl (by decide) (by decide) hq7 hqf ((Below.refl _ _).alloc (Nat.le_refl _) _) (OwnA.lit (xs := [((y1, y2), y3)]) (fun y _ => elR.len y) (Nat.le_refl _) (by simp) (by simp)))
                    clear hb hI hdep hcl
                    go_simp
                  · intro D x w1 bA hI hD hdep hcl hb
                    have hqf : D 9 = false := by cases h : D 9 with | false => rfl | true => (have := hcl 9 h 7 (by decide); rw [hD] at this; cases this)
                    have e55 : bA.tmps[55]?.getD undef = .slice As R.length cs := (hb 55).trans (hI.kn 1 _ rfl (hdep 1 (by decide)))
                    have e60 : bA.tmps[60]?.getD undef = x 6 := hb 60
                    exact hI.app elR (.tmp 55) (.tmp 60) 22 22 rfl Tryz.underlying22 Tryz.underlying22 rfl (by decide) (by decide) (hdep 6 (by decide)) hD hqf (by simpa [Act.eval] using e55) (by simpa [Act.eval] using e60) (HST.out.own) (HST.out.siz) (by have := HRL.out; simp; omega)
                  · intro D x w1 bA hI hD hdep hcl hb
                    have e5 : bA.tmps[5]?.getD undef = .pointer (some ⟨ga, 0, none⟩) := hb 5
                    refine wp_of_run (.pointer (some ⟨ga, 0, none⟩)) (w' := w1) ?_ (hI.val rfl (by decide) (by decide) (by decide))
                    clear hb hI hdep hcl
                    go_simp
                  · intro D x w1 bA hI hD hdep hcl hb
                    have hda : D 7 = true := hdep 7 (by decide)
                    have e62 : bA.tmps[62]?.getD undef = .pointer (some ⟨ga, 0, none⟩) := (hb 62).trans (hI.kn 8 _ rfl (hdep 8 (by decide)))
                    have e61 : bA.tmps[61]?.getD undef = x 7 := hb 61
                    have hst := hI.store rfl hda hD undef
                    obtain ⟨hm1, hm2⟩ := hI.mid hda hD
                    have qarr := hm2.arr (HST.out.acc) (HST.out.ne.1)
                    have qy := qarr.cell 0
                    have qf := qarr.frozen 0
                    obtain ⟨AF, cF, eF⟩ := hm1.form
                    generalize x 7 = xA at *
                    subst eF
                    refine wp_of_skip ?_ hst
                    clear hb hI hdep hcl hst hm1 hm2 qarr
                    go_simp
                  intro D x w1 hI hall
                  obtain ⟨wS, vS, hwS, hownS, hkptS⟩ := hI.fin (hall 9 (by simp))
                  have x0e : x 0 = .pointer (some ⟨ga, 0, none⟩) := hI.kn 0 _ rfl (hall 0 (by simp))
                  have x1e : x 1 = .slice As R.length cs := hI.kn 1 _ rfl (hall 1 (by simp))
                  have x2e : x 2 = .slice (some ⟨b, o, none⟩) n c := hI.kn 2 _ rfl (hall 2 (by simp))
                  have x3e : x 3 = .int .i64 (k : Int) := hI.kn 3 _ rfl (hall 3 (by simp))
                  have x4e : x 4 = .pointer (some ⟨b, o + k * 3, none⟩) := hI.kn 4 _ rfl (hall 4 (by simp))
                  have x5e : x 5 = .agg #[.int .i64 y1, .int .i64 y2, .int .i64 y3] := hI.kn 5 _ rfl (hall 5 (by simp))
                  have x8e : x 8 = .pointer (some ⟨ga, 0, none⟩) := hI.kn 8 _ rfl (hall 8 (by simp))
                  simp only [putAll, dstOf, Act.put, List.map_cons, List.map_nil, List.setIfInBounds_toArray, List.set_cons_succ, List.set_cons_zero, Nat.reduceAdd, x0e, x1e, x2e, x3e, x4e, x5e, x8e]
                  clear x0e x1e x2e x3e x4e x5e x8e hI hall
                  generalize x 7 = xA, x 6 = xC
                  have HNw := Lib.hid (show Rc3 rb ga wo w1 vS (R ++ [((y1, y2), y3)]) from by rw [hwS]; exact HST.out.app hownS hkptS)
                  have HBN := Lib.hid (show Below rb w w1 from by rw [hwS]; exact (HBW.out.trans (hkptS.bel.mono (by have := HRG.out; omega))).setCell (p := ⟨ga, 0, none⟩) (show rb ≤ ga by have := HRG.out; omega) _)
                  clear hwS hownS hkptS
                  go_wp2_with fail
                  go_roundg (n - (k + 1))
                  case measure => omega
                  case rel => exact ⟨k + 1, _, by omega, rfl, by go_num, by rw [HL2.out]; exact HNw.out, HB4, HBN.out⟩
        · have z1 : ¬ (k : Int) < (n : Int) := by omega
          have hkk : L.take k = L := List.take_of_length_le (by have := HN2.out; omega)
          have HE := Lib.hid (show P = some (col3L L) from by
            rw [HPS.out]
            have := HK.out
            rw [hkk] at this
            rw [if_pos this])
          rw [hkk] at hst
          obtain ⟨Ax, cx, rfl⟩ := hst.own.form
          have qr := hst.res
          have q1 := hst.acc
          have y0 := q1.cell 0
          have y1 := q1.cell 1
          have f0 := qr.frozen 0
          have f1 := qr.frozen 1
          have x0 := qr.cell 0
          have x1 := qr.cell 1
          have HRS := Lib.hid ((qr.set 0 (.slice Ax (col3L L).length cx)).set 1 (.bool false))
          have HPV := Lib.hid (show R13 wr (.agg #[.slice Ax (col3L L).length cx, .bool false]) (some (col3L L)) from ⟨Ax, cx, rfl, hst.own.sl⟩)
          have HPB := Lib.hid ((HPV.out).box qr (.slice Ax (col3L L).length cx) (.bool false))
          have HBE := Lib.hid ((hbw.setCell (p := ⟨rb, 0, none⟩) (Nat.le_refl _) (.slice Ax (col3L L).length cx)).setCell (p := ⟨rb, 1, none⟩) (Nat.le_refl _) (.bool false))
          have HLX := Lib.hid (show (col3L L).length ≤ N from by have := col3L_len L; have := HLS.out; have := HN2.out; omega)
          clear hst qr q1 hbw
          go_wp2_with fail
          refine bodyPost_ret (v := .agg #[.slice Ax (col3L L).length cx, .bool false]) (results_c Tryz.results57 _ _ rb 49 _ _ rfl HRS.out Tryz.underlying49 rfl info_rp13) rfl ?_
          refine ⟨_, rfl, P, ?_, HGP.out, ?_, ?_⟩
          · rw [HE.out]; exact HPB.out
          · rw [HE.out]; exact HLX.out
          · rw [← HRB.out]; exact HBE.out
end Go.Proofs.YtbfggncmjdhapaaGreatDoor
