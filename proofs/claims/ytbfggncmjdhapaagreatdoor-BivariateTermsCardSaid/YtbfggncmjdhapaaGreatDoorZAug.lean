/- Sums of coefficients: plain. -/
/- laurent.moved (exponents that stay in order), Shift. -/
/- laurent.Term within the limits; terms of package fox in memory; parts of lists of terms (plain). -/
/- fox.sum: the closure part. -/
/- word.Valid. -/
/- fox.Augment, laurent.Of, word.Exponents. -/
import Derived.Test.YtbfggncmjdhapaaGreatDoorZFod
import Derived.Test.YtbfggncmjdhapaaGreatDoorZPad
import Derived.Test.YtbfggncmjdhapaaGreatDoorZPhs
import Derived.Test.YtbfggncmjdhapaaGreatDoorZPsh
import Derived.Test.YtbfggncmjdhapaaGreatDoorZCoe
namespace Go.Proofs.YtbfggncmjdhapaaGreatDoor
set_option linter.unusedVariables false

def sumC : List (Int × Int) → Int
  | [] => 0
  | t :: l => t.2 + sumC l
def asum : List (Int × Int) → Nat
  | [] => 0
  | t :: l => t.2.natAbs + asum l
/-- the sum of the coefficients below an exponent -/
def psum : List (Int × Int) → Int → Int
  | [], _ => 0
  | t :: l, e => (if t.1 < e then t.2 else 0) + psum l e
theorem psum_succ (l : List (Int × Int)) (e : Int) : psum l (e + 1) = psum l e + cf l e := by
  induction l with
  | nil => rfl
  | cons t l ih =>
    rw [psum, psum, cf_cons, ih]
    by_cases h : t.1 < e
    · rw [if_pos (by omega), if_pos h, if_neg (by omega)]; omega
    · by_cases h2 : t.1 = e
      · rw [if_pos (by omega), if_neg h, if_pos h2]; omega
      · rw [if_neg (by omega), if_neg h, if_neg h2]; omega
theorem psum_bd (l : List (Int × Int)) (e : Int) : -(asum l : Int) ≤ psum l e ∧ psum l e ≤ asum l := by
  induction l with
  | nil => simp [psum, asum]
  | cons t l ih =>
    rw [psum, asum]
    split <;> omega
theorem psum_0 {l : List (Int × Int)} {e : Int} (h : ∀ t ∈ l, e ≤ t.1) : psum l e = 0 := by
  induction l with
  | nil => rfl
  | cons t l ih =>
    rw [psum, if_neg (by have := h t (List.mem_cons_self ..); omega), ih (fun s hs => h s (List.mem_cons_of_mem _ hs))]; rfl
theorem psum_all {l : List (Int × Int)} {e : Int} (h : ∀ t ∈ l, t.1 < e) : psum l e = sumC l := by
  induction l with
  | nil => rfl
  | cons t l ih =>
    rw [psum, sumC, if_pos (h t (List.mem_cons_self ..)), ih (fun s hs => h s (List.mem_cons_of_mem _ hs))]
theorem exists_below (l : List (Int × Int)) : ∃ B : Int, ∀ t ∈ l, B ≤ t.1 ∧ t.1 ≤ -B := by
  induction l with
  | nil => exact ⟨0, fun t h => by cases h⟩
  | cons t l ih =>
    obtain ⟨B, hB⟩ := ih
    refine ⟨min B (-(t.1.natAbs : Int)), fun s hs => ?_⟩
    rcases List.mem_cons.1 hs with rfl | hs
    · omega
    · have := hB s hs; omega
theorem sumC_cf {l m : List (Int × Int)} (h : ∀ e, cf l e = cf m e) : sumC l = sumC m := by
  obtain ⟨B1, h1⟩ := exists_below l
  obtain ⟨B2, h2⟩ := exists_below m
  have key : ∀ n : Nat, psum l (min B1 B2 + n) = psum m (min B1 B2 + n) := by
    intro n
    induction n with
    | zero => rw [psum_0 (fun t ht => by have := h1 t ht; omega), psum_0 (fun t ht => by have := h2 t ht; omega)]
    | succ n ih =>
      have e : min B1 B2 + ((n + 1 : Nat) : Int) = (min B1 B2 + n) + 1 := by omega
      rw [e, psum_succ, psum_succ, ih, h]
  have h3 := key (max (1 - B1 - min B1 B2) (1 - B2 - min B1 B2)).toNat
  rwa [psum_all (fun t ht => by have := h1 t ht; omega), psum_all (fun t ht => by have := h2 t ht; omega)] at h3
theorem sumC_append (l m : List (Int × Int)) : sumC (l ++ m) = sumC l + sumC m := by
  induction l with
  | nil => simp [sumC]
  | cons t l ih => rw [List.cons_append, sumC, sumC, ih]; omega
/-- the exponent of a generator in a word -/
def expo (g : Int) : List Int → Int
  | [] => 0
  | x :: w => (if gnr x = g then (if 0 < x then 1 else -1) else 0) + expo g w
theorem sumC_drv (comp : List Int) (g : Int) (w : List Int) (d : Int) : sumC (drv comp g w d) = expo g w := by
  induction w generalizing d with
  | nil => rfl
  | cons x w ih =>
    rw [drv, sumC_append, ih, expo]
    congr 1
    split
    · show (trm comp d x).2 + 0 = _
      unfold trm
      split <;> rfl
    · rfl
theorem expo_snoc (g : Int) (w : List Int) (x : Int) : expo g (w ++ [x]) = expo g w + (if gnr x = g then (if 0 < x then 1 else -1) else 0) := by
  induction w with
  | nil => simp [expo]
  | cons y w ih => rw [List.cons_append, expo, expo, ih]; omega
theorem expo_bd (g : Int) (w : List Int) : -(w.length : Int) ≤ expo g w ∧ expo g w ≤ w.length := by
  induction w with
  | nil => simp [expo]
  | cons x w ih =>
    rw [expo, List.length_cons]
    split
    · split <;> omega
    · omega
theorem asum_le {l : List (Int × Int)} {N : Nat} (h : ∀ t ∈ l, t.2.natAbs ≤ N) : asum l ≤ N * l.length := by
  induction l with
  | nil => simp [asum]
  | cons t l ih =>
    rw [asum, List.length_cons, Nat.mul_add]
    have h1 := h t (List.mem_cons_self ..)
    have h2 := ih (fun s hs => h s (List.mem_cons_of_mem _ hs))
    omega
/-- the terms of consecutive coefficients -/
def ofL : Int → List Int → List (Int × Int)
  | _, [] => []
  | low, c :: cs => (if c = 0 then [] else [(low, c)]) ++ ofL (low + 1) cs
def ofB : Int → List Int → Bool
  | _, [] => true
  | low, c :: cs => (c == 0 || (decide (-1125899906842624 ≤ c ∧ c ≤ 1125899906842624) && decide (-1048576 ≤ low ∧ low ≤ 1048576))) && ofB (low + 1) cs
def ofP (low : Int) (cs : List Int) : Option (List (Int × Int)) := if ofB low cs = true then some (ofL low cs) else none
theorem ofL_snoc (low : Int) (cs : List Int) (c : Int) : ofL low (cs ++ [c]) = ofL low cs ++ (if c = 0 then [] else [(low + cs.length, c)]) := by
  induction cs generalizing low with
  | nil => simp [ofL]
  | cons d cs ih =>
    rw [List.cons_append, ofL, ofL, ih, List.append_assoc, List.length_cons]
    congr 2
    have : low + 1 + (cs.length : Int) = low + ((cs.length + 1 : Nat) : Int) := by omega
    rw [this]
theorem ofB_snoc (low : Int) (cs : List Int) (c : Int) : ofB low (cs ++ [c]) = (ofB low cs && (c == 0 || (decide (-1125899906842624 ≤ c ∧ c ≤ 1125899906842624) && decide (-1048576 ≤ low + cs.length ∧ low + cs.length ≤ 1048576)))) := by
  induction cs generalizing low with
  | nil => simp [ofB]
  | cons d cs ih =>
    rw [List.cons_append, ofB, ofB, ih, Bool.and_assoc, List.length_cons]
    have : low + 1 + (cs.length : Int) = low + ((cs.length + 1 : Nat) : Int) := by omega
    rw [this]
theorem ofB_take {low : Int} {cs : List Int} {k : Nat} (h : ofB low (cs.take k) = false) : ofB low cs = false := by
  induction cs generalizing low k with
  | nil => simp [ofB] at h
  | cons c cs ih =>
    cases k with
    | zero => simp [ofB] at h
    | succ k =>
      rw [List.take_succ_cons, ofB, Bool.and_eq_false_iff] at h
      rw [ofB, Bool.and_eq_false_iff]
      rcases h with h | h
      · exact .inl h
      · exact .inr (ih h)
theorem ofL_ge (low : Int) (cs : List Int) : ∀ t ∈ ofL low cs, low ≤ t.1 ∧ t.2 ≠ 0 ∧ t.2 ∈ cs := by
  induction cs generalizing low with
  | nil => intro t h; cases h
  | cons c cs ih =>
    intro t h
    rw [ofL] at h
    rcases List.mem_append.1 h with h | h
    · split at h
      · cases h
      · next hc => rw [List.mem_singleton.1 h]; exact ⟨Int.le_refl _, hc, List.mem_cons_self ..⟩
    · have := ih (low + 1) t h
      exact ⟨by omega, this.2.1, List.mem_cons_of_mem _ this.2.2⟩
theorem ofL_can (low : Int) (cs : List Int) : Can (ofL low cs) := by
  refine ⟨?_, fun t ht => (ofL_ge low cs t ht).2.1⟩
  induction cs generalizing low with
  | nil => exact List.Pairwise.nil
  | cons c cs ih =>
    rw [ofL]
    refine List.pairwise_append.2 ⟨?_, ih (low + 1), fun a ha b hb => ?_⟩
    · split
      · exact List.Pairwise.nil
      · exact List.pairwise_singleton _ _
    · split at ha
      · cases ha
      · rw [List.mem_singleton.1 ha]
        have := ofL_ge (low + 1) cs b hb
        show low < b.1
        omega
theorem ofL_lim {low : Int} {cs : List Int} (h : ofB low cs = true) : Lim (ofL low cs) := by
  have key : ∀ t ∈ ofL low cs, (-1125899906842624 ≤ t.2 ∧ t.2 ≤ 1125899906842624) ∧ (-1048576 ≤ t.1 ∧ t.1 ≤ 1048576) := by
    induction cs generalizing low with
    | nil => intro t h; cases h
    | cons c cs ih =>
      intro t ht
      rw [ofB, Bool.and_eq_true] at h
      rw [ofL] at ht
      rcases List.mem_append.1 ht with ht | ht
      · split at ht
        · cases ht
        · next hc =>
          rw [List.mem_singleton.1 ht]
          have h1 := h.1
          simp only [Bool.or_eq_true, beq_iff_eq, Bool.and_eq_true, decide_eq_true_eq] at h1
          rcases h1 with h1 | h1
          · exact absurd h1 hc
          · exact h1
      · exact ih h.2 t ht
  exact ⟨fun t ht => (key t ht).1, fun t ht => (key t ht).2⟩
theorem ofL_sum (low : Int) (cs : List Int) : sumC (ofL low cs) = cs.foldl (· + ·) 0 := by
  have key : ∀ (cs : List Int) (low a : Int), a + sumC (ofL low cs) = cs.foldl (· + ·) a := by
    intro cs
    induction cs with
    | nil => intro low a; simp [ofL, sumC]
    | cons c cs ih =>
      intro low a
      rw [ofL, sumC_append, List.foldl_cons, ← ih (low + 1) (a + c)]
      split
      · next h => rw [h]; simp [sumC]
      · simp [sumC]; omega
  have := key cs low 0
  rwa [Int.zero_add] at this
theorem ofL_len (low : Int) (cs : List Int) : (ofL low cs).length ≤ cs.length := by
  induction cs generalizing low with
  | nil => simp [ofL]
  | cons c cs ih =>
    rw [ofL, List.length_append, List.length_cons]
    have := ih (low + 1)
    split <;> simp <;> omega
end Go.Proofs.YtbfggncmjdhapaaGreatDoor

namespace Go.Proofs.YtbfggncmjdhapaaGreatDoor
open Go.RowKit
set_option linter.unusedVariables false

def mvT (tq : Int → Int) (t : Int × Int) : Int × Int := (tq t.1, t.2)
def movP (tq : Int → Int) : Pol → Pol
  | none => none
  | some l => if l.all (fun t => wiB (tq t.1) 1048576) = true then some (l.map (mvT tq)) else none
theorem wiB_iff {v l : Int} : wiB v l = true ↔ -l ≤ v ∧ v ≤ l := by unfold wiB; simp
/-- the function that moves, with what it has captured -/
structure CloM (fw : FuncId) (cv : Value) (tq : Int → Int) (w : World) : Prop where
  eg : ∀ args W, (callFunc fw args).run Tryz.prog W = .ok (.enter fw args) W
  ca : ∀ (e : Int) W, Below w.heap.size w W → -1048576 ≤ e → e ≤ 1048576 → Calls Tryz.prog fw #[.int .i64 e, cv] W fun en w' => en = .returned (.int .i64 (tq e)) ∧ W = w'
  mono : ∀ a b : Int, a < b → tq a < tq b
  bd : ∀ e : Int, -1048576 ≤ e → e ≤ 1048576 → -4503599627370496 ≤ tq e ∧ tq e ≤ 4503599627370496
/-- the state of moved's loop -/
structure MSt (w : World) (rb : Nat) (s : Value) (R : List (Int × Int)) (W : World) : Prop where
  own : OwnT (w.heap.size + 2) W s R
  rr : Arr W rb 38 [.bool false, s]
  res : Arr W (w.heap.size + 1) 38 [.bool false, .slice none 0 0]
  bel : Below w.heap.size w W
  hrb : w.heap.size + 2 ≤ rb
section
variable {w W W' : World} {rb : Nat} {s : Value} {R : List (Int × Int)}
theorem MSt.alloc (h : MSt w rb s R W) (o : Obj) : MSt w rb s R (W.alloc o) :=
  ⟨h.own.below ((Below.refl _ _).alloc (Nat.le_refl _) _), h.rr.alloc _, h.res.alloc _, h.bel.alloc h.bel.size _, h.hrb⟩
theorem MSt.app (h : MSt w rb s R W) {s' : Value} {m : Int × Int} (ho : OwnT (w.heap.size + 2) W' s' (R ++ [m])) (hg : Gr (w.heap.size + 2) W W' s.ownBlock) : Arr W' rb 38 [.bool false, s] ∧ MSt w rb s' (R ++ [m]) (W'.setCell ⟨rb, 1, none⟩ s') := by
  have a1 := h.own.apart h.rr (by decide)
  have a2 := h.own.apart h.res (by decide)
  have q1 : Arr W' rb 38 [.bool false, s] := (hg.keep rb h.rr.lt a1).trans h.rr
  have q2 : Arr W' (w.heap.size + 1) 38 [.bool false, .slice none 0 0] := (hg.keep _ h.res.lt a2).trans h.res
  have hrb := h.hrb
  exact ⟨q1, ho.far (p := ⟨rb, 1, none⟩) (ho.apart q1 (by decide)) _, q1.set 1 _, q2.far (p := ⟨rb, 1, none⟩) (show w.heap.size + 1 ≠ rb by omega) _, (h.bel.trans (hg.below.mono (by omega))).setCell (p := ⟨rb, 1, none⟩) (show w.heap.size ≤ rb by omega) _, hrb⟩
end
theorem map_take_succ {tq : Int → Int} {l : List (Int × Int)} {k : Nat} (h : k < l.length) : (l.take (k + 1)).map (mvT tq) = (l.take k).map (mvT tq) ++ [mvT tq l[k]] := by rw [take_snoc' h, List.map_append]; rfl
theorem OwnT.made {w : World} {base n : Nat} {cs : Array Value} (hb : base ≤ w.heap.size) (hn : n ≤ 10000000) (hc : cs.size = n * 2) : OwnT base (w.alloc (.cells cs 76)) (.slice (some ⟨w.heap.size, 0, none⟩) 0 n) [] :=
  ⟨rfl, .inr ⟨w.heap.size, n, cs, rfl, hb, heap_alloc_new w _, Nat.zero_le _, by unfold maxLen; omega, by omega, by simp⟩⟩
end Go.Proofs.YtbfggncmjdhapaaGreatDoor

namespace Go.Proofs.YtbfggncmjdhapaaGreatDoor
open Go.RowKit
set_option linter.unusedVariables false

set_option maxHeartbeats 1000000 in
theorem Term_any (co ex : Int) (w : World) (h0 : co ≠ 0) (h1 : -1125899906842624 ≤ co) (h2 : co ≤ 1125899906842624) (h3 : -1048576 ≤ ex) (h4 : ex ≤ 1048576) :
    Calls Tryz.prog 18 #[.int .i64 co, .int .i64 ex] w fun e w' => ∃ v, e = .returned v ∧ PolyV w' v (some [(ex, co)]) ∧ Below w.heap.size w w' := by
  have z1 : (co == 0) = false := by simp [h0]
  have W1 := Lib.hid (fun W => show Calls Tryz.prog 38 #[.int .i64 co, .int .i64 1125899906842624] W fun e w' => e = .returned (.bool true) ∧ W = w' from by
    have h := within_any co 1125899906842624 W (by omega) (by omega)
    rwa [show wiB co 1125899906842624 = true from decide_eq_true ⟨h1, h2⟩] at h)
  have W2 := Lib.hid (fun W => show Calls Tryz.prog 38 #[.int .i64 ex, .int .i64 1048576] W fun e w' => e = .returned (.bool true) ∧ W = w' from by
    have h := within_any ex 1048576 W (by omega) (by omega)
    rwa [show wiB ex 1048576 = true from decide_eq_true ⟨h3, h4⟩] at h)
  have hW : ∀ W, W = w.alloc (.cells #[.bool false, .slice none 0 0] 38) → Arr W w.heap.size 38 [.bool false, .slice none 0 0] ∧ Below w.heap.size w W ∧ W.heap.size = w.heap.size + 1 := by
    intro W hW
    subst hW
    exact ⟨Arr.new _ _ [_, _], (Below.refl _ _).alloc (Nat.le_refl _) _, by simp⟩
  go_enter Tryz.func18, Tryz.ntmps18
  go_upto_region 1 with fail
  generalize (w.alloc (.cells #[.bool false, .slice none 0 0] 38)) = w3 at hW ⊢
  obtain ⟨qr, hb3, hs3⟩ := hW w3 rfl
  clear hW
  have hset := (qr.set 0 (.bool false)).set 1 (.slice (some ⟨w.heap.size + 1, 0, none⟩) 1 1)
  have hres := Lib.hid (hset.alloc (.cells #[.int .i64 ex, .int .i64 co] 76))
  have HT := Lib.hid (show Tms (((w3.setCell ⟨w.heap.size, 0, none⟩ (.bool false)).setCell ⟨w.heap.size, 1, none⟩ (.slice (some ⟨w.heap.size + 1, 0, none⟩) 1 1)).alloc (.cells #[.int .i64 ex, .int .i64 co] 76)) (.slice (some ⟨w.heap.size + 1, 0, none⟩) 1 1) [(ex, co)] from ⟨_, _, rfl, fun k hk => by
    have ha := Arr.newAt ((w3.setCell ⟨w.heap.size, 0, none⟩ (.bool false)).setCell ⟨w.heap.size, 1, none⟩ (.slice (some ⟨w.heap.size + 1, 0, none⟩) 1 1)) 76 [.int .i64 ex, .int .i64 co] (w.heap.size + 1) (by simp; omega)
    obtain rfl : k = 0 := by simpa using hk
    exact ⟨w.heap.size + 1, 0, rfl, ha.cell 0, ha.cell 1, _, _, ha⟩⟩)
  have HB := Lib.hid (((hb3.setCell (p := ⟨w.heap.size, 0, none⟩) (Nat.le_refl _) (.bool false)).setCell (p := ⟨w.heap.size, 1, none⟩) (Nat.le_refl _) (.slice (some ⟨w.heap.size + 1, 0, none⟩) 1 1)).alloc (by simp; omega) (.cells #[.int .i64 ex, .int .i64 co] 76))
  clear hset
  have x0 := qr.cell 0
  have x1 := qr.cell 1
  have f0 := qr.frozen 0
  have f1 := qr.frozen 1
  have hlt := qr.lt
  clear h0
  go_wp2_with (first | (go_at_call_of 38 (Value.int IntKind.i64 1125899906842624); refine (W1.out _).mono ?_; rintro e w1 ⟨rfl, rfl⟩) | (go_at_call 38; refine (W2.out _).mono ?_; rintro e w1 ⟨rfl, rfl⟩))
  refine bodyPost_ret (v := .agg #[.bool false, .slice (some ⟨w.heap.size + 1, 0, none⟩) 1 1]) (results_c Tryz.results18 _ _ w.heap.size 38 _ _ rfl hres.out Tryz.underlying38 rfl info_poly) rfl ?_
  exact ⟨_, rfl, ⟨_, _, rfl, HT.out⟩, HB.out⟩
/-- a part of a list -/
def sl (ts : List (Int × Int)) (lo hi : Nat) : List (Int × Int) := (ts.take hi).drop lo
theorem sl_split {ts : List (Int × Int)} {lo mid hi : Nat} (h1 : lo ≤ mid) (h2 : mid ≤ hi) (h3 : hi ≤ ts.length) : sl ts lo hi = sl ts lo mid ++ sl ts mid hi := by
  unfold sl
  have e : ts.take hi = ts.take mid ++ (ts.take hi).drop mid := by
    conv => lhs; rw [← List.take_append_drop mid (ts.take hi)]
    rw [List.take_take, Nat.min_eq_left h2]
  conv => lhs; rw [e]
  rw [List.drop_append_of_le_length (by simp; omega)]
theorem sl_one {ts : List (Int × Int)} {lo : Nat} (h : lo < ts.length) : sl ts lo (lo + 1) = [ts[lo]] := by
  unfold sl
  rw [List.take_add_one, List.getElem?_eq_getElem h, List.drop_append_of_le_length (by simp; omega)]
  simp
theorem sl_nil (ts : List (Int × Int)) (lo : Nat) : sl ts lo lo = [] := by unfold sl; simp
theorem sl_all (ts : List (Int × Int)) : sl ts 0 ts.length = ts := by unfold sl; simp
theorem sl_len {ts : List (Int × Int)} {lo hi : Nat} (h : hi ≤ ts.length) : (sl ts lo hi).length = hi - lo := by unfold sl; simp; omega
theorem sl_mem {ts : List (Int × Int)} {lo hi : Nat} : ∀ t ∈ sl ts lo hi, t ∈ ts := fun t ht => List.mem_of_mem_take (List.mem_of_mem_drop ht)
/-- coefficients 1 and -1 -/
def Unit1 (ts : List (Int × Int)) : Prop := ∀ t ∈ ts, (t.2 = 1 ∨ t.2 = -1) ∧ -1048576 ≤ t.1 ∧ t.1 ≤ 1048576
theorem cf_unit {ts : List (Int × Int)} (h : Unit1 ts) (e : Int) : -(ts.length : Int) ≤ cf ts e ∧ cf ts e ≤ ts.length := by
  induction ts with
  | nil => simp [cf]
  | cons t l ih =>
    have h1 := (h t (List.mem_cons_self ..)).1
    have h2 := ih (fun s hs => h s (List.mem_cons_of_mem _ hs))
    rw [cf_cons, List.length_cons]
    split <;> omega
/-- the terms of package fox: coefficient, exponent -/
def fc (t : Int × Int) : List Value := [.int .i64 t.2, .int .i64 t.1]
def FTm (w : World) (v : Value) (l : List (Int × Int)) : Prop :=
  ∃ A c, v = .slice A l.length c ∧ ∀ k (h : k < l.length), ∃ b o, A = some ⟨b, o, none⟩ ∧ w.cell? ⟨b, o + k * 2, none⟩ = some (.int .i64 l[k].2) ∧ w.cell? ⟨b, o + k * 2 + 1, none⟩ = some (.int .i64 l[k].1)
theorem FTm.below {w w' : World} {v : Value} {l : List (Int × Int)} (h : FTm w v l) (hb : Below w.heap.size w w') : FTm w' v l := by
  obtain ⟨A, c, hv, hx⟩ := h
  refine ⟨A, c, hv, fun k hk => ?_⟩
  obtain ⟨b, o, hA, h1, h2⟩ := hx k hk
  exact ⟨b, o, hA, (hb.cell (block_lt_of_cell h1)).trans h1, (hb.cell (block_lt_of_cell h2)).trans h2⟩
/-- what part returns -/
def PartR (ts : List (Int × Int)) (lo hi : Nat) (w : World) (e : Ending) (w' : World) : Prop := ∃ v r, e = .returned v ∧ PolyV w' v (some r) ∧ Can r ∧ Lim r ∧ (∀ x, cf r x = cf (sl ts lo hi) x) ∧ Below w.heap.size w w'
theorem part_join {ts r1 r2 : List (Int × Int)} {lo mid hi : Nat} {r : Pol} (hu : Unit1 ts) (hl : ts.length ≤ 100000) (h1 : lo ≤ mid) (h2 : mid ≤ hi) (h3 : hi ≤ ts.length) (e1 : ∀ x, cf r1 x = cf (sl ts lo mid) x) (e2 : ∀ x, cf r2 x = cf (sl ts mid hi) x) (h : CombP (fun a b => a + b) (some r1) (some r2) r) : ∃ l, r = some l ∧ Can l ∧ Lim l ∧ ∀ x, cf l x = cf (sl ts lo hi) x := by
  have key : ∀ x, cf r1 x + cf r2 x = cf (sl ts lo hi) x := fun x => by rw [e1, e2, sl_split h1 h2 h3, cf_append]
  rcases h with ⟨l, rfl, hc, hli, hx⟩ | ⟨_, x, hx⟩
  · exact ⟨l, rfl, hc, hli, fun x => by rw [hx]; exact key x⟩
  · exfalso
    apply hx
    have h4 := cf_unit (ts := sl ts lo hi) (fun t ht => hu t (sl_mem t ht)) x
    rw [sl_len h3] at h4
    show _ ≤ cf r1 x + cf r2 x ∧ cf r1 x + cf r2 x ≤ _
    rw [key]; omega
end Go.Proofs.YtbfggncmjdhapaaGreatDoor

namespace Go.Proofs.YtbfggncmjdhapaaGreatDoor
open Go.RowKit
set_option linter.unusedVariables false

theorem FTm.at_ {w : World} {A : Option Addr} {n c k : Nat} {l : List (Int × Int)} (h : FTm w (.slice A n c) l) (hk : k < l.length) :
    ∃ b o, A = some ⟨b, o, none⟩ ∧ n = l.length ∧ w.cell? ⟨b, o + k * 2, none⟩ = some (.int .i64 l[k].2) ∧ w.cell? ⟨b, o + k * 2 + 1, none⟩ = some (.int .i64 l[k].1) := by
  obtain ⟨A', c', hv, hx⟩ := h
  injection hv with e1 e2 e3
  subst e1
  obtain ⟨b, o, hA, h1, h2⟩ := hx k hk
  exact ⟨b, o, hA, e2, h1, h2⟩
end Go.Proofs.YtbfggncmjdhapaaGreatDoor

namespace Go.Proofs.YtbfggncmjdhapaaGreatDoor
open Go.RowKit
set_option linter.unusedVariables false

/-- a letter that is none for the rank -/
def badL (rank x : Int) : Bool := decide (rank < 1) || x == 0 || decide (rank < x) || decide (x < -rank)
def vldW (ws : List Int) (rank : Int) : Bool := !(ws.any (badL rank))
theorem badL_true {rank x : Int} (h : rank < 1 ∨ x = 0 ∨ rank < x ∨ x < -rank) : badL rank x = true := by
  unfold badL
  rcases h with h | h | h | h <;> simp [h]
theorem badL_false {rank x : Int} (h : ¬ (rank < 1 ∨ x = 0 ∨ rank < x ∨ x < -rank)) : badL rank x = false := by
  unfold badL
  have h1 : ¬ rank < 1 := fun e => h (.inl e)
  have h2 : ¬ x = 0 := fun e => h (.inr (.inl e))
  have h3 : ¬ rank < x := fun e => h (.inr (.inr (.inl e)))
  have h4 : ¬ x < -rank := fun e => h (.inr (.inr (.inr e)))
  simp [h1, h2, h3, h4]
theorem vldW_iff {ws : List Int} {rank : Int} : vldW ws rank = true ↔ ∀ x ∈ ws, 1 ≤ rank ∧ x ≠ 0 ∧ x ≤ rank ∧ -rank ≤ x := by
  unfold vldW
  rw [Bool.not_eq_true', List.any_eq_false]
  constructor
  · intro h x hx
    have h1 := h x hx
    have : ¬ (rank < 1 ∨ x = 0 ∨ rank < x ∨ x < -rank) := fun e => h1 (badL_true e)
    omega
  · intro h x hx
    have h1 := h x hx
    rw [badL_false (by omega)]; simp
theorem any_take_bad {ws : List Int} {rank : Int} {k : Nat} (hk : k < ws.length) (h : badL rank ws[k] = true) : vldW ws rank = false := by
  unfold vldW
  rw [Bool.not_eq_false', List.any_eq_true]
  exact ⟨_, List.getElem_mem hk, h⟩
end Go.Proofs.YtbfggncmjdhapaaGreatDoor

namespace Go.Proofs.YtbfggncmjdhapaaGreatDoor
open Go.RowKit
set_option linter.unusedVariables false

theorem lowL_le {l : List (Int × Int)} (h : Srt l) : ∀ t ∈ l, lowL l ≤ t.1 := by
  cases l with
  | nil => intro t h; cases h
  | cons s l =>
    intro t ht
    show s.1 ≤ t.1
    rcases List.mem_cons.1 ht with rfl | ht
    · omega
    · have := (List.pairwise_cons.1 h).1 t ht; omega
theorem highL_ge {l : List (Int × Int)} (h : Srt l) : ∀ t ∈ l, t.1 ≤ highL l := by
  intro t ht
  have h0 : 0 < l.length := List.length_pos_of_mem ht
  rw [highL_0 h0]
  obtain ⟨i, hi, rfl⟩ := List.getElem_of_mem ht
  by_cases e : i = l.length - 1
  · subst e; exact Int.le_refl _
  · have := List.pairwise_iff_getElem.1 h i (l.length - 1) hi (by omega) (by omega); omega
theorem lowhigh {l : List (Int × Int)} (h : Srt l) : lowL l ≤ highL l := by
  cases l with
  | nil => exact Int.le_refl _
  | cons s l => exact highL_ge h s (List.mem_cons_self ..)
theorem lowL_bd {l : List (Int × Int)} (h : Lim l) : -1048576 ≤ lowL l ∧ lowL l ≤ 1048576 := by
  cases l with
  | nil => exact ⟨by decide, by decide⟩
  | cons s l => exact h.ex s (List.mem_cons_self ..)
theorem highL_bd {l : List (Int × Int)} (h : Lim l) : -1048576 ≤ highL l ∧ highL l ≤ 1048576 := by
  rcases Nat.eq_zero_or_pos l.length with h0 | h0
  · rw [List.eq_nil_of_length_eq_zero h0]; exact ⟨by decide, by decide⟩
  · rw [highL_0 h0]; exact h.ex _ (List.getElem_mem _)
end Go.Proofs.YtbfggncmjdhapaaGreatDoor
