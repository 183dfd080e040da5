/- Decimal texts tell their numbers; the text of a grid tells the grid (plain). -/
/- strings.Builder: copyCheck, WriteByte, WriteString (the shelf's do not lie over this dump). -/
import Derived.Test.YteliflcbegcdlaaGreatDoorWwUnp
import Derived.Lib.ItoaLen
import Derived.Lib.AppendIntMem
import Derived.Test.YteliflcbegcdlaaGreatDoorWwShelf
import Derived.Test.YteliflcbegcdlaaGreatDoorChecked
import Derived.Maps.AppendAt
import Derived.Deep.AppendLies
import Derived.OwnWalk
import Derived.Shelf.Strings.Builder1
namespace Go.Proofs.YteliflcbegcdlaaGreatDoor
set_option linter.unusedVariables false
/-- the first byte, if there is one, is not in P -/
def nsP (P : UInt8 → Bool) : List UInt8 → Bool
  | [] => true
  | c :: _ => !P c
def isD (c : UInt8) : Bool := decide (48 ≤ c) && decide (c ≤ 57)
theorem isD_digit {i : Nat} (h : i < 10) : isD (UInt8.ofNat (48 + i)) = true := by
  rcases (by omega : i = 0 ∨ i = 1 ∨ i = 2 ∨ i = 3 ∨ i = 4 ∨ i = 5 ∨ i = 6 ∨ i = 7 ∨ i = 8 ∨ i = 9) with rfl | rfl | rfl | rfl | rfl | rfl | rfl | rfl | rfl | rfl <;> rfl
theorem digit_inj {i j : Nat} (h : i < 10) (k : j < 10) (e : UInt8.ofNat (48 + i) = UInt8.ofNat (48 + j)) : i = j := by
  have h1 := congrArg UInt8.toNat e
  simp only [UInt8.toNat_ofNat'] at h1
  omega
theorem dd_all (u : Nat) : ∀ c ∈ Lib.decDigits u, isD c = true := by
  induction u using Nat.strongRecOn with
  | _ u ih =>
    intro c hc
    rw [Lib.decDigits] at hc
    split at hc
    · next h => rw [List.mem_singleton.1 hc]; exact isD_digit h
    · next h =>
      rcases List.mem_append.1 hc with hc | hc
      · exact ih _ (by omega) c hc
      · rw [List.mem_singleton.1 hc]; exact isD_digit (by omega)
theorem dd_ne (u : Nat) : Lib.decDigits u ≠ [] := by
  rw [Lib.decDigits]
  split
  · simp
  · simp
theorem dd_inj : ∀ (u v : Nat), Lib.decDigits u = Lib.decDigits v → u = v := by
  intro u
  induction u using Nat.strongRecOn with
  | _ u ih =>
    intro v h
    have e1 := Lib.decDigits.eq_def u
    have e2 := Lib.decDigits.eq_def v
    by_cases h1 : u < 10
    · rw [dif_pos h1] at e1
      by_cases h2 : v < 10
      · rw [dif_pos h2] at e2
        rw [e1, e2] at h
        exact digit_inj h1 h2 (List.singleton_inj.1 h)
      · rw [dif_neg h2] at e2
        rw [e1, e2] at h
        have := congrArg List.length h
        have h3 := dd_ne (v / 10)
        cases hd : Lib.decDigits (v / 10) with
        | nil => exact absurd hd h3
        | cons a b => rw [hd] at this; simp at this
    · rw [dif_neg h1] at e1
      by_cases h2 : v < 10
      · rw [dif_pos h2] at e2
        rw [e1, e2] at h
        have := congrArg List.length h
        have h3 := dd_ne (u / 10)
        cases hd : Lib.decDigits (u / 10) with
        | nil => exact absurd hd h3
        | cons a b => rw [hd] at this; simp at this
      · rw [dif_neg h2] at e2
        rw [e1, e2] at h
        obtain ⟨h3, h4⟩ := List.append_inj' h rfl
        have h5 := ih _ (by omega) _ h3
        have h6 := digit_inj (by omega) (by omega) (List.singleton_inj.1 h4)
        omega
theorem run_split {P : UInt8 → Bool} : ∀ {x y r s : List UInt8}, (∀ c ∈ x, P c = true) → (∀ c ∈ y, P c = true) → nsP P r = true → nsP P s = true → x ++ r = y ++ s → x = y ∧ r = s
  | [], [], r, s, _, _, _, _, h => ⟨rfl, h⟩
  | [], b :: y, r, s, _, hy, hr, _, h => by
    rw [List.nil_append] at h
    rw [h] at hr
    have : P b = true := hy b (List.mem_cons_self ..)
    simp [nsP, this] at hr
  | a :: x, [], r, s, hx, _, _, hs, h => by
    rw [List.nil_append] at h
    rw [← h] at hs
    have : P a = true := hx a (List.mem_cons_self ..)
    simp [nsP, this] at hs
  | a :: x, b :: y, r, s, hx, hy, hr, hs, h => by
    rw [List.cons_append, List.cons_append] at h
    injection h with h1 h2
    obtain ⟨h3, h4⟩ := run_split (fun c hc => hx c (List.mem_cons_of_mem _ hc)) (fun c hc => hy c (List.mem_cons_of_mem _ hc)) hr hs h2
    exact ⟨by rw [h1, h3], h4⟩
theorem dd_split {u v : Nat} {r s : List UInt8} (hr : nsP isD r = true) (hs : nsP isD s = true) (h : Lib.decDigits u ++ r = Lib.decDigits v ++ s) : u = v ∧ r = s := by
  obtain ⟨h1, h2⟩ := run_split (dd_all u) (dd_all v) hr hs h
  exact ⟨dd_inj u v h1, h2⟩
theorem dd_head (u : Nat) : ∃ c t, Lib.decDigits u = c :: t ∧ isD c = true := by
  cases hd : Lib.decDigits u with
  | nil => exact absurd hd (dd_ne u)
  | cons a b => exact ⟨a, b, rfl, dd_all u a (by rw [hd]; exact List.mem_cons_self ..)⟩
theorem d45 : isD 45 = false := rfl
theorem itoa_split {m n : Int} {r s : List UInt8} (hr : nsP isD r = true) (hs : nsP isD s = true) (h : Lib.itoa m ++ r = Lib.itoa n ++ s) : m = n ∧ r = s := by
  unfold Lib.itoa at h
  by_cases h1 : m < 0 <;> by_cases h2 : n < 0
  · rw [if_pos h1, if_pos h2, List.cons_append, List.cons_append] at h
    injection h with _ h
    obtain ⟨h3, h4⟩ := dd_split hr hs h
    exact ⟨by omega, h4⟩
  · rw [if_pos h1, if_neg h2] at h
    obtain ⟨c, t, hc, hd⟩ := dd_head n.toNat
    rw [hc, List.cons_append, List.cons_append] at h
    injection h with h _
    rw [← h, d45] at hd; cases hd
  · rw [if_neg h1, if_pos h2] at h
    obtain ⟨c, t, hc, hd⟩ := dd_head m.toNat
    rw [hc, List.cons_append, List.cons_append] at h
    injection h with h _
    rw [h, d45] at hd; cases hd
  · rw [if_neg h1, if_neg h2] at h
    obtain ⟨h3, h4⟩ := dd_split hr hs h
    exact ⟨by omega, h4⟩
/-- the numbers of a row, with spaces between -/
def fmR (l : List Int) : Nat → List UInt8
  | 0 => []
  | k + 1 => fmR l k ++ ((if 0 < k then [32] else []) ++ Lib.itoa (l[k]?.getD 0))
def fmS : List Int → List UInt8
  | [] => []
  | x :: t => 32 :: (Lib.itoa x ++ fmS t)
theorem fmS_snoc : ∀ (l : List Int) (x : Int), fmS (l ++ [x]) = fmS l ++ 32 :: Lib.itoa x
  | [], x => by simp [fmS]
  | y :: t, x => by simp [fmS, fmS_snoc t x]
theorem fmR_take (l : List Int) : ∀ k, k + 1 ≤ l.length → fmR l (k + 1) = Lib.itoa (l[0]?.getD 0) ++ fmS ((l.take (k + 1)).drop 1)
  | 0, h => by
    rw [fmR, fmR]
    cases l with
    | nil => simp at h
    | cons a t => simp [fmS]
  | k + 1, h => by
    have ih := fmR_take l k (by omega)
    rw [fmR, ih, if_pos (by omega)]
    have hk : k + 1 < l.length := by omega
    rw [List.take_succ_eq_append_getElem hk, List.drop_append_of_le_length (by simp; omega), fmS_snoc, List.getElem?_eq_getElem hk]
    simp
/-- the text of a grid -/
def fmG (g : Gd) : List UInt8 := fmR g.1 g.1.length ++ ([32, 47, 32] ++ fmR g.2 g.2.length)
theorem fmS_ns (l : List Int) (r : List UInt8) (hr : nsP isD r = true) : nsP isD (fmS l ++ r) = true := by
  cases l with
  | nil => exact hr
  | cons x t => rfl
/-- what may follow a row: nothing, or ' /' -/
def endR (r : List UInt8) : Prop := r = [] ∨ ∃ t, r = 32 :: 47 :: t
theorem endR.ns {r : List UInt8} (h : endR r) : nsP isD r = true := by
  rcases h with rfl | ⟨t, rfl⟩ <;> rfl
theorem itoa_head (x : Int) (h : 0 ≤ x) : ∃ c t, Lib.itoa x = c :: t ∧ isD c = true := by
  unfold Lib.itoa
  rw [if_neg (by omega)]
  exact dd_head _
theorem fmS_split : ∀ (l m : List Int) (r s : List UInt8), (∀ x ∈ l, 0 ≤ x) → (∀ x ∈ m, 0 ≤ x) → endR r → endR s → fmS l ++ r = fmS m ++ s → l = m ∧ r = s
  | [], [], r, s, _, _, _, _, h => ⟨rfl, h⟩
  | [], y :: m, r, s, _, hm, hr, _, h => by
    exfalso
    obtain ⟨c, t, e, hc⟩ := itoa_head y (hm y (by simp))
    simp only [fmS, List.nil_append, List.cons_append, e] at h
    rcases hr with rfl | ⟨u, rfl⟩
    · cases h
    · injection h with _ h
      injection h with h _
      rw [← h] at hc; cases hc
  | x :: l, [], r, s, hl, _, _, hs, h => by
    exfalso
    obtain ⟨c, t, e, hc⟩ := itoa_head x (hl x (by simp))
    simp only [fmS, List.nil_append, List.cons_append, e] at h
    rcases hs with rfl | ⟨u, rfl⟩
    · cases h
    · injection h with _ h
      injection h with h _
      rw [h] at hc; cases hc
  | x :: l, y :: m, r, s, hl, hm, hr, hs, h => by
    simp only [fmS, List.cons_append, List.append_assoc] at h
    injection h with _ h
    obtain ⟨e1, e2⟩ := itoa_split (fmS_ns l r hr.ns) (fmS_ns m s hs.ns) h
    obtain ⟨e3, e4⟩ := fmS_split l m r s (fun z hz => hl z (List.mem_cons_of_mem _ hz)) (fun z hz => hm z (List.mem_cons_of_mem _ hz)) hr hs e2
    exact ⟨by rw [e1, e3], e4⟩
theorem fmR_split {l m : List Int} (h1 : 0 < l.length) (h2 : 0 < m.length) (hl : ∀ x ∈ l, 0 ≤ x) (hm : ∀ x ∈ m, 0 ≤ x) {r s : List UInt8} (hr : endR r) (hs : endR s) (h : fmR l l.length ++ r = fmR m m.length ++ s) : l = m ∧ r = s := by
  cases l with
  | nil => simp at h1
  | cons x l =>
  cases m with
  | nil => simp at h2
  | cons y m =>
  rw [List.length_cons, List.length_cons, fmR_take _ _ (by simp), fmR_take _ _ (by simp), List.append_assoc, List.append_assoc] at h
  have e1 : ∀ (z : Int) (k : List Int), ((z :: k).take (k.length + 1)).drop 1 = k := fun z k => by simp
  rw [e1, e1] at h
  simp only [List.getElem?_cons_zero, Option.getD_some] at h
  obtain ⟨a1, a2⟩ := itoa_split (fmS_ns l r hr.ns) (fmS_ns m s hs.ns) h
  obtain ⟨a3, a4⟩ := fmS_split l m r s (fun z hz => hl z (List.mem_cons_of_mem _ hz)) (fun z hz => hm z (List.mem_cons_of_mem _ hz)) hr hs a2
  exact ⟨by rw [a1, a3], a4⟩
/-- the text tells the grid -/
theorem fmG_inj {g h : Gd} (hg : Vd g.1 g.2) (hh : Vd h.1 h.2) (e : fmG g = fmG h) : g = h := by
  have nn : ∀ {l : List Int}, Pm l → ∀ x ∈ l, 0 ≤ x := fun hp x hx => (hp.1 x hx).1
  unfold fmG at e
  have t1 := hg.two
  have t2 := hh.two
  obtain ⟨e1, e2⟩ := fmR_split (by omega) (by omega) (nn hg.pX) (nn hh.pX) (.inr ⟨_, rfl⟩) (.inr ⟨_, rfl⟩) e
  have e3 : fmR g.2 g.2.length ++ [] = fmR h.2 h.2.length ++ [] := by
    simp only [List.cons_append, List.nil_append, List.cons.injEq, true_and] at e2
    rw [List.append_nil, List.append_nil]; exact (List.cons.inj (show (32 : UInt8) :: fmR g.2 g.2.length = 32 :: fmR h.2 h.2.length from e2)).2
  obtain ⟨e4, _⟩ := fmR_split (by have := hg.len; omega) (by have := hh.len; omega) (nn hg.pO) (nn hh.pO) (.inl rfl) (.inl rfl) e3
  exact Prod.ext e1 e4
theorem fmR_len {l : List Int} (h : ∀ x ∈ l, 0 ≤ x ∧ x ≤ 1000) : ∀ k, k ≤ l.length → (fmR l k).length ≤ 30 * k
  | 0, _ => by simp [fmR]
  | k + 1, hk => by
    have ih := fmR_len h k (by omega)
    have hl := h _ (List.getElem_mem (show k < l.length by omega))
    have := Lib.itoa_length_le l[k] (by omega) (by omega)
    rw [fmR, List.length_append, List.length_append, List.getElem?_eq_getElem (by omega), Option.getD_some]
    split <;> simp <;> omega
end Go.Proofs.YteliflcbegcdlaaGreatDoor

namespace Go.Proofs.YteliflcbegcdlaaGreatDoor
open Go.RowKit
set_option linter.unusedVariables false
abbrev IsB (B b : Nat) (bs : List Value) (w : World) : Prop := Lib.IsBuilder 118 5 B b bs w
set_option maxHeartbeats 1000000 in
set_option maxRecDepth 100000 in
theorem bld_used (b : Nat) (w : World) (h0 : w.cell? ⟨b, 0, none⟩ = some (.pointer (some ⟨b, 0, none⟩))) :
    Calls Tryz.prog 88 #[.pointer (some ⟨b, 0, none⟩)] w fun e w' => e = .returned (.tuple #[]) ∧ w' = w := by
  obtain ⟨j, hj, _⟩ := Option.map_eq_some_iff.1 Tryz.Builder_Extra_169.sizeBuilder
  go_enter Tryz.func88, Tryz.ntmps88
  go_wp2_with fail
  rw [Lib.run_neq_ptr_same w _ Tryz.underlying115 hj]
  go_wp2_with fail
  go_end0
  exact ⟨rfl, rfl⟩
set_option maxHeartbeats 1000000 in
set_option maxRecDepth 100000 in
theorem bld_fresh (b : Nat) (w : World) (h0 : w.cell? ⟨b, 0, none⟩ = some (.pointer none)) (hsh : w.shape? b = some (118, 2)) (hfz : w.frozen? ⟨b, 0, none⟩ = false) :
    Calls Tryz.prog 88 #[.pointer (some ⟨b, 0, none⟩)] w fun e w' => e = .returned (.tuple #[]) ∧ w' = w.setCell ⟨b, 0, none⟩ (.pointer (some ⟨b, 0, none⟩)) := by
  obtain ⟨j, hj, hjs⟩ := Option.map_eq_some_iff.1 Tryz.Builder_Extra_169.sizeBuilder
  go_enter Tryz.func88, Tryz.ntmps88
  go_wp2_with fail
  rw [Lib.run_to_unsafe w ⟨b, 0, none⟩ Tryz.underlying115 Tryz.underlying147 hj (by rw [hjs]; decide) hsh (Nat.zero_lt_succ 1)]
  simp only [Result.andThen]
  rw [Oper.upon_value]
  go_wp2_with fail
  rw [run_callFunc_extern Tryz.func102 (by kernel_rfl) (by kernel_rfl) (by kernel_rfl) (e := Extern.AbiNoEscape.same) (by kernel_rfl)]
  rw [Lib.run_noEscape]
  simp only [Result.andThen]
  rw [Oper.upon_value]
  go_wp2_with fail
  rw [Lib.run_from_unsafe w ⟨b, 0, none⟩ Tryz.underlying147 Tryz.underlying115 hj hsh Tryz.Builder_Extra_169.liesBuilder]
  simp only [Result.andThen]
  rw [Oper.upon_value]
  go_wp2_with fail
  go_end0
  exact ⟨rfl, rfl⟩
/-- blocks of other types than bytes are kept, but for the builder's own -/
def KeepB (b : Nat) (w w' : World) : Prop := ∀ g t cs, Arr w g t cs → t ≠ 5 → g ≠ b → Arr w' g t cs
theorem KeepB.refl (b : Nat) (w : World) : KeepB b w w := fun _ _ _ h _ _ => h
theorem KeepB.set {b : Nat} {w w' : World} (h : KeepB b w w') (i : Nat) (v : Value) : KeepB b w (w'.setCell ⟨b, i, none⟩ v) := fun g t cs ha ht hg => (Below.heap_setCell w' ⟨b, i, none⟩ v g hg).trans (h g t cs ha ht hg)
theorem KeepB.trans {b : Nat} {w1 w2 w3 : World} (h : KeepB b w1 w2) (k : KeepB b w2 w3) : KeepB b w1 w3 := fun g t cs ha ht hg => k g t cs (h g t cs ha ht hg) ht hg
theorem KeepB.below {b : Nat} {w1 w2 w3 : World} (h : KeepB b w1 w2) (k : Below w2.heap.size w2 w3) : KeepB b w1 w3 := fun g t cs ha ht hg => (h g t cs ha ht hg).below k (h g t cs ha ht hg).lt
theorem bld_apart {base n g : Nat} {w : World} {v : Value} {xs cs : List Value} {t : TypeId} (h : w.ownsRow base 5 1 v n xs) (hg : Arr w g t cs) (hne : t ≠ 5) : v.ownBlock ≠ some g := by
  intro hk
  rcases h.2 with ⟨rfl, h0⟩ | ⟨k, cap, cur, rfl, _, hh, r⟩
  · simp [Value.ownBlock] at hk
  · simp [Value.ownBlock] at hk
    subst hk
    unfold Arr at hg
    rw [hg] at hh
    injection hh with hh
    injection hh with _ h2 _
    exact hne h2
theorem KeepB.grown {b base n : Nat} {w w' w'' : World} {v : Value} {xs : List Value} (h : KeepB b w w') (ho : w'.ownsRow base 5 1 v n xs) (hg : w'.grownBy w'' v.ownBlock) : KeepB b w w'' := fun g t cs ha ht hgb =>
  (hg.block g (h g t cs ha ht hgb).lt (fun e => bld_apart ho (h g t cs ha ht hgb) ht e.symm)).trans (h g t cs ha ht hgb)
theorem bld_check (B b : Nat) (bs : List Value) (w : World) (h : IsB B b bs w) :
    Calls Tryz.prog 88 #[.pointer (some ⟨b, 0, none⟩)] w fun e w' => e = .returned (.tuple #[]) ∧ (Lib.BuilderAt 118 5 B b (.pointer (some ⟨b, 0, none⟩)) bs w' ∧ Below B w w' ∧ KeepB b w w') := by
  rcases h with h | h
  · refine (bld_fresh b w h.cell0 h.shape h.frozen0).mono ?_
    rintro e w' ⟨rfl, rfl⟩
    exact ⟨rfl, h.used _, (Below.refl B w).setCell (p := ⟨b, 0, none⟩) h.1 _, (KeepB.refl b w).set 0 _⟩
  · refine (bld_used b w h.cell0).mono ?_
    rintro e w' ⟨rfl, rfl⟩
    exact ⟨rfl, h, Below.refl B _, KeepB.refl b _⟩
theorem bld_slice {base : Nat} {w : World} {v : Value} {n : Nat} {xs : List Value} (h : w.ownsRow base 5 1 v n xs) : ∃ A n' c, v = .slice A n' c := by
  rcases h.2 with ⟨hv, _⟩ | ⟨g, cap, cur, hv, _⟩
  · exact ⟨_, _, _, hv⟩
  · exact ⟨_, _, _, hv⟩
theorem bld_lt {w : World} {b : Nat} {o : Obj} (h : w.heap[b]? = some o) : b < w.heap.size := by
  rcases Nat.lt_or_ge b w.heap.size with q | q
  · exact q
  · rw [Array.getElem?_eq_none q] at h; cases h
theorem bld_c0 {w : World} {b : Nat} {p v : Value} (h : w.heap[b]? = some (.cells #[p, v] 118 (0, 0))) : w.cell? ⟨b, 0, none⟩ = some p ∧ w.cell? ⟨b, 1, none⟩ = some v ∧ w.frozen? ⟨b, 1, none⟩ = false :=
  ⟨by rw [Lib.cell_of_heap h]; rfl, by rw [Lib.cell_of_heap h]; rfl, Lib.frozen_of_heap h 1⟩
set_option maxHeartbeats 2000000 in
set_option maxRecDepth 100000 in
theorem bld_string (B b : Nat) (bs : List Value) (s : ByteArray) (w : World) (h : IsB B b bs w) (hlen : bs.length + s.size ≤ 100000000000) (hBw : B ≤ w.heap.size) :
    Calls Tryz.prog 69 #[.pointer (some ⟨b, 0, none⟩), .string s] w fun e w' => e = .returned (.tuple #[.int .i64 s.size, .nilIface]) ∧ IsB B b (bs ++ Lib.strCells s) w' ∧ Below B w w' ∧ KeepB b w w' := by
  have HC := Lib.hid (bld_check B b bs w h)
  obtain ⟨i0, hi, hz0, hz1, hz2⟩ := info_parts Tryz.Builder_Extra_169.infoByte
  clear h
  go_enter Tryz.func69, Tryz.ntmps69
  go_wp2_with fail
  refine HC.out.mono ?_
  rintro e w1 ⟨rfl, ⟨hB, v, hbk, hown, hne⟩, hb1, hk1⟩
  obtain ⟨c0, c1, _⟩ := bld_c0 hbk
  have hs1 := hb1.size
  go_wp2_with (at_builtin; refine Lib.wpList_append_own_string _ rfl _ _ 116 9 rfl B 5 i0 Tryz.underlying116 Tryz.underlying9 hi hz0 hz1 hz2 _ _ _ rfl hown s rfl (by unfold maxLen; omega) (by omega) (by omega) ?_)
  intro v' w2 hown' hgrow _
  have hb2 : w2.heap[b]? = some (.cells #[.pointer (some ⟨b, 0, none⟩), v] 118 (0, 0)) := (hgrow.block b (bld_lt hbk) (fun e => hne e.symm)).trans hbk
  obtain ⟨d0, d1, f1⟩ := bld_c0 hb2
  have HK := Lib.hid ((hk1.grown hown hgrow).set 1 v')
  have HO := Lib.hid (And.intro hown' (And.intro hb2 ((hb1.grown hgrow (by omega) (fun k hk => (hown.lt k hk).1)).setCell (p := ⟨b, 1, none⟩) hB v')))
  obtain ⟨A', n', c', rfl⟩ := bld_slice hown'
  clear hown hown' hgrow hbk hb2 c0 c1 hb1 hk1
  go_wp2_with fail
  go_ret2
  exact ⟨rfl, .inr (Lib.BuilderAt.put (T := 118) (e := 5) hB HO.out.2.1 (bs' := bs ++ Lib.strCells s) (by simpa [Lib.strCells_length] using HO.out.1) (by decide)), HO.out.2.2, HK.out⟩
set_option maxHeartbeats 2000000 in
set_option maxRecDepth 100000 in
theorem bld_byte (B b : Nat) (bs : List Value) (x : Int) (w : World) (h : IsB B b bs w) (hlen : bs.length ≤ 100000000000) (hBw : B ≤ w.heap.size) :
    Calls Tryz.prog 68 #[.pointer (some ⟨b, 0, none⟩), .int .u8 x] w fun e w' => e = .returned .nilIface ∧ IsB B b (bs ++ [.int .u8 x]) w' ∧ Below B w w' ∧ KeepB b w w' := by
  have HC := Lib.hid (bld_check B b bs w h)
  obtain ⟨i0, hi, hz0, hz1, hz2⟩ := info_parts Tryz.Builder_Extra_169.infoByte
  clear h
  go_enter Tryz.func68, Tryz.ntmps68
  go_wp2_with fail
  refine HC.out.mono ?_
  rintro e w1 ⟨rfl, ⟨hB, v, hbk, hown, hne⟩, hb1, hk1⟩
  obtain ⟨c0, c1, _⟩ := bld_c0 hbk
  have hs1 := hb1.size
  have hlb := bld_lt hbk
  go_wp2_with (at_builtin; refine wpList_append_own _ rfl _ _ 116 rfl B 5 i0 (.int .u8 0) 1 1 Tryz.underlying116 hi hz0 hz1 hz2 rfl (by decide) _ _ _ rfl (hown.alloc _) ⟨w1.heap.size, 0, none⟩ 1 1 [.int .u8 x] rfl rfl ?c1 ?c2 ?c3 ?c4 ?c5 ?_)
  case c1 =>
    intro j u hj
    match j, hj with
    | 0, hj => simp at hj; subst hj; simp [Addr.add]
  case c2 => intro u hu; simp at hu; subst hu; rfl
  case c3 => unfold maxLen; omega
  case c4 => omega
  case c5 => simp; omega
  intro v' w2 hown' hgrow _
  have hb2 : w2.heap[b]? = some (.cells #[.pointer (some ⟨b, 0, none⟩), v] 118 (0, 0)) := ((hgrow.block b (by simp; omega) (fun e => hne e.symm)).trans (Lib.alloc_old w1 _ b hlb)).trans hbk
  obtain ⟨d0, d1, f1⟩ := bld_c0 hb2
  have HK := Lib.hid (((hk1.below ((Below.refl _ _).alloc (Nat.le_refl _) _)).grown (hown.alloc _) hgrow).set 1 v')
  have HO := Lib.hid (And.intro hown' (And.intro hb2 (((hb1.alloc (by omega) _).grown hgrow (by simp; omega) (fun k hk => (hown.lt k hk).1)).setCell (p := ⟨b, 1, none⟩) hB v')))
  obtain ⟨A', n', c', rfl⟩ := bld_slice hown'
  clear hown hown' hgrow hbk hb2 c0 c1 hb1 hk1
  go_wp2_with fail
  go_ret
  exact ⟨rfl, .inr (Lib.BuilderAt.put (T := 118) (e := 5) hB HO.out.2.1 (bs' := bs ++ [.int .u8 x]) (by simpa using HO.out.1) (by decide)), HO.out.2.2, HK.out⟩
/-- the table of the powers of ten is laid -/
def Tb (w : World) : Prop := Lib.TabIs Tryz.prog w "internal/strconv.uint64pow10" .u64 Lib.pow10Tab
theorem Tb.below {w w' : World} (h : Tb w) (hb : Below w.heap.size w w') : Tb w' := by
  unfold Tb Lib.TabIs World.var? at h ⊢
  cases hg : Tryz.prog.globalNamed "internal/strconv.uint64pow10" with
  | none => rw [hg] at h; simp at h
  | some g =>
  rw [hg] at h
  simp only [Option.bind_some] at h ⊢
  have hlt : g < w.heap.size := by
    rcases Nat.lt_or_ge g w.heap.size with q | q
    · exact q
    · rw [Array.getElem?_eq_none q] at h; cases h
  rw [hb.block g hlt]
  exact h
theorem itoa_any (n : Int) (h0 : -9223372036854775808 ≤ n) (h1 : n ≤ 9223372036854775807) (w : World) (ht : Tb w) :
    Calls Tryz.prog 70 #[.int .i64 n] w fun e w' => e = .returned (.string ⟨(Lib.itoa n).toArray⟩) ∧ Below w.heap.size w w' :=
  Calls.mono (Tryz.strconv_Itoa n h0 h1 w ht) (by
    rintro e w' ⟨rfl, k, os, rfl⟩
    exact ⟨rfl, Lib.below_grow _ _ (Nat.le_refl _) _ _⟩)
theorem IsB.below {B b : Nat} {bs : List Value} {w w' : World} (h : IsB B b bs w) (hb : Below w.heap.size w w') : IsB B b bs w' := by
  have key : ∀ p, Lib.BuilderAt 118 5 B b p bs w → Lib.BuilderAt 118 5 B b p bs w' := by
    rintro p ⟨h1, v, h2, h3, h4⟩
    refine ⟨h1, v, (hb.block b (bld_lt h2)).trans h2, ⟨h3.1, ?_⟩, h4⟩
    rcases h3.2 with h0 | ⟨k, cap, cur, rfl, hg, hh, r⟩
    · exact .inl h0
    · exact .inr ⟨k, cap, cur, rfl, hg, (hb.block k (bld_lt hh)).trans hh, r⟩
  rcases h with h | h
  · exact .inl (key _ h)
  · exact .inr (key _ h)
end Go.Proofs.YteliflcbegcdlaaGreatDoor
