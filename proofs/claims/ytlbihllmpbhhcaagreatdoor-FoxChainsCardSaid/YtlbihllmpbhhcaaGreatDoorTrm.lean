/- laurent.Term within the limits; terms of package fox in memory; parts of lists of terms (plain). -/
import Derived.Test.YtlbihllmpbhhcaaGreatDoorPad
namespace Go.Proofs.YtlbihllmpbhhcaaGreatDoor
open Go.RowKit
set_option linter.unusedVariables false

set_option maxHeartbeats 1000000 in
theorem Term_any (co ex : Int) (w : World) (h0 : co ≠ 0) (h1 : -1125899906842624 ≤ co) (h2 : co ≤ 1125899906842624) (h3 : -1048576 ≤ ex) (h4 : ex ≤ 1048576) :
    Calls Tryz.prog 11 #[.int .i64 co, .int .i64 ex] w fun e w' => ∃ v, e = .returned v ∧ PolyV w' v (some [(ex, co)]) ∧ Below w.heap.size w w' := by
  have z1 : (co == 0) = false := by simp [h0]
  have W1 := Lib.hid (fun W => show Calls Tryz.prog 30 #[.int .i64 co, .int .i64 1125899906842624] W fun e w' => e = .returned (.bool true) ∧ W = w' from by
    have h := within_any co 1125899906842624 W (by omega) (by omega)
    rwa [show wiB co 1125899906842624 = true from decide_eq_true ⟨h1, h2⟩] at h)
  have W2 := Lib.hid (fun W => show Calls Tryz.prog 30 #[.int .i64 ex, .int .i64 1048576] W fun e w' => e = .returned (.bool true) ∧ W = w' from by
    have h := within_any ex 1048576 W (by omega) (by omega)
    rwa [show wiB ex 1048576 = true from decide_eq_true ⟨h3, h4⟩] at h)
  have hW : ∀ W, W = w.alloc (.cells #[.bool false, .slice none 0 0] 28) → Arr W w.heap.size 28 [.bool false, .slice none 0 0] ∧ Below w.heap.size w W ∧ W.heap.size = w.heap.size + 1 := by
    intro W hW
    subst hW
    exact ⟨Arr.new _ _ [_, _], (Below.refl _ _).alloc (Nat.le_refl _) _, by simp⟩
  go_enter Tryz.func11, Tryz.ntmps11
  go_upto_region 1 with fail
  generalize (w.alloc (.cells #[.bool false, .slice none 0 0] 28)) = w3 at hW ⊢
  obtain ⟨qr, hb3, hs3⟩ := hW w3 rfl
  clear hW
  have hset := (qr.set 0 (.bool false)).set 1 (.slice (some ⟨w.heap.size + 1, 0, none⟩) 1 1)
  have hres := Lib.hid (hset.alloc (.cells #[.int .i64 ex, .int .i64 co] 64))
  have HT := Lib.hid (show Tms (((w3.setCell ⟨w.heap.size, 0, none⟩ (.bool false)).setCell ⟨w.heap.size, 1, none⟩ (.slice (some ⟨w.heap.size + 1, 0, none⟩) 1 1)).alloc (.cells #[.int .i64 ex, .int .i64 co] 64)) (.slice (some ⟨w.heap.size + 1, 0, none⟩) 1 1) [(ex, co)] from ⟨_, _, rfl, fun k hk => by
    have ha := Arr.newAt ((w3.setCell ⟨w.heap.size, 0, none⟩ (.bool false)).setCell ⟨w.heap.size, 1, none⟩ (.slice (some ⟨w.heap.size + 1, 0, none⟩) 1 1)) 64 [.int .i64 ex, .int .i64 co] (w.heap.size + 1) (by simp; omega)
    obtain rfl : k = 0 := by simpa using hk
    exact ⟨w.heap.size + 1, 0, rfl, ha.cell 0, ha.cell 1, _, _, ha⟩⟩)
  have HB := Lib.hid (((hb3.setCell (p := ⟨w.heap.size, 0, none⟩) (Nat.le_refl _) (.bool false)).setCell (p := ⟨w.heap.size, 1, none⟩) (Nat.le_refl _) (.slice (some ⟨w.heap.size + 1, 0, none⟩) 1 1)).alloc (by simp; omega) (.cells #[.int .i64 ex, .int .i64 co] 64))
  clear hset
  have x0 := qr.cell 0
  have x1 := qr.cell 1
  have f0 := qr.frozen 0
  have f1 := qr.frozen 1
  have hlt := qr.lt
  clear h0
  go_wp2_with (first | (go_at_call_of 30 (Value.int IntKind.i64 1125899906842624); refine (W1.out _).mono ?_; rintro e w1 ⟨rfl, rfl⟩) | (go_at_call 30; refine (W2.out _).mono ?_; rintro e w1 ⟨rfl, rfl⟩))
  refine bodyPost_ret (v := .agg #[.bool false, .slice (some ⟨w.heap.size + 1, 0, none⟩) 1 1]) (results_c Tryz.results11 _ _ w.heap.size 28 _ _ rfl hres.out Tryz.underlying28 rfl info_poly) rfl ?_
  exact ⟨_, rfl, ⟨_, _, rfl, HT.out⟩, HB.out⟩
/-- a part of a list -/
def sl (ts : List (Int × Int)) (lo hi : Nat) : List (Int × Int) := (ts.take hi).drop lo
theorem sl_split {ts : List (Int × Int)} {lo mid hi : Nat} (h1 : lo ≤ mid) (h2 : mid ≤ hi) (h3 : hi ≤ ts.length) : sl ts lo hi = sl ts lo mid ++ sl ts mid hi := by
  unfold sl
  have e : ts.take hi = ts.take mid ++ (ts.take hi).drop mid := by
    conv => lhs; rw [← List.take_append_drop mid (ts.take hi)]
    rw [List.take_take, Nat.min_eq_left h2]
  conv => lhs; rw [e]
  rw [List.drop_append_of_le_length (by simp; omega)]
theorem sl_one {ts : List (Int × Int)} {lo : Nat} (h : lo < ts.length) : sl ts lo (lo + 1) = [ts[lo]] := by
  unfold sl
  rw [List.take_add_one, List.getElem?_eq_getElem h, List.drop_append_of_le_length (by simp; omega)]
  simp
theorem sl_nil (ts : List (Int × Int)) (lo : Nat) : sl ts lo lo = [] := by unfold sl; simp
theorem sl_all (ts : List (Int × Int)) : sl ts 0 ts.length = ts := by unfold sl; simp
theorem sl_len {ts : List (Int × Int)} {lo hi : Nat} (h : hi ≤ ts.length) : (sl ts lo hi).length = hi - lo := by unfold sl; simp; omega
theorem sl_mem {ts : List (Int × Int)} {lo hi : Nat} : ∀ t ∈ sl ts lo hi, t ∈ ts := fun t ht => List.mem_of_mem_take (List.mem_of_mem_drop ht)
/-- coefficients 1 and -1 -/
def Unit1 (ts : List (Int × Int)) : Prop := ∀ t ∈ ts, (t.2 = 1 ∨ t.2 = -1) ∧ -1048576 ≤ t.1 ∧ t.1 ≤ 1048576
theorem cf_unit {ts : List (Int × Int)} (h : Unit1 ts) (e : Int) : -(ts.length : Int) ≤ cf ts e ∧ cf ts e ≤ ts.length := by
  induction ts with
  | nil => simp [cf]
  | cons t l ih =>
    have h1 := (h t (List.mem_cons_self ..)).1
    have h2 := ih (fun s hs => h s (List.mem_cons_of_mem _ hs))
    rw [cf_cons, List.length_cons]
    split <;> omega
/-- the terms of package fox: coefficient, exponent -/
def fc (t : Int × Int) : List Value := [.int .i64 t.2, .int .i64 t.1]
def FTm (w : World) (v : Value) (l : List (Int × Int)) : Prop :=
  ∃ A c, v = .slice A l.length c ∧ ∀ k (h : k < l.length), ∃ b o, A = some ⟨b, o, none⟩ ∧ w.cell? ⟨b, o + k * 2, none⟩ = some (.int .i64 l[k].2) ∧ w.cell? ⟨b, o + k * 2 + 1, none⟩ = some (.int .i64 l[k].1)
theorem FTm.below {w w' : World} {v : Value} {l : List (Int × Int)} (h : FTm w v l) (hb : Below w.heap.size w w') : FTm w' v l := by
  obtain ⟨A, c, hv, hx⟩ := h
  refine ⟨A, c, hv, fun k hk => ?_⟩
  obtain ⟨b, o, hA, h1, h2⟩ := hx k hk
  exact ⟨b, o, hA, (hb.cell (block_lt_of_cell h1)).trans h1, (hb.cell (block_lt_of_cell h2)).trans h2⟩
/-- what part returns -/
def PartR (ts : List (Int × Int)) (lo hi : Nat) (w : World) (e : Ending) (w' : World) : Prop := ∃ v r, e = .returned v ∧ PolyV w' v (some r) ∧ Can r ∧ Lim r ∧ (∀ x, cf r x = cf (sl ts lo hi) x) ∧ Below w.heap.size w w'
theorem part_join {ts r1 r2 : List (Int × Int)} {lo mid hi : Nat} {r : Pol} (hu : Unit1 ts) (hl : ts.length ≤ 100000) (h1 : lo ≤ mid) (h2 : mid ≤ hi) (h3 : hi ≤ ts.length) (e1 : ∀ x, cf r1 x = cf (sl ts lo mid) x) (e2 : ∀ x, cf r2 x = cf (sl ts mid hi) x) (h : CombP (fun a b => a + b) (some r1) (some r2) r) : ∃ l, r = some l ∧ Can l ∧ Lim l ∧ ∀ x, cf l x = cf (sl ts lo hi) x := by
  have key : ∀ x, cf r1 x + cf r2 x = cf (sl ts lo hi) x := fun x => by rw [e1, e2, sl_split h1 h2 h3, cf_append]
  rcases h with ⟨l, rfl, hc, hli, hx⟩ | ⟨_, x, hx⟩
  · exact ⟨l, rfl, hc, hli, fun x => by rw [hx]; exact key x⟩
  · exfalso
    apply hx
    have h4 := cf_unit (ts := sl ts lo hi) (fun t ht => hu t (sl_mem t ht)) x
    rw [sl_len h3] at h4
    show _ ≤ cf r1 x + cf r2 x ∧ cf r1 x + cf r2 x ≤ _
    rw [key]; omega
end Go.Proofs.YtlbihllmpbhhcaaGreatDoor
