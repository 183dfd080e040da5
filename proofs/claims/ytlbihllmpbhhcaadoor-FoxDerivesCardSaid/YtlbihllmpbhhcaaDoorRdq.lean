/- The reference's derivative: plain. -/
import Derived.Test.YtlbihllmpbhhcaaDoorRad
import Derived.Test.YtlbihllmpbhhcaaDoorRof
import Derived.Test.YtlbihllmpbhhcaaDoorDgr
import Derived.Test.YtlbihllmpbhhcaaDoorRdp
namespace Go.Proofs.YtlbihllmpbhhcaaDoor
open Go.RowKit
set_option linter.unusedVariables false

theorem insL_last : ∀ {M : List (Int × Int)} {x X : Int}, (∀ t ∈ M, t.1 < x) → insL M x X = M ++ [(x, X)]
  | [], x, X, _ => rfl
  | t :: M, x, X, h => by
    rw [insL, if_pos (h t (List.mem_cons_self ..)), insL_last fun s hs => h s (List.mem_cons_of_mem _ hs)]
    rfl
theorem addL_id : ∀ {l M : List (Int × Int)}, Srt (M ++ l) → addL M l = M ++ l
  | [], M, _ => by simp [addL]
  | t :: l, M, h => by
    show addL (insL M t.1 t.2) l = _
    have h2 : ∀ s ∈ M, s.1 < t.1 := fun s hs => (List.pairwise_append.1 h).2.2 s hs t (List.mem_cons_self ..)
    rw [insL_last h2, addL_id (by rw [List.append_assoc]; exact h), List.append_assoc]
    rfl
theorem add_one (l : List (Int × Int)) (h : Srt l) (d s : Int) : addL (addL [] l) [(d, s)] = insL l d s := by
  rw [addL_id (l := l) (M := []) (by simpa using h)]
  rfl
theorem of_nil (low : Int) : colP (posL low []) = some [] := rfl
theorem of_one {d s : Int} (hd : -1048576 ≤ d ∧ d ≤ 1048576) (hs : s = 1 ∨ s = -1) : colP (posL d [s]) = some [(d, s)] := by
  have e : posL d [s] = [(d, s)] := by simp [posL]
  have h0 : s ≠ 0 := by omega
  rw [e]
  unfold colP
  rw [if_pos (by
    rw [colB, colB, Bool.and_true, Bool.or_eq_true, Bool.and_eq_true, decide_eq_true_eq, decide_eq_true_eq]
    exact .inr ⟨by show -1125899906842624 ≤ s ∧ s ≤ 1125899906842624; omega, hd⟩), colL, colL, if_neg h0]
  rfl
/-- what has been added up after k letters -/
structure Der (comp : List Int) (g : Int) (ws : List Int) (k : Nat) (l : List (Int × Int)) : Prop where
  can : Can l
  co : ∀ t ∈ l, -(k : Int) ≤ t.2 ∧ t.2 ≤ k
  ex : ∀ t ∈ l, -1000000 ≤ t.1 ∧ t.1 ≤ 1000000
  len : l.length ≤ k
  val : ∀ e, cf l e = dF comp g (ws.take k) e
theorem Der.lim {comp ws : List Int} {g : Int} {k : Nat} {l : List (Int × Int)} (h : Der comp g ws k l) (hk : k ≤ 1000) : Lim l :=
  ⟨fun t ht => by have := h.co t ht; omega, fun t ht => by have := h.ex t ht; omega⟩
theorem Der.zero (comp : List Int) (g : Int) (ws : List Int) : Der comp g ws 0 [] :=
  ⟨Can.nil, fun t h => (by cases h), fun t h => (by cases h), Nat.le_refl _, fun e => rfl⟩
theorem Der.add {comp ws : List Int} {g d s : Int} {k : Nat} {l : List (Int × Int)} (h : Der comp g ws k l) (hk : k < 1000) (hd : -1000000 ≤ d ∧ d ≤ 1000000) (hs : s = 1 ∨ s = -1) (hv : ∀ e, dF comp g (ws.take (k + 1)) e = dF comp g (ws.take k) e + if d = e then s else 0) :
    colP (addL (addL [] l) [(d, s)]) = some (colL (insL l d s)) ∧ Der comp g ws (k + 1) (colL (insL l d s)) := by
  have hbd := insL_bd (L := l) (x := d) (X := s) (B := k) (C := 1) (by omega) (by omega) h.co (by omega)
  have hD : Der comp g ws (k + 1) (colL (insL l d s)) := by
    refine ⟨colL_can (insL_srt h.can.srt), fun t ht => ?_, fun t ht => ?_, ?_, fun e => ?_⟩
    · have := hbd t (colL_mem ht).1
      omega
    · rcases insL_mem (colL_mem ht).1 with ⟨s', h1, h2⟩ | h1
      · have := h.ex s' h1; omega
      · omega
    · have h1 := colL_len (insL l d s)
      have h2 := insL_len l d s
      have := h.len
      omega
    · rw [colL_cf, insL_cf, h.val, hv]
  refine ⟨?_, hD⟩
  rw [add_one l h.can.srt]
  unfold colP
  rw [if_pos (colB_iff.2 (hD.lim (by omega)))]
theorem take_app {ws : List Int} {k : Nat} (hk : k < ws.length) : ws.take (k + 1) = ws.take k ++ [ws[k]] := (List.take_append_getElem hk).symm
theorem Der.skip {comp ws : List Int} {g : Int} {k : Nat} {l : List (Int × Int)} (h : Der comp g ws k l) (hk : k < ws.length) (h1 : ws[k] ≠ g + 1) (h2 : ws[k] ≠ -(g + 1)) : Der comp g ws (k + 1) l :=
  ⟨h.can, fun t ht => by have := h.co t ht; omega, h.ex, by have := h.len; omega, fun e => by
    rw [h.val, take_app hk, dF_append, dF_one]
    have : gnr ws[k] ≠ g := by unfold gnr; split <;> omega
    rw [if_neg this]; omega⟩
theorem Der.plus {comp ws : List Int} {g : Int} {k : Nat} {l : List (Int × Int)} (h : Der comp g ws k l) (hk : k < ws.length) (hg : 0 ≤ g) (h1 : ws[k] = g + 1) : ∀ e, dF comp g (ws.take (k + 1)) e = dF comp g (ws.take k) e + if dg comp (ws.take k) = e then 1 else 0 := fun e => by
  rw [take_app hk, dF_append, dF_one]
  have : gnr ws[k] = g := by unfold gnr; split <;> omega
  rw [if_pos this, if_pos (by omega)]
  congr 1
  by_cases q : dg comp (ws.take k) = e
  · rw [if_pos q, if_pos (by omega)]
  · rw [if_neg q, if_neg (by omega)]
theorem Der.minus {comp ws : List Int} {g : Int} {k : Nat} {l : List (Int × Int)} (h : Der comp g ws k l) (hk : k < ws.length) (hg : 0 ≤ g) (h1 : ws[k] = -(g + 1)) : ∀ e, dF comp g (ws.take (k + 1)) e = dF comp g (ws.take k) e + if dg comp (ws.take (k + 1)) = e then -1 else 0 := fun e => by
  rw [take_app hk, dF_append, dF_one, dg_append, dg_one]
  have : gnr ws[k] = g := by unfold gnr; split <;> omega
  have hn : ¬ 0 < ws[k] := by omega
  rw [if_pos this]
  simp only [if_neg hn]
  congr 1
  by_cases q : dg comp (ws.take k) + - cg comp (-ws[k] - 1) = e
  · rw [if_pos q, if_pos (by omega)]
  · rw [if_neg q, if_neg (by omega)]
end Go.Proofs.YtlbihllmpbhhcaaDoor
