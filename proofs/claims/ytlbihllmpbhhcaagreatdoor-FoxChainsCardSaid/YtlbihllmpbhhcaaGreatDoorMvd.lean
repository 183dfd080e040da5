/- laurent.moved (exponents that stay in order), Shift. -/
import Derived.Test.YtlbihllmpbhhcaaGreatDoorPad
namespace Go.Proofs.YtlbihllmpbhhcaaGreatDoor
open Go.RowKit
set_option linter.unusedVariables false

def mvT (tq : Int → Int) (t : Int × Int) : Int × Int := (tq t.1, t.2)
def movP (tq : Int → Int) : Pol → Pol
  | none => none
  | some l => if l.all (fun t => wiB (tq t.1) 1048576) = true then some (l.map (mvT tq)) else none
theorem wiB_iff {v l : Int} : wiB v l = true ↔ -l ≤ v ∧ v ≤ l := by unfold wiB; simp
/-- the function that moves, with what it has captured -/
structure CloM (fw : FuncId) (cv : Value) (tq : Int → Int) (w : World) : Prop where
  eg : ∀ args W, (callFunc fw args).run Tryz.prog W = .ok (.enter fw args) W
  ca : ∀ (e : Int) W, Below w.heap.size w W → -1048576 ≤ e → e ≤ 1048576 → Calls Tryz.prog fw #[.int .i64 e, cv] W fun en w' => en = .returned (.int .i64 (tq e)) ∧ W = w'
  mono : ∀ a b : Int, a < b → tq a < tq b
  bd : ∀ e : Int, -1048576 ≤ e → e ≤ 1048576 → -4503599627370496 ≤ tq e ∧ tq e ≤ 4503599627370496
/-- the state of moved's loop -/
structure MSt (w : World) (rb : Nat) (s : Value) (R : List (Int × Int)) (W : World) : Prop where
  own : OwnT (w.heap.size + 2) W s R
  rr : Arr W rb 28 [.bool false, s]
  res : Arr W (w.heap.size + 1) 28 [.bool false, .slice none 0 0]
  bel : Below w.heap.size w W
  hrb : w.heap.size + 2 ≤ rb
section
variable {w W W' : World} {rb : Nat} {s : Value} {R : List (Int × Int)}
theorem MSt.alloc (h : MSt w rb s R W) (o : Obj) : MSt w rb s R (W.alloc o) :=
  ⟨h.own.below ((Below.refl _ _).alloc (Nat.le_refl _) _), h.rr.alloc _, h.res.alloc _, h.bel.alloc h.bel.size _, h.hrb⟩
theorem MSt.app (h : MSt w rb s R W) {s' : Value} {m : Int × Int} (ho : OwnT (w.heap.size + 2) W' s' (R ++ [m])) (hg : Gr (w.heap.size + 2) W W' s.ownBlock) : Arr W' rb 28 [.bool false, s] ∧ MSt w rb s' (R ++ [m]) (W'.setCell ⟨rb, 1, none⟩ s') := by
  have a1 := h.own.apart h.rr (by decide)
  have a2 := h.own.apart h.res (by decide)
  have q1 : Arr W' rb 28 [.bool false, s] := (hg.keep rb h.rr.lt a1).trans h.rr
  have q2 : Arr W' (w.heap.size + 1) 28 [.bool false, .slice none 0 0] := (hg.keep _ h.res.lt a2).trans h.res
  have hrb := h.hrb
  exact ⟨q1, ho.far (p := ⟨rb, 1, none⟩) (ho.apart q1 (by decide)) _, q1.set 1 _, q2.far (p := ⟨rb, 1, none⟩) (show w.heap.size + 1 ≠ rb by omega) _, (h.bel.trans (hg.below.mono (by omega))).setCell (p := ⟨rb, 1, none⟩) (show w.heap.size ≤ rb by omega) _, hrb⟩
end
theorem map_take_succ {tq : Int → Int} {l : List (Int × Int)} {k : Nat} (h : k < l.length) : (l.take (k + 1)).map (mvT tq) = (l.take k).map (mvT tq) ++ [mvT tq l[k]] := by rw [take_snoc' h, List.map_append]; rfl
theorem OwnT.made {w : World} {base n : Nat} {cs : Array Value} (hb : base ≤ w.heap.size) (hn : n ≤ 10000000) (hc : cs.size = n * 2) : OwnT base (w.alloc (.cells cs 64)) (.slice (some ⟨w.heap.size, 0, none⟩) 0 n) [] :=
  ⟨rfl, .inr ⟨w.heap.size, n, cs, rfl, hb, heap_alloc_new w _, Nat.zero_le _, by unfold maxLen; omega, by omega, by simp⟩⟩
end Go.Proofs.YtlbihllmpbhhcaaGreatDoor
