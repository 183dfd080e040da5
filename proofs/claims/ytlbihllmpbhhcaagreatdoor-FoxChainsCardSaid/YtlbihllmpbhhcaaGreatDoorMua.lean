/- laurent.Mul at all polynomials. -/
import Derived.Test.YtlbihllmpbhhcaaGreatDoorMul
namespace Go.Proofs.YtlbihllmpbhhcaaGreatDoor
open Go.RowKit
set_option linter.unusedVariables false

def mulSm (b1 b2 : Bool) (n n2 : Nat) : Option Bool := if b1 = true then some true else if b2 = true then some true else if n = 0 then some false else if n2 = 0 then some false else none
set_option maxHeartbeats 2000000 in
set_option maxRecDepth 100000 in
theorem mul_small (b1 b2 R : Bool) (A A2 : Option Addr) (n c n2 c2 : Nat) (w : World) (h : mulSm b1 b2 n n2 = some R) :
    Calls Tryz.prog 10 #[.agg #[.bool b1, .slice A n c], .agg #[.bool b2, .slice A2 n2 c2]] w fun e w' => e = .returned (.agg #[.bool R, .slice none 0 0]) ∧ Below w.heap.size w w' := by
  have hW : ∀ b1 b2 W, W = (((w.alloc (.cells #[.bool b1, .slice A n c] 28)).alloc (.cells #[.bool b2, .slice A2 n2 c2] 28)).alloc (.cells #[.bool false, .slice none 0 0] 28)) → Arr W w.heap.size 28 [.bool b1, .slice A n c] ∧ Arr W (w.heap.size + 1) 28 [.bool b2, .slice A2 n2 c2] ∧ Arr W (w.heap.size + 2) 28 [.bool false, .slice none 0 0] ∧ Below w.heap.size w W ∧ W.heap.size = w.heap.size + 3 := by
    intro b1 b2 W hW
    subst hW
    exact ⟨((Arr.new _ _ [_, _]).alloc _).alloc _, (Arr.newAt (w.alloc _) _ [_, _] _ (by simp)).alloc _, Arr.newAt ((w.alloc _).alloc _) _ [_, _] _ (by simp), (((Below.refl _ _).alloc (Nat.le_refl _) _).alloc (by simp) _).alloc (by simp <;> omega) _, by simp⟩
  replace hW := hW b1 b2
  have HM := Lib.hid h
  clear h
  have key : ∀ (R : Bool) wr, Below w.heap.size w wr → Arr wr (w.heap.size + 2) 28 [.bool false, .slice none 0 0] → Arr ((wr.setCell ⟨w.heap.size + 2, 0, none⟩ (.bool R)).setCell ⟨w.heap.size + 2, 1, none⟩ (.slice none 0 0)) (w.heap.size + 2) 28 [.bool R, .slice none 0 0] ∧ Below w.heap.size w ((wr.setCell ⟨w.heap.size + 2, 0, none⟩ (.bool R)).setCell ⟨w.heap.size + 2, 1, none⟩ (.slice none 0 0)) := fun R wr hb hq => ⟨(hq.set 0 (.bool R)).set 1 (.slice none 0 0), (hb.setCell (p := ⟨w.heap.size + 2, 0, none⟩) (by show w.heap.size ≤ w.heap.size + 2; omega) (.bool R)).setCell (p := ⟨w.heap.size + 2, 1, none⟩) (by show w.heap.size ≤ w.heap.size + 2; omega) (.slice none 0 0)⟩
  have HKEY := Lib.hid key
  clear key
  go_enter Tryz.func10, Tryz.ntmps10
  go_upto_region 1 with fail
  generalize (((w.alloc (.cells #[.bool b1, .slice A n c] 28)).alloc (.cells #[.bool b2, .slice A2 n2 c2] 28)).alloc (.cells #[.bool false, .slice none 0 0] 28)) = w3 at hW ⊢
  obtain ⟨q0, q1, q2, hb3, hs3⟩ := hW w3 rfl
  have HR := Lib.hid (HKEY.out R w3 hb3 q2)
  have y0 := q0.cell 0
  have y1 := q0.cell 1
  have y2 := q1.cell 0
  have y3 := q1.cell 1
  have x0 := q2.cell 0
  have x1 := q2.cell 1
  have f0 := q2.frozen 0
  have f1 := q2.frozen 1
  clear hW HKEY q0 q1 q2 hb3 hs3
  cases b1 with
  | true =>
    obtain rfl : true = R := by have := HM.out; unfold mulSm at this; simpa using this
    clear HM
    go_wp2_with fail
    refine bodyPost_ret (v := .agg #[.bool true, .slice none 0 0]) (results_c Tryz.results10 _ _ (w.heap.size + 2) 28 _ _ rfl HR.out.1 Tryz.underlying28 rfl info_poly) rfl ?_
    exact ⟨rfl, HR.out.2⟩
  | false =>
    cases b2 with
    | true =>
      obtain rfl : true = R := by have := HM.out; unfold mulSm at this; simpa using this
      clear HM
      go_wp2_with fail
      refine bodyPost_ret (v := .agg #[.bool true, .slice none 0 0]) (results_c Tryz.results10 _ _ (w.heap.size + 2) 28 _ _ rfl HR.out.1 Tryz.underlying28 rfl info_poly) rfl ?_
      exact ⟨rfl, HR.out.2⟩
    | false =>
      by_cases h1 : n = 0
      · obtain rfl : false = R := by have := HM.out; unfold mulSm at this; simpa [h1] using this
        have z1 : ((n : Int) == 0) = true := by simp [h1]
        clear HM h1
        go_wp2_with fail
        refine bodyPost_ret (v := .agg #[.bool false, .slice none 0 0]) (results_c Tryz.results10 _ _ (w.heap.size + 2) 28 _ _ rfl HR.out.1 Tryz.underlying28 rfl info_poly) rfl ?_
        exact ⟨rfl, HR.out.2⟩
      · have z1 : ((n : Int) == 0) = false := by simp; omega
        by_cases h2 : n2 = 0
        · obtain rfl : false = R := by have := HM.out; unfold mulSm at this; simpa [h1, h2] using this
          have z2 : ((n2 : Int) == 0) = true := by simp [h2]
          clear HM h1 h2
          go_wp2_with fail
          refine bodyPost_ret (v := .agg #[.bool false, .slice none 0 0]) (results_c Tryz.results10 _ _ (w.heap.size + 2) 28 _ _ rfl HR.out.1 Tryz.underlying28 rfl info_poly) rfl ?_
          exact ⟨rfl, HR.out.2⟩
        · exfalso
          have := HM.out
          unfold mulSm at this
          simp [h1, h2] at this
theorem Mul_any (vp vq : Value) (p q : Pol) (w : World) (hp : PolyV w vp p) (hq : PolyV w vq q) (okp : okP p) (okq : okP q) :
    Calls Tryz.prog 10 #[vp, vq] w (MulR p q w) := by
  have hp0 := hp
  have hq0 := hq
  obtain ⟨A, c, rfl, _⟩ := hp0
  obtain ⟨A2, c2, rfl, _⟩ := hq0
  cases p with
  | none => exact (mul_small true _ true A A2 0 c _ c2 w (by unfold mulSm; rw [if_pos rfl])).mono fun e w' h => ⟨_, none, h.1, PolyV.big _, mulP_none_left q, h.2⟩
  | some p =>
    cases q with
    | none => exact (mul_small false true true A A2 _ c 0 c2 w (by unfold mulSm; rw [if_neg (by simp), if_pos rfl])).mono fun e w' h => ⟨_, none, h.1, PolyV.big _, mulP_none_right _, h.2⟩
    | some q =>
      by_cases h1 : p.length = 0
      · obtain rfl := List.eq_nil_of_length_eq_zero h1
        exact (mul_small false false false A A2 0 c _ c2 w (by unfold mulSm; rw [if_neg (by simp), if_neg (by simp), if_pos rfl])).mono fun e w' h => ⟨_, some [], h.1, PolyV.zero _, mulP_nil_left q, h.2⟩
      · by_cases h2 : q.length = 0
        · obtain rfl := List.eq_nil_of_length_eq_zero h2
          exact (mul_small false false false A A2 p.length c 0 c2 w (by unfold mulSm; rw [if_neg (by simp), if_neg (by simp), if_neg h1, if_pos rfl])).mono fun e w' h => ⟨_, some [], h.1, PolyV.zero _, mulP_nil_right p, h.2⟩
        · exact Mul_some _ _ p q w hp hq okp.2 okp.1 okq.2 okq.1 (by omega) (by omega)
end Go.Proofs.YtlbihllmpbhhcaaGreatDoor
