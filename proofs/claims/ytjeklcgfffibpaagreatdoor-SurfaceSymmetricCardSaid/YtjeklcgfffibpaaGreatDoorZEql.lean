/- slices.Equal at terms; laurent's Equal. -/
import Derived.Test.YtjeklcgfffibpaaGreatDoorZPad
import Derived.Laws.StructEq
namespace Go.Proofs.YtjeklcgfffibpaaGreatDoor
open Go.RowKit
set_option linter.unusedVariables false

def eqT (s t : Int × Int) : Bool := decide (s = t)
theorem neq_term (a b c d : Int) (w : World) : (binOp .neq 68 (.agg #[.int .i64 a, .int .i64 b]) (.agg #[.int .i64 c, .int .i64 d])).run Tryz.prog w = .ok (.bool (!eqT (a, b) (c, d))) w := by
  have u3 := Tryz.underlying3
  have a3 := Tryz.isAgg3
  have z3 := Tryz.sizeOf3
  have hS : Tryz.prog.underlying 68 = some (.struct (Tryz.prog.fieldsOf 68)) := by kernel_rfl
  have hp : Tryz.prog.stoodInHeld 68 = false := by kernel_rfl
  rw [run_neq_struct, show (10000 : Nat) = 9999 + 1 from rfl, run_equalIn_agg w 9999 68 _ _ hS hp]
  simp only [Program.fieldsOf, Tryz.underlying68]
  go_simp
  unfold eqT
  by_cases h1 : a = c <;> by_cases h2 : b = d <;> simp [h1, h2]
theorem guard_term (op : BinOp) (x y : Operand) (xs ys : Array Value) (w : World) : (eqGuard op 68 x y (.agg xs) (.agg ys)).run Tryz.prog w = .ok () w :=
  run_eqGuard_agg w op _ x y xs ys (by kernel_rfl)
def eqL (l m : List (Int × Int)) : Bool := decide (l = m)
theorem eqL_ne {l m : List (Int × Int)} {k : Nat} (h1 : k < l.length) (h2 : k < m.length) (h : eqT l[k] m[k] = false) : eqL l m = false := by
  unfold eqL
  refine decide_eq_false fun e => ?_
  subst e
  unfold eqT at h
  simp at h
set_option maxHeartbeats 2000000 in
set_option maxRecDepth 100000 in
theorem slEqual_any (A A2 : Option Addr) (n n2 c c2 : Nat) (l m : List (Int × Int)) (w : World) (h : Tms w (.slice A n c) l) (k : Tms w (.slice A2 n2 c2) m) (hn : n = l.length) (hn2 : n2 = m.length) (hl : l.length ≤ 4611686018427387904) (hm : m.length ≤ 4611686018427387904) :
    Calls Tryz.prog 44 #[.slice A n c, .slice A2 n2 c2] w fun e w' => e = .returned (.bool (eqL l m)) ∧ ∃ q, w' = w.drewN q := by
  subst hn hn2
  obtain ⟨V, hV⟩ : ∃ V, V = eqL l m := ⟨_, rfl⟩
  rw [← hV]
  have HV := Lib.hid hV
  clear hV
  have HL := Lib.hid h
  have HM := Lib.hid k
  clear h k
  by_cases hlm : l.length = m.length
  · have HLM := Lib.hid hlm
    have z0 : ((l.length : Int) != (m.length : Int)) = false := by rw [hlm]; simp
    clear hlm
    go_enter Tryz.func44, Tryz.ntmps44
    go_wp2_with fail
    go_loopg [13] l.length (fun gk s13 wr => ∃ k q : Nat, k ≤ l.length ∧ gk = l.length - k ∧ s13 = .int .i64 (k : Int) ∧ wr = w.drewN q ∧ Hid (l.take k = m.take k))
    case atStart => exact ⟨0, 0, Nat.zero_le _, rfl, rfl, rfl, Lib.hid rfl⟩
    case round =>
      obtain ⟨k, q, hk, rfl, rfl, rfl, HK⟩ := hrel
      by_cases hlt : k < l.length
      · have hlt2 : k < m.length := by have := HLM.out; omega
        have z1 : (k : Int) < (l.length : Int) := by omega
        have z2 : (k : Int) < (m.length : Int) := by omega
        obtain ⟨b, o, rfl, _, y0, y1⟩ := HL.out.at_ hlt
        obtain ⟨b2, o2, rfl, _, x0, x1⟩ := HM.out.at_ hlt2
        have HN := Lib.hid (fun h => eqL_ne hlt hlt2 h)
        have HY := Lib.hid (fun (h : eqT l[k] m[k] = true) => (show l.take (k + 1) = m.take (k + 1) from by
          rw [take_snoc' hlt, take_snoc' hlt2, HK.out, of_decide_eq_true h]))
        clear HK
        generalize l[k] = s at *
        generalize m[k] = t at *
        obtain ⟨s1, s2⟩ := s
        obtain ⟨t1, t2⟩ := t
        have hne := fun (W : World) => neq_term s1 s2 t1 t2 W
        have hgd := fun (op : BinOp) (x y : Operand) (W : World) => guard_term op x y #[.int .i64 s1, .int .i64 s2] #[.int .i64 t1, .int .i64 t2] W
        cases hE : eqT (s1, s2) (t1, t2) with
        | true =>
          rw [hE] at hne
          have HK2 := Lib.hid (HY.out hE)
          clear HY HN hE
          go_wp2_with fail
          go_quiet (fail)
          go_wp2_with fail
          go_roundg (l.length - (k + 1))
          case measure => omega
          case rel => exact ⟨k + 1, q + nq, by omega, rfl, by go_num, rfl, HK2⟩
        | false =>
          rw [hE] at hne
          have HF := Lib.hid (HN.out hE)
          clear HY HN hE
          go_wp2_with fail
          go_quiet (fail)
          go_wp2_with fail
          go_ret
          exact ⟨by rw [HV.out, HF.out]; rfl, q + nq, World.drewN_drewN _ _ _⟩
      · have z1 : ¬ (k : Int) < (l.length : Int) := by omega
        have HT := Lib.hid (show V = true from by
          rw [HV.out]
          refine decide_eq_true ?_
          have h1 := HK.out
          obtain rfl : k = l.length := by omega
          rw [List.take_length, HLM.out, List.take_length] at h1
          exact h1)
        clear HK
        go_wp2_with fail
        go_ret
        exact ⟨by rw [HT.out]; rfl, q, rfl⟩
  · have z0 : ((l.length : Int) != (m.length : Int)) = true := by simp; omega
    have HF := Lib.hid (show V = false from by rw [HV.out]; exact decide_eq_false fun e => hlm (by rw [e]))
    clear hlm
    go_enter Tryz.func44, Tryz.ntmps44
    go_wp2_with fail
    go_ret
    exact ⟨by rw [HF.out]; rfl, 0, rfl⟩
def eqP (p q : Pol) : Bool := decide (p = q)
set_option maxHeartbeats 2000000 in
set_option maxRecDepth 100000 in
theorem Equal_any (vp vq : Value) (p q : Pol) (w : World) (hp : PolyV w vp p) (hq : PolyV w vq q) (okp : okP p) (okq : okP q) :
    Calls Tryz.prog 18 #[vp, vq] w fun e w' => e = .returned (.bool (eqP p q)) ∧ Below w.heap.size w w' := by
  have hlp : (p.getD []).length ≤ 4611686018427387904 := by
    cases p with
    | none => simp
    | some l => have := okp.2.len okp.1; simp only [Option.getD_some]; omega
  have hlq : (q.getD []).length ≤ 4611686018427387904 := by
    cases q with
    | none => simp
    | some l => have := okq.2.len okq.1; simp only [Option.getD_some]; omega
  obtain ⟨A, c, rfl, h1⟩ := hp
  obtain ⟨A2, c2, rfl, h2⟩ := hq
  have HS := Lib.hid (fun (W : World) (hb : Below w.heap.size w W) => slEqual_any A A2 _ _ c c2 _ _ W (h1.below hb) (h2.below hb) rfl rfl hlp hlq)
  have hE : eqP p q = (p.isNone == q.isNone && eqL (p.getD []) (q.getD [])) := by
    unfold eqP eqL
    cases p <;> cases q <;> simp
  rw [hE]
  clear hE okp okq h1 h2 hlp hlq
  generalize p.isNone = b1 at *
  generalize q.isNone = b2 at *
  generalize eqL (p.getD []) (q.getD []) = E at *
  generalize (p.getD []).length = n at *
  generalize (q.getD []).length = n2 at *
  have hW : ∀ W, W = ((w.alloc (.cells #[.bool b1, .slice A n c] 39)).alloc (.cells #[.bool b2, .slice A2 n2 c2] 39)) → Arr W w.heap.size 39 [.bool b1, .slice A n c] ∧ Arr W (w.heap.size + 1) 39 [.bool b2, .slice A2 n2 c2] ∧ Below w.heap.size w W := by
    intro W hW
    subst hW
    exact ⟨(Arr.new _ _ [_, _]).alloc _, Arr.newAt (w.alloc _) _ [_, _] _ (by simp), ((Below.refl _ _).alloc (Nat.le_refl _) _).alloc (by simp) _⟩
  go_enter Tryz.func18, Tryz.ntmps18
  go_upto_region 1 with fail
  generalize ((w.alloc (.cells #[.bool b1, .slice A n c] 39)).alloc (.cells #[.bool b2, .slice A2 n2 c2] 39)) = w3 at hW ⊢
  obtain ⟨qp, qq, hb3⟩ := hW w3 rfl
  clear hW
  have y0 := qp.cell 0
  have y1 := qp.cell 1
  have x0 := qq.cell 0
  have x1 := qq.cell 1
  have HC := Lib.hid (HS.out w3 hb3)
  clear HS qp qq
  by_cases hb : b1 = b2
  · subst hb
    have z : (b1 == b1) = true := by simp
    go_wp2_with fail
    refine HC.out.mono ?_
    rintro e w4 ⟨rfl, q4, rfl⟩
    go_wp2_with fail
    go_ret
    exact ⟨by simp, bdrewN hb3 q4⟩
  · have z : (b1 == b2) = false := by simp [hb]
    go_wp2_with fail
    go_ret
    exact ⟨by rw [z]; rfl, hb3⟩
end Go.Proofs.YtjeklcgfffibpaaGreatDoor
