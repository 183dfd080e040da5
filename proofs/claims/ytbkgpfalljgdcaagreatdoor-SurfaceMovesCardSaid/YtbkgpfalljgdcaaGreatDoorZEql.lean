/- A region that draws its order, reads, calls (one call makes an own slice, the results of the others are known), appends one literal to that slice and stores the result, last. -/
/- slices.Grow of nil, slices.Concat of two. -/
/- slices.Equal at terms; laurent's Equal. -/
import Derived.Test.YtbkgpfalljgdcaaGreatDoorZDia
import Derived.Test.YtbkgpfalljgdcaaGreatDoorZTab
import Derived.Test.YtbkgpfalljgdcaaGreatDoorZApd
import Derived.Test.YtbkgpfalljgdcaaGreatDoorZOwn
import Derived.Lib.AppendZerosOnto
import Derived.Test.YtbkgpfalljgdcaaGreatDoorZPad
import Derived.Laws.StructEq
namespace Go.Proofs.YtbkgpfalljgdcaaGreatDoor
open Go.RowKit
set_option linter.unusedVariables false

section
variable {α : Type}
/-- k: the call that makes the slice; c: the literal; a: the append; f: the store at p -/
structure ApK (e : TypeId) (sz : Nat) (enc : α → List Value) (w0 : World) (ev : Nat → Option Value) (k c a f : Nat) (p : Addr) (L LIT : List α) (D : Nat → Bool) (x : Nat → Value) (w : World) : Prop where
  kn : ∀ i v, ev i = some v → D i = true → x i = v
  bel : D f = false → Below w0.heap.size w0 w
  own : D k = true → D a = false → D f = false → OwnA e sz enc w0.heap.size w (x k) L
  lit : D c = true → D a = false → D f = false → OwnA e sz enc w0.heap.size w (x c) LIT
  mid : D a = true → D f = false → OwnA e sz enc w0.heap.size w (x a) (L ++ LIT)
  fin : D f = true → ∃ W v, w = W.setCell p v ∧ OwnA e sz enc w0.heap.size W v (L ++ LIT) ∧ Below w0.heap.size w0 W
variable {e : TypeId} {sz : Nat} {enc : α → List Value} {w0 w w' : World} {ev : Nat → Option Value} {k c a f : Nat} {p : Addr} {L LIT : List α} {D : Nat → Bool} {x : Nat → Value}
theorem ApK.start : ApK e sz enc w0 ev k c a f p L LIT (fun _ => false) x w0.drew :=
  ⟨fun i v _ h => Bool.noConfusion h, fun _ => (Below.refl _ _).drew, fun h => Bool.noConfusion h, fun h => Bool.noConfusion h, fun h => Bool.noConfusion h, fun h => Bool.noConfusion h⟩
theorem ApK.val (h : ApK e sz enc w0 ev k c a f p L LIT D x w) {i : Nat} {v : Value} (hv : ev i = some v) (h0 : i ≠ k) (h1 : i ≠ c) (h2 : i ≠ a) (h3 : i ≠ f) : ApK e sz enc w0 ev k c a f p L LIT (upd D i true) (upd x i v) w := by
  refine ⟨fun j u hu hd => ?_, fun d1 => ?_, fun d1 d2 d3 => ?_, fun d1 d2 d3 => ?_, fun d1 d2 => ?_, fun d => ?_⟩
  · by_cases e : j = i
    · subst e; rw [upd_same]; rw [hv] at hu; injection hu
    · rw [upd_ne _ _ e] at hd ⊢; exact h.kn j u hu hd
  · rw [upd_ne _ _ (Ne.symm h3)] at d1; exact h.bel d1
  · rw [upd_ne _ _ (Ne.symm h0)] at d1 ⊢; rw [upd_ne _ _ (Ne.symm h2)] at d2; rw [upd_ne _ _ (Ne.symm h3)] at d3; exact h.own d1 d2 d3
  · rw [upd_ne _ _ (Ne.symm h1)] at d1 ⊢; rw [upd_ne _ _ (Ne.symm h2)] at d2; rw [upd_ne _ _ (Ne.symm h3)] at d3; exact h.lit d1 d2 d3
  · rw [upd_ne _ _ (Ne.symm h2)] at d1 ⊢; rw [upd_ne _ _ (Ne.symm h3)] at d2; exact h.mid d1 d2
  · rw [upd_ne _ _ (Ne.symm h3)] at d; exact h.fin d
theorem ApK.make (h : ApK e sz enc w0 ev k c a f p L LIT D x w) {v : Value} (hev : ev c = none) (h0 : c ≠ k) (h1 : c ≠ a) (h2 : c ≠ f) (ha : D a = false) (hf : D f = false) (hb : Below w.heap.size w w') (ho : OwnA e sz enc w.heap.size w' v LIT) : ApK e sz enc w0 ev k c a f p L LIT (upd D c true) (upd x c v) w' := by
  have hp := h.bel hf
  refine ⟨fun j u hu hd => ?_, fun d1 => hp.trans (hb.mono hp.size), fun d1 d2 d3 => ?_, fun d1 d2 d3 => by rw [upd_same]; exact ho.low hp.size, fun d1 d2 => ?_, fun d => ?_⟩
  · have e : j ≠ c := fun e => (by rw [e, hev] at hu; cases hu)
    rw [upd_ne _ _ e] at hd ⊢; exact h.kn j u hu hd
  · rw [upd_ne _ _ (Ne.symm h0)] at d1 ⊢; exact (h.own d1 ha hf).below hb
  · rw [upd_ne _ _ (Ne.symm h1), ha] at d1; cases d1
  · rw [upd_ne _ _ (Ne.symm h2), hf] at d; cases d
theorem ApK.call (h : ApK e sz enc w0 ev k c a f p L LIT D x w) {v : Value} (hev : ev k = none) (h0 : k ≠ c) (h1 : k ≠ a) (h2 : k ≠ f) (ha : D a = false) (hf : D f = false) (hb : Below w.heap.size w w') (ho : OwnA e sz enc w.heap.size w' v L) : ApK e sz enc w0 ev k c a f p L LIT (upd D k true) (upd x k v) w' := by
  have hp := h.bel hf
  refine ⟨fun j u hu hd => ?_, fun d1 => hp.trans (hb.mono hp.size), fun d1 d2 d3 => by rw [upd_same]; exact ho.low hp.size, fun d1 d2 d3 => ?_, fun d1 d2 => ?_, fun d => ?_⟩
  · have e : j ≠ k := fun e => (by rw [e, hev] at hu; cases hu)
    rw [upd_ne _ _ e] at hd ⊢; exact h.kn j u hu hd
  · rw [upd_ne _ _ (Ne.symm h0)] at d1 ⊢; exact (h.lit d1 ha hf).below hb
  · rw [upd_ne _ _ (Ne.symm h1), ha] at d1; cases d1
  · rw [upd_ne _ _ (Ne.symm h2), hf] at d; cases d
theorem ApK.app {P : Program} (E : ElA P e sz enc) (h : ApK e sz enc w0 ev k c a f p L LIT D x w) {o : Oper} {b : Act} (sx ux : Operand) (t t2 : TypeId) (ho : o.op = .call { callee := .builtin .append, args := #[sx, ux], argTypes := #[t, t2] })
    (ht : P.underlying t = some (.slice e)) (ht2 : P.underlying t2 = some (.slice e)) (hev : ev a = none) (hka : k ≠ a) (hca : c ≠ a) (haf : a ≠ f) (hk : D k = true) (hc : D c = true) (ha : D a = false) (hf : D f = false)
    (he1 : b.eval sx = x k) (he2 : b.eval ux = x c) (hlen : L.length + LIT.length ≤ 100000000) : o.wp P b w (StepPost (ApK e sz enc w0 ev k c a f p L LIT) D x a b o.dst) NoQ := by
  have hp := h.bel hf
  have hl := h.lit hc ha hf
  refine wp_appA (P := P) (base := w0.heap.size) E sx ux t t2 ho ht ht2 he1 (h.own hk ha hf) he2 hl.sl (by omega) hp.size ?_
  intro v' w' h1 h2 h3 h4
  refine ⟨v', rfl, fun j u hu hd => ?_, fun d1 => hp.trans h2, fun d1 d2 d3 => ?_, fun d1 d2 d3 => ?_, fun d1 d2 => by rw [upd_same]; exact h1, fun d => ?_⟩
  · have e : j ≠ a := fun e => (by rw [e, hev] at hu; cases hu)
    rw [upd_ne _ _ e] at hd ⊢; exact h.kn j u hu hd
  · rw [upd_same] at d2; cases d2
  · rw [upd_same] at d2; cases d2
  · rw [upd_ne _ _ (Ne.symm haf), hf] at d; cases d
theorem ApK.store (h : ApK e sz enc w0 ev k c a f p L LIT D x w) (hev : ev f = none) (ha : D a = true) (hf : D f = false) (v : Value) : ApK e sz enc w0 ev k c a f p L LIT (upd D f true) (upd x f v) (w.setCell p (x a)) := by
  refine ⟨fun j u hu hd => ?_, fun d1 => ?_, fun d1 d2 d3 => ?_, fun d1 d2 d3 => ?_, fun d1 d2 => ?_, fun d => ⟨w, x a, rfl, h.mid ha hf, h.bel hf⟩⟩
  · have e : j ≠ f := fun e => (by rw [e, hev] at hu; cases hu)
    rw [upd_ne _ _ e] at hd ⊢; exact h.kn j u hu hd
  · rw [upd_same] at d1; cases d1
  · rw [upd_same] at d3; cases d3
  · rw [upd_same] at d3; cases d3
  · rw [upd_same] at d2; cases d2
end
end Go.Proofs.YtbkgpfalljgdcaaGreatDoor

namespace Go.Proofs.YtbkgpfalljgdcaaGreatDoor
open Go.RowKit
set_option linter.unusedVariables false

theorem info_iC2 : (Tryz.prog.info? 3).map (fun i => (i.zero, i.size, i.bytes)) = some (some (.int .i64 0), 1, 8) := by kernel_rfl

set_option maxHeartbeats 1000000 in
theorem grow_nil (n : Nat) (w : World) (hn : n ≤ 10000) :
    Calls Tryz.prog 24 #[.slice none 0 0, .int .i64 (n : Nat)] w fun e w' => ∃ v, e = .returned v ∧ OwnI 3 w.heap.size w' v [] ∧ Below w.heap.size w w' := by
  have h1 : ¬ ((n : Int) < 0) := by omega
  rcases Nat.eq_zero_or_pos n with rfl | h0
  · go_enter Tryz.func24, Tryz.ntmps24
    go_wp2_with fail
    go_ret
    exact ⟨_, rfl, OwnI.nil _ _ _, Below.refl _ _⟩
  · have h2 : (0 : Int) < (n : Int) := by omega
    obtain ⟨i0, hi0, hz0, hz1, hz2⟩ := info_parts info_iC2
    have hGn := grownCap_ge w n 0 3
    have hGm := grownCap_le_maxLen w n 0 3 (by unfold maxLen; omega)
    have hrz := Lib.hid (fun ty => Lib.run_append_grow_zeros w 22 3 ty 3 i0 (.int .i64 0) .i64 .i64 Tryz.underlying22 Tryz.underlying3 hi0 hz0 none 0 0 [] (run_firstCells_none w.drew i0.size 0 0 0) n h0 (by rw [hz1]; decide) (by omega) (by omega) (by rw [hz2]; omega) (growslice_fits (by omega) (by rw [hz2]; omega)))
    rw [Nat.zero_add] at hrz
    have HR := Lib.hid (show OwnI 3 w.heap.size (w.drew.alloc (.cells (([] : List Value).toArray ++ Builtin.zeroCells (Value.int .i64 0).cells n ++ Builtin.zeroCells (Value.int .i64 0).cells (grownCap w n 0 3 - n)) 3)) (.slice (some ⟨w.heap.size, 0, none⟩) 0 (grownCap w n 0 3)) [] from
      ⟨rfl, .inr ⟨w.heap.size, _, _, rfl, Nat.le_refl _, heap_alloc_new w.drew _, Nat.zero_le _, hGm, by
        rw [Array.size_append, Array.size_append, size_zeroCells, size_zeroCells]
        show 0 + n * 1 + (grownCap w n 0 3 - n) * 1 = grownCap w n 0 3 * 1
        omega, rfl⟩⟩)
    have HB := Lib.hid (show Below w.heap.size w (w.drew.alloc (.cells (([] : List Value).toArray ++ Builtin.zeroCells (Value.int .i64 0).cells n ++ Builtin.zeroCells (Value.int .i64 0).cells (grownCap w n 0 3 - n)) 3)) from ((Below.refl _ _).drew).alloc (Nat.le_refl _) _)
    generalize (w.drew.alloc (.cells (([] : List Value).toArray ++ Builtin.zeroCells (Value.int .i64 0).cells n ++ Builtin.zeroCells (Value.int .i64 0).cells (grownCap w n 0 3 - n)) 3)) = w1 at *
    have hG63 : grownCap w n 0 3 ≤ 9223372036854775807 := by unfold maxLen at hGm; omega
    generalize grownCap w n 0 3 = G at *
    go_enter Tryz.func24, Tryz.ntmps24
    go_wp2_with (at_builtin; refine Lib.wpList_append_run _ rfl _ _ _ _ rfl _ _ rfl rfl _ _ (hrz.out _) ?_)
    go_ret
    exact ⟨_, rfl, HR.out, HB.out⟩
/-- the first k of two lists -/
def pre2 (xs ys : List Int) (k : Nat) : List Int := if k = 0 then [] else if k = 1 then xs else xs ++ ys
set_option maxHeartbeats 2000000 in
theorem concat_any (b : Nat) (va vb : Value) (xs ys : List Int) (w : World) (hA : Arr w b 22 [va, vb]) (hx : Ints w va xs) (hy : Ints w vb ys) (lx : xs.length ≤ 1000) (ly : ys.length ≤ 1000) :
    Calls Tryz.prog 13 #[.slice (some ⟨b, 0, none⟩) 2 2] w fun e w' => ∃ v, e = .returned v ∧ OwnI 3 w.heap.size w' v (xs ++ ys) ∧ Below w.heap.size w w' := by
  obtain ⟨i0, hi0, hz0, hz1, hz2⟩ := info_parts info_iC2
  have HX := Lib.hid (fun W (hb : Below w.heap.size w W) => hx.below hb)
  have HY := Lib.hid (fun W (hb : Below w.heap.size w W) => hy.below hb)
  have HAA := Lib.hid (fun W (hb : Below w.heap.size w W) => hA.below hb hA.lt)
  obtain ⟨A, c, rfl, hc, hx'⟩ := hx
  obtain ⟨A2, c2, rfl, hc2, hy'⟩ := hy
  clear hx' hy'
  have y0 := hA.cell 0
  have y1 := hA.cell 1
  go_enter Tryz.func13, Tryz.ntmps13
  go_wp2_with fail
  go_loopg [3, 11] (2 : Nat) (fun gk s3 s11 wr => ∃ k : Nat, k ≤ 2 ∧ gk = 2 - k ∧ s11 = .int .i64 (k : Int) ∧ s3 = .int .i64 ((pre2 xs ys k).length : Int) ∧ w = wr)
  case atStart => exact ⟨0, by omega, rfl, rfl, rfl, rfl⟩
  case round =>
    obtain ⟨k, hk, rfl, rfl, rfl, rfl⟩ := hrel
    rcases (by omega : k = 0 ∨ k = 1 ∨ k = 2) with rfl | rfl | rfl
    · have e0 : ((pre2 xs ys 0).length : Int) = 0 := rfl
      rw [e0]
      clear e0
      have z1 : ¬ ((xs.length : Int) < 0) := by omega
      go_wp2_with fail
      go_roundg (1 : Nat)
      case measure => omega
      case rel => exact ⟨1, by omega, rfl, rfl, by rw [show pre2 xs ys 1 = xs from rfl], rfl⟩
    · have e0 : ((pre2 xs ys 1).length : Int) = (xs.length : Int) := rfl
      rw [e0]
      clear e0
      have z1 : ¬ ((xs.length : Int) + (ys.length : Int) < 0) := by omega
      go_wp2_with fail
      go_roundg (0 : Nat)
      case measure => omega
      case rel => exact ⟨2, by omega, rfl, rfl, by rw [show pre2 xs ys 2 = xs ++ ys from rfl, List.length_append]; go_num, rfl⟩
    · have e0 : ((pre2 xs ys 2).length : Int) = ((xs.length + ys.length : Nat) : Int) := by rw [show pre2 xs ys 2 = xs ++ ys from rfl, List.length_append]
      rw [e0]
      clear e0
      have HGR := Lib.hid (grow_nil (xs.length + ys.length) w (by omega))
      generalize xs.length + ys.length = n2 at HGR ⊢
      go_upto_region 10 with (go_at_call 24; refine HGR.out.mono ?_; rintro e w1 ⟨v, rfl, hown, hb1⟩)
      clear y0 y1
      have HOW := Lib.hid hown
      clear hown
      go_wp2_with fail
      go_loopg [6, 27] (2 : Nat) (fun gk s6 s27 wr => ∃ k : Nat, k ≤ 2 ∧ gk = 2 - k ∧ s27 = .int .i64 (k : Int) ∧ OwnI 3 w.heap.size wr s6 (pre2 xs ys k) ∧ Below w.heap.size w wr)
      case atStart => exact ⟨0, by omega, rfl, rfl, HOW.out, hb1⟩
      case round =>
        clear HOW hb1
        obtain ⟨k, hk, rfl, rfl, hown, hbw⟩ := hrel
        have y0 := (HAA.out wr hbw).cell 0
        have y1 := (HAA.out wr hbw).cell 1
        have HOW := Lib.hid hown
        clear hown
        rcases (by omega : k = 0 ∨ k = 1 ∨ k = 2) with rfl | rfl | rfl
        · go_wp2_with (at_builtin; refine wpList_appI rfl _ _ 22 rfl Tryz.underlying22 hi0 hz0 hz1 hz2 rfl HOW.out rfl (HX.out _ hbw) (by show 0 + xs.length ≤ _; omega) hbw.size ?_; intro v' w2 hown' hb2 hk2)
          go_roundg (1 : Nat)
          case measure => omega
          case rel => exact ⟨1, by omega, rfl, rfl, hown', hbw.trans (hb2.mono (Nat.le_refl _))⟩
        · go_wp2_with (at_builtin; refine wpList_appI rfl _ _ 22 rfl Tryz.underlying22 hi0 hz0 hz1 hz2 rfl HOW.out rfl (HY.out _ hbw) (by show xs.length + ys.length ≤ _; omega) hbw.size ?_; intro v' w2 hown' hb2 hk2)
          go_roundg (0 : Nat)
          case measure => omega
          case rel => exact ⟨2, by omega, rfl, rfl, hown', hbw.trans (hb2.mono (Nat.le_refl _))⟩
        · go_wp2_with fail
          go_ret
          exact ⟨_, rfl, HOW.out, hbw⟩
end Go.Proofs.YtbkgpfalljgdcaaGreatDoor

namespace Go.Proofs.YtbkgpfalljgdcaaGreatDoor
open Go.RowKit
set_option linter.unusedVariables false

def eqT (s t : Int × Int) : Bool := decide (s = t)
theorem neq_term (a b c d : Int) (w : World) : (binOp .neq 67 (.agg #[.int .i64 a, .int .i64 b]) (.agg #[.int .i64 c, .int .i64 d])).run Tryz.prog w = .ok (.bool (!eqT (a, b) (c, d))) w := by
  have u3 := Tryz.underlying3
  have a3 := Tryz.isAgg3
  have z3 := Tryz.sizeOf3
  have hS : Tryz.prog.underlying 67 = some (.struct (Tryz.prog.fieldsOf 67)) := by kernel_rfl
  have hp : Tryz.prog.stoodInHeld 67 = false := by kernel_rfl
  rw [run_neq_struct, show (10000 : Nat) = 9999 + 1 from rfl, run_equalIn_agg w 9999 67 _ _ hS hp]
  simp only [Program.fieldsOf, Tryz.underlying67]
  go_simp
  unfold eqT
  by_cases h1 : a = c <;> by_cases h2 : b = d <;> simp [h1, h2]
theorem guard_term (op : BinOp) (x y : Operand) (xs ys : Array Value) (w : World) : (eqGuard op 67 x y (.agg xs) (.agg ys)).run Tryz.prog w = .ok () w :=
  run_eqGuard_agg w op _ x y xs ys (by kernel_rfl)
def eqL (l m : List (Int × Int)) : Bool := decide (l = m)
theorem eqL_ne {l m : List (Int × Int)} {k : Nat} (h1 : k < l.length) (h2 : k < m.length) (h : eqT l[k] m[k] = false) : eqL l m = false := by
  unfold eqL
  refine decide_eq_false fun e => ?_
  subst e
  unfold eqT at h
  simp at h
set_option maxHeartbeats 2000000 in
set_option maxRecDepth 100000 in
theorem slEqual_any (A A2 : Option Addr) (n n2 c c2 : Nat) (l m : List (Int × Int)) (w : World) (h : Tms w (.slice A n c) l) (k : Tms w (.slice A2 n2 c2) m) (hn : n = l.length) (hn2 : n2 = m.length) (hl : l.length ≤ 4611686018427387904) (hm : m.length ≤ 4611686018427387904) :
    Calls Tryz.prog 30 #[.slice A n c, .slice A2 n2 c2] w fun e w' => e = .returned (.bool (eqL l m)) ∧ ∃ q, w' = w.drewN q := by
  subst hn hn2
  obtain ⟨V, hV⟩ : ∃ V, V = eqL l m := ⟨_, rfl⟩
  rw [← hV]
  have HV := Lib.hid hV
  clear hV
  have HL := Lib.hid h
  have HM := Lib.hid k
  clear h k
  by_cases hlm : l.length = m.length
  · have HLM := Lib.hid hlm
    have z0 : ((l.length : Int) != (m.length : Int)) = false := by rw [hlm]; simp
    clear hlm
    go_enter Tryz.func30, Tryz.ntmps30
    go_wp2_with fail
    go_loopg [13] l.length (fun gk s13 wr => ∃ k q : Nat, k ≤ l.length ∧ gk = l.length - k ∧ s13 = .int .i64 (k : Int) ∧ wr = w.drewN q ∧ Hid (l.take k = m.take k))
    case atStart => exact ⟨0, 0, Nat.zero_le _, rfl, rfl, rfl, Lib.hid rfl⟩
    case round =>
      obtain ⟨k, q, hk, rfl, rfl, rfl, HK⟩ := hrel
      by_cases hlt : k < l.length
      · have hlt2 : k < m.length := by have := HLM.out; omega
        have z1 : (k : Int) < (l.length : Int) := by omega
        have z2 : (k : Int) < (m.length : Int) := by omega
        obtain ⟨b, o, rfl, _, y0, y1⟩ := HL.out.at_ hlt
        obtain ⟨b2, o2, rfl, _, x0, x1⟩ := HM.out.at_ hlt2
        have HN := Lib.hid (fun h => eqL_ne hlt hlt2 h)
        have HY := Lib.hid (fun (h : eqT l[k] m[k] = true) => (show l.take (k + 1) = m.take (k + 1) from by
          rw [take_snoc' hlt, take_snoc' hlt2, HK.out, of_decide_eq_true h]))
        clear HK
        generalize l[k] = s at *
        generalize m[k] = t at *
        obtain ⟨s1, s2⟩ := s
        obtain ⟨t1, t2⟩ := t
        have hne := fun (W : World) => neq_term s1 s2 t1 t2 W
        have hgd := fun (op : BinOp) (x y : Operand) (W : World) => guard_term op x y #[.int .i64 s1, .int .i64 s2] #[.int .i64 t1, .int .i64 t2] W
        cases hE : eqT (s1, s2) (t1, t2) with
        | true =>
          rw [hE] at hne
          have HK2 := Lib.hid (HY.out hE)
          clear HY HN hE
          go_wp2_with fail
          go_quiet (fail)
          go_wp2_with fail
          go_roundg (l.length - (k + 1))
          case measure => omega
          case rel => exact ⟨k + 1, q + nq, by omega, rfl, by go_num, rfl, HK2⟩
        | false =>
          rw [hE] at hne
          have HF := Lib.hid (HN.out hE)
          clear HY HN hE
          go_wp2_with fail
          go_quiet (fail)
          go_wp2_with fail
          go_ret
          exact ⟨by rw [HV.out, HF.out]; rfl, q + nq, World.drewN_drewN _ _ _⟩
      · have z1 : ¬ (k : Int) < (l.length : Int) := by omega
        have HT := Lib.hid (show V = true from by
          rw [HV.out]
          refine decide_eq_true ?_
          have h1 := HK.out
          obtain rfl : k = l.length := by omega
          rw [List.take_length, HLM.out, List.take_length] at h1
          exact h1)
        clear HK
        go_wp2_with fail
        go_ret
        exact ⟨by rw [HT.out]; rfl, q, rfl⟩
  · have z0 : ((l.length : Int) != (m.length : Int)) = true := by simp; omega
    have HF := Lib.hid (show V = false from by rw [HV.out]; exact decide_eq_false fun e => hlm (by rw [e]))
    clear hlm
    go_enter Tryz.func30, Tryz.ntmps30
    go_wp2_with fail
    go_ret
    exact ⟨by rw [HF.out]; rfl, 0, rfl⟩
def eqP (p q : Pol) : Bool := decide (p = q)
set_option maxHeartbeats 2000000 in
set_option maxRecDepth 100000 in
theorem Equal_any (vp vq : Value) (p q : Pol) (w : World) (hp : PolyV w vp p) (hq : PolyV w vq q) (okp : okP p) (okq : okP q) :
    Calls Tryz.prog 16 #[vp, vq] w fun e w' => e = .returned (.bool (eqP p q)) ∧ Below w.heap.size w w' := by
  have hlp : (p.getD []).length ≤ 4611686018427387904 := by
    cases p with
    | none => simp
    | some l => have := okp.2.len okp.1; simp only [Option.getD_some]; omega
  have hlq : (q.getD []).length ≤ 4611686018427387904 := by
    cases q with
    | none => simp
    | some l => have := okq.2.len okq.1; simp only [Option.getD_some]; omega
  obtain ⟨A, c, rfl, h1⟩ := hp
  obtain ⟨A2, c2, rfl, h2⟩ := hq
  have HS := Lib.hid (fun (W : World) (hb : Below w.heap.size w W) => slEqual_any A A2 _ _ c c2 _ _ W (h1.below hb) (h2.below hb) rfl rfl hlp hlq)
  have hE : eqP p q = (p.isNone == q.isNone && eqL (p.getD []) (q.getD [])) := by
    unfold eqP eqL
    cases p <;> cases q <;> simp
  rw [hE]
  clear hE okp okq h1 h2 hlp hlq
  generalize p.isNone = b1 at *
  generalize q.isNone = b2 at *
  generalize eqL (p.getD []) (q.getD []) = E at *
  generalize (p.getD []).length = n at *
  generalize (q.getD []).length = n2 at *
  have hW : ∀ W, W = ((w.alloc (.cells #[.bool b1, .slice A n c] 40)).alloc (.cells #[.bool b2, .slice A2 n2 c2] 40)) → Arr W w.heap.size 40 [.bool b1, .slice A n c] ∧ Arr W (w.heap.size + 1) 40 [.bool b2, .slice A2 n2 c2] ∧ Below w.heap.size w W := by
    intro W hW
    subst hW
    exact ⟨(Arr.new _ _ [_, _]).alloc _, Arr.newAt (w.alloc _) _ [_, _] _ (by simp), ((Below.refl _ _).alloc (Nat.le_refl _) _).alloc (by simp) _⟩
  go_enter Tryz.func16, Tryz.ntmps16
  go_upto_region 1 with fail
  generalize ((w.alloc (.cells #[.bool b1, .slice A n c] 40)).alloc (.cells #[.bool b2, .slice A2 n2 c2] 40)) = w3 at hW ⊢
  obtain ⟨qp, qq, hb3⟩ := hW w3 rfl
  clear hW
  have y0 := qp.cell 0
  have y1 := qp.cell 1
  have x0 := qq.cell 0
  have x1 := qq.cell 1
  have HC := Lib.hid (HS.out w3 hb3)
  clear HS qp qq
  by_cases hb : b1 = b2
  · subst hb
    have z : (b1 == b1) = true := by simp
    go_wp2_with fail
    refine HC.out.mono ?_
    rintro e w4 ⟨rfl, q4, rfl⟩
    go_wp2_with fail
    go_ret
    exact ⟨by simp, bdrewN hb3 q4⟩
  · have z : (b1 == b2) = false := by simp [hb]
    go_wp2_with fail
    go_ret
    exact ⟨by rw [z]; rfl, hb3⟩
end Go.Proofs.YtbkgpfalljgdcaaGreatDoor
