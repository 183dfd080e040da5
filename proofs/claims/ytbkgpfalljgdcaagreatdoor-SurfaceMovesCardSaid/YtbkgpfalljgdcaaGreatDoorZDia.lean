/- Polynomials and slices of them as elements of slices; blocks of all types but one are kept. -/
/- A region that draws its order, reads, calls once, appends one element told by the call's result to an own slice and stores the slice back. -/
/- laurent: Low, High, Coef. -/
/- polymatrix: arithmetic modulo a number, the test of Miller and Rabin, the fields: plain. -/
/- The plain facts of a division with two digits (Knuth's algorithm D), for math/bits.Div64. -/
/- Small functions of the diagrams: Turn. -/
import Derived.Test.YtbkgpfalljgdcaaGreatDoorZAps
import Derived.Test.YtbkgpfalljgdcaaGreatDoorZBld
import Derived.Test.YtbkgpfalljgdcaaGreatDoorZPad
import Derived.Test.YtbkgpfalljgdcaaGreatDoorShelf
import Derived.Lib.Hide
import Derived.Test.YtbkgpfalljgdcaaGreatDoorZBase
import Derived.Test.YtbkgpfalljgdcaaGreatDoorChecked
import Derived.IntWalk
import Derived.Deep.LoopGhost
import Derived.Deep.RegionHeld3
import Derived.Deep.DeepCutAuto
namespace Go.Proofs.YtbkgpfalljgdcaaGreatDoor
open Go.RowKit
set_option linter.unusedVariables false

abbrev PVt := Bool × Option Addr × Nat × Nat
abbrev SVt := Option Addr × Nat × Nat
def vP (p : PVt) : Value := .agg #[.bool p.1, .slice p.2.1 p.2.2.1 p.2.2.2]
def eP (p : PVt) : List Value := [.bool p.1, .slice p.2.1 p.2.2.1 p.2.2.2]
def zP : Value := .agg #[.bool false, .slice none 0 0]
def vS (s : SVt) : Value := .slice s.1 s.2.1 s.2.2
def eS (s : SVt) : List Value := [vS s]
theorem info_pol : (Tryz.prog.info? 40).map (fun i => (i.zero, i.size, i.bytes)) = some (some (.agg #[.bool false, .slice none 0 0]), 2, 32) := by kernel_rfl
theorem info_pls : (Tryz.prog.info? 61).map (fun i => (i.zero, i.size, i.bytes)) = some (some (.slice none 0 0), 1, 24) := by kernel_rfl
theorem elP : ElA Tryz.prog 40 2 eP where
  ex := by
    obtain ⟨i, hi, hz, hs, hb⟩ := info_parts info_pol
    exact ⟨i, _, 32, hi, hz, hs, hb, rfl, by omega⟩
  pos := by omega
  len := fun x => rfl
  one := fun x q h => by unfold eP at h; simp at h; rcases h with rfl | rfl <;> rfl
theorem elS : ElA Tryz.prog 61 1 eS where
  ex := by
    obtain ⟨i, hi, hz, hs, hb⟩ := info_parts info_pls
    exact ⟨i, _, 24, hi, hz, hs, hb, rfl, by omega⟩
  pos := by omega
  len := fun x => rfl
  one := fun x q h => by unfold eS at h; simp at h; subst h; rfl
theorem zinfoP : ∃ i, Tryz.prog.info? 40 = some i ∧ i.zero = some zP := by
  obtain ⟨i, hi, hz, _⟩ := info_parts info_pol
  exact ⟨i, hi, hz⟩
theorem zinfoS : ∃ i, Tryz.prog.info? 61 = some i ∧ i.zero = some (.slice none 0 0) := by
  obtain ⟨i, hi, hz, _⟩ := info_parts info_pls
  exact ⟨i, hi, hz⟩
/-- all blocks but those of the type T are kept -/
def KeepE (T : TypeId) (w w' : World) : Prop := ∀ (k : Nat) (cs : Array Value) (t : TypeId) (fr : Nat × Nat), w.heap[k]? = some (Obj.cells cs t fr) → t ≠ T → w'.heap[k]? = w.heap[k]?
theorem heap_lt {w : World} {k : Nat} {o : Obj} (h : w.heap[k]? = some o) : k < w.heap.size := by
  obtain ⟨h, _⟩ := Array.getElem?_eq_some_iff.1 h
  exact h
theorem KeepE.of {T : TypeId} {w w' : World} {v : Value} (hk : ∀ k, k < w.heap.size → v.ownBlock ≠ some k → w'.heap[k]? = w.heap[k]?) (ht : ∀ k, v.ownBlock = some k → ∃ cs fr, w.heap[k]? = some (.cells cs T fr)) : KeepE T w w' := fun k cs t fr h hne => hk k (heap_lt h) fun e => by
  obtain ⟨cs', fr', h'⟩ := ht k e
  rw [h] at h'
  injection h' with h'
  injection h' with _ h2 _
  exact hne h2
theorem KeepE.trans {T : TypeId} {w w1 w2 : World} (h : KeepE T w w1) (h2 : KeepE T w1 w2) : KeepE T w w2 := fun k cs t fr hh hne => by
  have e1 := h k cs t fr hh hne
  exact (h2 k cs t fr (e1.trans hh) hne).trans e1
theorem KeepE.below {T : TypeId} {w w' : World} (hb : Below w.heap.size w w') : KeepE T w w' := fun k cs t fr h _ => hb.block k (heap_lt h)
theorem Arr.keepE {T : TypeId} {w w' : World} {g : Nat} {t : TypeId} {cs : List Value} (h : Arr w g t cs) (hk : KeepE T w w') (hne : t ≠ T) : Arr w' g t cs := (hk g _ t _ h hne).trans h
section
variable {α : Type} {e : TypeId} {sz : Nat} {enc : α → List Value} {zc : Array Value} {base : Nat} {w w' : World} {v : Value} {xs : List α}
theorem OwnA.typ (h : OwnA e sz enc base w v xs) : ∀ k, v.ownBlock = some k → ∃ cs fr, w.heap[k]? = some (.cells cs e fr) := by
  intro k hk
  rcases h.2 with ⟨rfl, h0⟩ | ⟨g, cap, cur, rfl, _, hh, _⟩
  · cases hk
  · have : g = k := Option.some.inj hk
    subst this
    exact ⟨_, _, hh⟩
theorem OwnA.keepE {T : TypeId} (h : OwnA e sz enc base w v xs) (hk : KeepE T w w') (hne : e ≠ T) : OwnA e sz enc base w' v xs := h.keepK fun k hk2 => by
  obtain ⟨cs, fr, hh⟩ := h.typ k hk2
  exact hk k cs e fr hh hne
end
theorem Tms.keepE {T : TypeId} {w w' : World} {v : Value} {l : List (Int × Int)} (h : Tms w v l) (hk : KeepE T w w') (hne : 67 ≠ T) : Tms w' v l := h.keepT fun b ⟨cs, fr, hh⟩ => hk b cs _ fr hh hne
theorem PolyV.keepE {T : TypeId} {w w' : World} {v : Value} {p : Pol} (h : PolyV w v p) (hk : KeepE T w w') (hne : 67 ≠ T) : PolyV w' v p := by
  obtain ⟨A, c, hv, hx⟩ := h
  exact ⟨A, c, hv, hx.keepE hk hne⟩
end Go.Proofs.YtbkgpfalljgdcaaGreatDoor

namespace Go.Proofs.YtbkgpfalljgdcaaGreatDoor
open Go.RowKit
set_option linter.unusedVariables false

section
variable {α : Type}
/-- k: the call, whose result cv m is told by Ψ; c: the literal; a: the append; f: the store at p; E: the type of the own slice's elements -/
structure ApC (e : TypeId) (sz : Nat) (enc : α → List Value) (B : Nat) (w0 : World) (ev : Nat → Option Value) (u k c a f : Nat) (v0 : Value) (p : Addr) (L : List α) (cv : α → Value) (Ψ : α → World → Prop) (Ξ : Value → World → Prop) (D : Nat → Bool) (x : Nat → Value) (w : World) : Prop where
  kn : ∀ i v, ev i = some v → D i = true → x i = v
  pre : D a = false → D f = false → Below w0.heap.size w0 w
  aux : D u = true → D k = false → D a = false → D f = false → Ξ (x u) w
  cal : D k = true → D a = false → D f = false → ∃ m, x k = cv m ∧ Ψ m w
  lit : D c = true → D a = false → D f = false → ∃ m, Ψ m w ∧ OwnA e sz enc w0.heap.size w (x c) [m]
  mid : D a = true → D f = false → ∃ m, Ψ m w ∧ OwnA e sz enc B w (x a) (L ++ [m]) ∧ Kpt B w0 w v0 (x a)
  fin : D f = true → ∃ W v m, w = W.setCell p v ∧ Ψ m W ∧ OwnA e sz enc B W v (L ++ [m]) ∧ Kpt B w0 W v0 v
/-- what Ψ owes: kept where memory grows, and where blocks of the type e are written that were there -/
def KpΨ (Ψ : α → World → Prop) (v0 : Value) (w0 : World) : Prop := ∀ m w w', Below w0.heap.size w0 w → Ψ m w → (∀ j, j < w.heap.size → v0.ownBlock ≠ some j → w'.heap[j]? = w.heap[j]?) → Ψ m w'
variable {e : TypeId} {sz : Nat} {enc : α → List Value} {B : Nat} {w0 w w' : World} {ev : Nat → Option Value} {u k c a f : Nat} {v0 : Value} {p : Addr} {L : List α} {cv : α → Value} {Ψ : α → World → Prop} {Ξ : Value → World → Prop} {D : Nat → Bool} {x : Nat → Value}
theorem KpΨ.below (h : KpΨ Ψ v0 w0) {m : α} (h0 : Below w0.heap.size w0 w) (hm : Ψ m w) (hb : Below w.heap.size w w') : Ψ m w' := h m w w' h0 hm fun j hj _ => hb.block j hj
theorem ApC.start : ApC e sz enc B w0 ev u k c a f v0 p L cv Ψ Ξ (fun _ => false) x w0.drew :=
  ⟨fun i v _ h => Bool.noConfusion h, fun _ _ => (Below.refl _ _).drew, fun h => Bool.noConfusion h, fun h => Bool.noConfusion h, fun h => Bool.noConfusion h, fun h => Bool.noConfusion h, fun h => Bool.noConfusion h⟩
theorem ApC.val (h : ApC e sz enc B w0 ev u k c a f v0 p L cv Ψ Ξ D x w) {i : Nat} {v : Value} (hv : ev i = some v) (hu : i ≠ u) (h0 : i ≠ k) (h1 : i ≠ c) (h2 : i ≠ a) (h3 : i ≠ f) : ApC e sz enc B w0 ev u k c a f v0 p L cv Ψ Ξ (upd D i true) (upd x i v) w := by
  refine ⟨fun j y hy hd => ?_, fun d1 d2 => ?_, fun d0 d1 d2 d3 => ?_, fun d1 d2 d3 => ?_, fun d1 d2 d3 => ?_, fun d1 d2 => ?_, fun d => ?_⟩
  · by_cases e : j = i
    · subst e; rw [upd_same]; rw [hv] at hy; injection hy
    · rw [upd_ne _ _ e] at hd ⊢; exact h.kn j y hy hd
  · rw [upd_ne _ _ (Ne.symm h2)] at d1; rw [upd_ne _ _ (Ne.symm h3)] at d2; exact h.pre d1 d2
  · rw [upd_ne _ _ (Ne.symm hu)] at d0 ⊢; rw [upd_ne _ _ (Ne.symm h0)] at d1; rw [upd_ne _ _ (Ne.symm h2)] at d2; rw [upd_ne _ _ (Ne.symm h3)] at d3; exact h.aux d0 d1 d2 d3
  · rw [upd_ne _ _ (Ne.symm h0)] at d1 ⊢; rw [upd_ne _ _ (Ne.symm h2)] at d2; rw [upd_ne _ _ (Ne.symm h3)] at d3; exact h.cal d1 d2 d3
  · rw [upd_ne _ _ (Ne.symm h1)] at d1 ⊢; rw [upd_ne _ _ (Ne.symm h2)] at d2; rw [upd_ne _ _ (Ne.symm h3)] at d3; exact h.lit d1 d2 d3
  · rw [upd_ne _ _ (Ne.symm h2)] at d1 ⊢; rw [upd_ne _ _ (Ne.symm h3)] at d2; exact h.mid d1 d2
  · rw [upd_ne _ _ (Ne.symm h3)] at d; exact h.fin d
theorem ApC.lit_ (h : ApC e sz enc B w0 ev u k c a f v0 p L cv Ψ Ξ D x w) (hK : KpΨ Ψ v0 w0) (hev : ev u = none) (hk0 : u ≠ k) (h0 : u ≠ c) (h1 : u ≠ a) (h2 : u ≠ f) (hk : D k = false) (ha : D a = false) (hf : D f = false) (hb : Below w.heap.size w w') {v : Value} (hm : Ξ v w') : ApC e sz enc B w0 ev u k c a f v0 p L cv Ψ Ξ (upd D u true) (upd x u v) w' := by
  have hp := h.pre ha hf
  refine ⟨fun j y hy hd => ?_, fun d1 d2 => hp.trans (hb.mono hp.size), fun d0 d1 d2 d3 => (by rw [upd_same]; exact hm), fun d1 d2 d3 => ?_, fun d1 d2 d3 => ?_, fun d1 d2 => ?_, fun d => ?_⟩
  · have e : j ≠ u := fun e => (by rw [e, hev] at hy; cases hy)
    rw [upd_ne _ _ e] at hd ⊢; exact h.kn j y hy hd
  · rw [upd_ne _ _ (Ne.symm hk0), hk] at d1; cases d1
  · rw [upd_ne _ _ (Ne.symm h0)] at d1 ⊢
    obtain ⟨m, h3, h4⟩ := h.lit d1 ha hf
    exact ⟨m, hK.below hp h3 hb, h4.below hb⟩
  · rw [upd_ne _ _ (Ne.symm h1), ha] at d1; cases d1
  · rw [upd_ne _ _ (Ne.symm h2), hf] at d; cases d
theorem ApC.call (h : ApC e sz enc B w0 ev u k c a f v0 p L cv Ψ Ξ D x w) (hK : KpΨ Ψ v0 w0) (hev : ev k = none) (h0 : k ≠ c) (h1 : k ≠ a) (h2 : k ≠ f) (hc : D c = false) (ha : D a = false) (hf : D f = false) (hb : Below w.heap.size w w') {m : α} (hm : Ψ m w') : ApC e sz enc B w0 ev u k c a f v0 p L cv Ψ Ξ (upd D k true) (upd x k (cv m)) w' := by
  have hp := h.pre ha hf
  refine ⟨fun j y hy hd => ?_, fun d1 d2 => hp.trans (hb.mono hp.size), fun d0 d1 d2 d3 => (by rw [upd_same] at d1; cases d1), fun d1 d2 d3 => ⟨m, by rw [upd_same], hm⟩, fun d1 d2 d3 => ?_, fun d1 d2 => ?_, fun d => ?_⟩
  · have e : j ≠ k := fun e => (by rw [e, hev] at hy; cases hy)
    rw [upd_ne _ _ e] at hd ⊢; exact h.kn j y hy hd
  · rw [upd_ne _ _ (Ne.symm h0), hc] at d1; cases d1
  · rw [upd_ne _ _ (Ne.symm h1), ha] at d1; cases d1
  · rw [upd_ne _ _ (Ne.symm h2), hf] at d; cases d
theorem ApC.make (h : ApC e sz enc B w0 ev u k c a f v0 p L cv Ψ Ξ D x w) (hK : KpΨ Ψ v0 w0) (hev : ev c = none) (h0 : c ≠ k) (h1 : c ≠ a) (h2 : c ≠ f) (hkt : D k = true) (ha : D a = false) (hf : D f = false) (hb : Below w.heap.size w w') {m : α} (hm : Ψ m w) {v : Value} (ho : OwnA e sz enc w.heap.size w' v [m]) : ApC e sz enc B w0 ev u k c a f v0 p L cv Ψ Ξ (upd D c true) (upd x c v) w' := by
  have hp := h.pre ha hf
  refine ⟨fun j y hy hd => ?_, fun d1 d2 => hp.trans (hb.mono hp.size), fun d0 d1 d2 d3 => (by rw [upd_ne _ _ (Ne.symm h0), hkt] at d1; cases d1), fun d1 d2 d3 => ?_, fun d1 d2 d3 => ⟨m, hK.below hp hm hb, by rw [upd_same]; exact ho.low hp.size⟩, fun d1 d2 => ?_, fun d => ?_⟩
  · have e : j ≠ c := fun e => (by rw [e, hev] at hy; cases hy)
    rw [upd_ne _ _ e] at hd ⊢; exact h.kn j y hy hd
  · rw [upd_ne _ _ (Ne.symm h0)] at d1 ⊢
    obtain ⟨m', h3, h4⟩ := h.cal d1 ha hf
    exact ⟨m', h3, hK.below hp h4 hb⟩
  · rw [upd_ne _ _ (Ne.symm h1), ha] at d1; cases d1
  · rw [upd_ne _ _ (Ne.symm h2), hf] at d; cases d
theorem ApC.app {P : Program} (E : ElA P e sz enc) (h : ApC e sz enc B w0 ev u k c a f v0 p L cv Ψ Ξ D x w) (hK : KpΨ Ψ v0 w0) {o : Oper} {b : Act} (sx ux : Operand) (t t2 : TypeId) (ho : o.op = .call { callee := .builtin .append, args := #[sx, ux], argTypes := #[t, t2] })
    (ht : P.underlying t = some (.slice e)) (ht2 : P.underlying t2 = some (.slice e)) (hev : ev a = none) (hka : k ≠ a) (hca : c ≠ a) (haf : a ≠ f) (hc : D c = true) (ha : D a = false) (hf : D f = false)
    (he1 : b.eval sx = v0) (he2 : b.eval ux = x c) (hv0 : OwnA e sz enc B w0 v0 L) (hB : B ≤ w0.heap.size) (hlen : L.length ≤ 100000000) : o.wp P b w (StepPost (ApC e sz enc B w0 ev u k c a f v0 p L cv Ψ Ξ) D x a b o.dst) NoQ := by
  have hp := h.pre ha hf
  obtain ⟨m, hm, hl⟩ := h.lit hc ha hf
  refine wp_appA (P := P) (base := B) E sx ux t t2 ho ht ht2 he1 (hv0.below hp) he2 hl.sl (by simp; omega) (Nat.le_trans hB hp.size) ?_
  intro v' w' h1 h2 h3 h4
  refine ⟨v', rfl, fun j y hy hd => ?_, fun d1 d2 => ?_, fun d0 d1 d2 d3 => (by rw [upd_same] at d2; cases d2), fun d1 d2 d3 => ?_, fun d1 d2 d3 => ?_, fun d1 d2 => ?_, fun d => ?_⟩
  · have e : j ≠ a := fun e => (by rw [e, hev] at hy; cases hy)
    rw [upd_ne _ _ e] at hd ⊢; exact h.kn j y hy hd
  · rw [upd_same] at d1; cases d1
  · rw [upd_same] at d2; cases d2
  · rw [upd_same] at d2; cases d2
  · rw [upd_same]
    refine ⟨m, hK m w w' hp hm h3, h1, (hp.mono hB).trans h2, fun k hk hne => (h3 k (Nat.lt_of_lt_of_le hk hp.size) hne).trans (hp.block k hk), fun k hk => ?_⟩
    rcases h4 with q | q
    · rw [q] at hk; exact .inl hk
    · rw [q] at hk
      injection hk with hk
      subst hk
      exact .inr hp.size
  · rw [upd_ne _ _ (Ne.symm haf), hf] at d; cases d
theorem ApC.store (h : ApC e sz enc B w0 ev u k c a f v0 p L cv Ψ Ξ D x w) (hev : ev f = none) (ha : D a = true) (hf : D f = false) (v : Value) : ApC e sz enc B w0 ev u k c a f v0 p L cv Ψ Ξ (upd D f true) (upd x f v) (w.setCell p (x a)) := by
  obtain ⟨m, m0, m1, m2⟩ := h.mid ha hf
  refine ⟨fun j y hy hd => ?_, fun d1 d2 => ?_, fun d0 d1 d2 d3 => (by rw [upd_same] at d3; cases d3), fun d1 d2 d3 => ?_, fun d1 d2 d3 => ?_, fun d1 d2 => ?_, fun d => ⟨w, x a, m, rfl, m0, m1, m2⟩⟩
  · have e : j ≠ f := fun e => (by rw [e, hev] at hy; cases hy)
    rw [upd_ne _ _ e] at hd ⊢; exact h.kn j y hy hd
  · rw [upd_same] at d2; cases d2
  · rw [upd_same] at d3; cases d3
  · rw [upd_same] at d3; cases d3
  · rw [upd_same] at d2; cases d2
/-- a block that the append does not write, at any time before the store -/
theorem ApC.arrK (h : ApC e sz enc B w0 ev u k c a f v0 p L cv Ψ Ξ D x w) (hf : D f = false) {g : Nat} {t : TypeId} {cs : List Value} (hg : Arr w0 g t cs) (hne : v0.ownBlock ≠ some g) : Arr w g t cs := by
  cases ha : D a with
  | false => exact hg.below (h.pre ha hf) hg.lt
  | true =>
    obtain ⟨m, _, _, m2⟩ := h.mid ha hf
    exact m2.arr hg hne
end
theorem wp_of_callA {P : Program} {I : (Nat → Bool) → (Nat → Value) → World → Prop} {D : Nat → Bool} {x : Nat → Value} {i : Nat} {o : Oper} {b : Act} {w : World} {f : FuncId} {args : Array Value} (h : (execOp b.eval o).run P w = .ok (.enter f args) w) (hc : Calls P f args w fun e w' => ∃ v, e = .returned v ∧ I (upd D i true) (upd x i v) w') : o.wp P b w (StepPost I D x i b o.dst) NoQ := by
  unfold Oper.wp; rw [h]
  simp only [Oper.upon]
  refine hc.mono ?_
  rintro e w' ⟨v, rfl, hI⟩
  exact StepPost.mk' hI
end Go.Proofs.YtbkgpfalljgdcaaGreatDoor

namespace Go.Proofs.YtbkgpfalljgdcaaGreatDoor
open Go.RowKit
set_option linter.unusedVariables false

def lowL (l : List (Int × Int)) : Int := (l.head?.map (·.1)).getD 0
def highL (l : List (Int × Int)) : Int := (l.getLast?.map (·.1)).getD 0
theorem lowL_0 {l : List (Int × Int)} (h : 0 < l.length) : lowL l = l[0].1 := by
  cases l with
  | nil => simp at h
  | cons t l => rfl
theorem highL_0 {l : List (Int × Int)} (h : 0 < l.length) : highL l = (l[l.length - 1]'(by omega)).1 := by
  unfold highL
  rw [List.getLast?_eq_getElem?, List.getElem?_eq_getElem (by omega)]; rfl
set_option maxHeartbeats 1000000 in
theorem Low_any (vp : Value) (p : Pol) (w : World) (hp : PolyV w vp p) (okp : okP p) : Calls Tryz.prog 46 #[vp] w fun e w' => e = .returned (.int .i64 (lowL (p.getD []))) ∧ Below w.heap.size w w' := by
  have hl : (p.getD []).length ≤ 4611686018427387904 := by
    cases p with
    | none => simp
    | some l => have := okp.2.len okp.1; simp only [Option.getD_some]; omega
  obtain ⟨A, c, rfl, hx⟩ := hp
  have HX := Lib.hid (fun W (hb : Below w.heap.size w W) => hx.below hb)
  clear hx okp
  generalize p.isNone = b1 at *
  generalize p.getD [] = l at *
  have hb : Below w.heap.size w (w.alloc (.cells #[.bool b1, .slice A l.length c] 40)) := (Below.refl _ _).alloc (Nat.le_refl _) _
  rcases Nat.eq_zero_or_pos l.length with h0 | h0
  · have z1 : ((l.length : Int) == 0) = true := by rw [beq_iff_eq]; omega
    have HE := Lib.hid (show lowL l = 0 from by rw [List.eq_nil_of_length_eq_zero h0]; rfl)
    clear h0
    go_enter Tryz.func46, Tryz.ntmps46
    go_wp2_with fail
    go_ret
    exact ⟨by rw [HE.out]; rfl, hb⟩
  · have z1 : ((l.length : Int) == 0) = false := by rw [beq_eq_false_iff_ne]; omega
    have HE := Lib.hid (lowL_0 h0)
    obtain ⟨b, o, rfl, _, y0, _⟩ := (HX.out _ hb).at_ h0
    simp only [Nat.zero_mul, Nat.add_zero] at y0
    have z2 : (0 : Int) < (l.length : Int) := by omega
    clear HX
    go_enter Tryz.func46, Tryz.ntmps46
    go_wp2_with fail
    go_ret
    exact ⟨by rw [HE.out]; rfl, hb⟩
set_option maxHeartbeats 1000000 in
theorem High_any (vp : Value) (p : Pol) (w : World) (hp : PolyV w vp p) (okp : okP p) : Calls Tryz.prog 52 #[vp] w fun e w' => e = .returned (.int .i64 (highL (p.getD []))) ∧ Below w.heap.size w w' := by
  have hl : (p.getD []).length ≤ 4611686018427387904 := by
    cases p with
    | none => simp
    | some l => have := okp.2.len okp.1; simp only [Option.getD_some]; omega
  obtain ⟨A, c, rfl, hx⟩ := hp
  have HX := Lib.hid (fun W (hb : Below w.heap.size w W) => hx.below hb)
  clear hx okp
  generalize p.isNone = b1 at *
  generalize p.getD [] = l at *
  have hb : Below w.heap.size w (w.alloc (.cells #[.bool b1, .slice A l.length c] 40)) := (Below.refl _ _).alloc (Nat.le_refl _) _
  rcases Nat.eq_zero_or_pos l.length with h0 | h0
  · have z1 : ((l.length : Int) == 0) = true := by rw [beq_iff_eq]; omega
    have HE := Lib.hid (show highL l = 0 from by rw [List.eq_nil_of_length_eq_zero h0]; rfl)
    clear h0
    go_enter Tryz.func52, Tryz.ntmps52
    go_wp2_with fail
    go_ret
    exact ⟨by rw [HE.out]; rfl, hb⟩
  · have z1 : ((l.length : Int) == 0) = false := by rw [beq_eq_false_iff_ne]; omega
    have HE := Lib.hid (highL_0 h0)
    obtain ⟨b, o, rfl, _, y0, _⟩ := (HX.out _ hb).at_ (show l.length - 1 < l.length by omega)
    have HE2 := Lib.hid (show highL l = (l[l.length - 1]).1 from HE.out)
    generalize (l[l.length - 1]).1 = x at *
    obtain ⟨m, hm⟩ : ∃ m : Nat, m = l.length - 1 := ⟨_, rfl⟩
    have e1 : (l.length : Int) - 1 = (m : Int) := by omega
    have z2 : (m : Int) < (l.length : Int) := by omega
    rw [← hm] at y0
    clear HX hm HE
    go_enter Tryz.func52, Tryz.ntmps52
    go_wp2_with fail
    go_ret
    exact ⟨by rw [HE2.out]; rfl, hb⟩
set_option maxHeartbeats 1000000 in
theorem coefclo_any (a b e : Int) (W : World) : Calls Tryz.prog 57 #[.agg #[.int .i64 a, .int .i64 b], .int .i64 e] W fun en w' => en = .returned (.int .i64 (Lib.compareInt a e)) ∧ Below W.heap.size W w' := by
  have hcon := Lib.hid (fun W' => Tryz.cmp_Compare_int a e W')
  obtain ⟨r, hr⟩ : ∃ r, r = Lib.compareInt a e := ⟨_, rfl⟩
  rw [← hr] at hcon ⊢
  clear hr
  go_enter Tryz.func57, Tryz.ntmps57
  go_wp2_with fail
  refine (hcon.out _).mono ?_
  rintro en w' ⟨rfl, rfl⟩
  go_wp2_with fail
  go_ret
  exact ⟨rfl, (Below.refl _ _).alloc (Nat.le_refl _) _⟩
theorem cmpI (a e : Int) : (Lib.compareInt a e < 0 ↔ a < e) ∧ (Lib.compareInt a e = 0 ↔ a = e) ∧ -1 ≤ Lib.compareInt a e ∧ Lib.compareInt a e ≤ 1 := by
  unfold Lib.compareInt
  split
  · simp; omega
  · split <;> simp <;> omega
/-- what the search returns -/
def BsfR (l : List (Int × Int)) (e : Int) (w : World) (en : Ending) (w' : World) : Prop := Below w.heap.size w w' ∧ ∃ (i : Nat) (ok : Bool), en = .returned (.tuple #[.int .i64 (i : Int), .bool ok]) ∧ i ≤ l.length ∧ (ok = true → ∃ h : i < l.length, l[i].1 = e) ∧ (ok = false → cf l e = 0)
set_option maxHeartbeats 2000000 in
set_option maxRecDepth 100000 in
theorem bsf_any (A : Option Addr) (c : Nat) (l : List (Int × Int)) (e : Int) (w : World) (hx : Tms w (.slice A l.length c) l) (kl : Srt l) (hl : l.length ≤ 1000000000) :
    Calls Tryz.prog 56 #[.slice A l.length c, .int .i64 e, .func (.func 57) #[] #[]] w (BsfR l e w) := by
  have HX := Lib.hid (fun W (hb : Below w.heap.size w W) => hx.below hb)
  have HK := Lib.hid kl
  have eg := enters_of Tryz.func57 (by kernel_rfl) rfl
  clear hx kl
  go_enter Tryz.func56, Tryz.ntmps56
  go_wp2_with fail
  go_loopg [9, 10, 11] l.length (fun gk s9 s10 s11 wr => ∃ lo hi : Nat, lo ≤ hi ∧ hi ≤ l.length ∧ gk = hi - lo ∧ s9 = .int .i64 (lo : Int) ∧ s10 = .int .i64 (hi : Int) ∧ Hid ((∀ s ∈ l.take lo, s.1 < e) ∧ ∀ s ∈ l.drop hi, e ≤ s.1) ∧ Below w.heap.size w wr)
  case atStart => exact ⟨0, l.length, Nat.zero_le _, Nat.le_refl _, rfl, rfl, rfl, Lib.hid ⟨fun s h => by simp at h, fun s h => by simp at h⟩, Below.refl _ _⟩
  case round =>
    obtain ⟨lo, hi, hlh, hhi, rfl, rfl, rfl, HI, hbr⟩ := hrel
    by_cases hlt : lo < hi
    · have z1 : (lo : Int) < (hi : Int) := by omega
      obtain ⟨m, hm⟩ : ∃ m : Nat, m = (lo + hi) / 2 := ⟨_, rfl⟩
      have hml : m < l.length := by omega
      have z2 : (m : Int) < (l.length : Int) := by omega
      have z3 : ((lo : Int) + (hi : Int)) / 2 = (m : Int) := by omega
      obtain ⟨b, o, rfl, _, y0, y1⟩ := (HX.out wr hbr).at_ hml
      have HL := Lib.hid (fun (h : l[m].1 < e) => (show ∀ s ∈ l.take (m + 1), s.1 < e from fun s hs => by
        rw [take_snoc' hml] at hs
        rcases List.mem_append.1 hs with hs | hs
        · have := (srt_drop HK.out hml).1 s hs; omega
        · rw [List.mem_singleton.1 hs]; exact h))
      have HR := Lib.hid (fun (h : ¬ l[m].1 < e) => (show ∀ s ∈ l.drop m, e ≤ s.1 from fun s hs => by
        have := srt_ge HK.out hml s hs; omega))
      have HC := Lib.hid (coefclo_any l[m].1 l[m].2 e wr)
      obtain ⟨hc1, hc2, hc3, hc4⟩ := cmpI l[m].1 e
      generalize Lib.compareInt l[m].1 e = r at *
      generalize l[m] = t at *
      obtain ⟨t1, t2⟩ := t
      have hm1 : lo ≤ m := by omega
      have hm2 : m < hi := by omega
      clear hm
      dsimp only at *
      by_cases hr : r < 0
      · have HS := Lib.hid (HL.out (hc1.1 hr))
        clear HL HR hc1 hc2
        go_wp2_with fail
        refine HC.out.mono ?_
        rintro en w4 ⟨rfl, hb4⟩
        go_wp2_with fail
        go_roundg (hi - (m + 1))
        case measure => omega
        case rel => exact ⟨m + 1, hi, by omega, by omega, rfl, by go_num, rfl, Lib.hid ⟨HS.out, HI.out.2⟩, hbr.trans (hb4.mono hbr.size)⟩
      · have HS := Lib.hid (HR.out (fun h => hr (hc1.2 h)))
        clear HL HR hc1 hc2
        go_wp2_with fail
        refine HC.out.mono ?_
        rintro en w4 ⟨rfl, hb4⟩
        go_wp2_with fail
        go_roundg (m - lo)
        case measure => omega
        case rel => exact ⟨lo, m, by omega, by omega, rfl, rfl, rfl, Lib.hid ⟨HI.out.1, HS.out⟩, hbr.trans (hb4.mono hbr.size)⟩
    · have z1 : ¬ (lo : Int) < (hi : Int) := by omega
      obtain rfl : lo = hi := by omega
      by_cases hln : lo < l.length
      · have z2 : (lo : Int) < (l.length : Int) := by omega
        obtain ⟨b, o, rfl, _, y0, y1⟩ := (HX.out wr hbr).at_ hln
        have HC := Lib.hid (coefclo_any l[lo].1 l[lo].2 e wr)
        obtain ⟨hc1, hc2, hc3, hc4⟩ := cmpI l[lo].1 e
        have HN := Lib.hid (fun (h : l[lo].1 ≠ e) => (show cf l e = 0 from by
          refine cf_out fun s hs => ?_
          rw [← List.take_append_drop lo l] at hs
          rcases List.mem_append.1 hs with hs | hs
          · have := HI.out.1 s hs; omega
          · rw [List.drop_eq_getElem_cons hln] at hs
            rcases List.mem_cons.1 hs with rfl | hs
            · exact h
            · have h1 := (srt_drop HK.out hln).2 s hs
              have h2 := HI.out.2 l[lo] (mem_drop_self hln)
              omega))
        obtain ⟨r, hr⟩ : ∃ r, r = Lib.compareInt l[lo].1 e := ⟨_, rfl⟩
        rw [← hr] at HC hc1 hc2 hc3 hc4
        clear hr
        have HT := Lib.hid (fun (h : r = 0) => (show ∃ h : lo < l.length, l[lo].1 = e from ⟨hln, hc2.1 h⟩))
        have HF := Lib.hid (fun (h : r ≠ 0) => HN.out (fun q => h (hc2.2 q)))
        generalize l[lo].1 = t1 at *
        generalize l[lo].2 = t2 at *
        clear HN hc1 hc2 HI
        by_cases hr0 : r = 0
        · have z4 : (r == 0) = true := by simp [hr0]
          have HT2 := Lib.hid (HT.out hr0)
          clear HT HF hr0
          go_wp2_with fail
          refine HC.out.mono ?_
          rintro en w4 ⟨rfl, hb4⟩
          go_wp2_with fail
          go_ret2
          exact ⟨hbr.trans (hb4.mono hbr.size), lo, true, rfl, by omega, fun _ => HT2.out, fun h => by cases h⟩
        · have z4 : (r == 0) = false := by simp [hr0]
          have HF2 := Lib.hid (HF.out hr0)
          clear HT HF hr0
          go_wp2_with fail
          refine HC.out.mono ?_
          rintro en w4 ⟨rfl, hb4⟩
          go_wp2_with fail
          go_ret2
          exact ⟨hbr.trans (hb4.mono hbr.size), lo, false, rfl, by omega, fun h => (by cases h), fun _ => HF2.out⟩
      · have z2 : ¬ (lo : Int) < (l.length : Int) := by omega
        have HF2 := Lib.hid (show cf l e = 0 from cf_out fun s hs => by
          have := HI.out.1 s (by rw [List.take_of_length_le (by omega)]; exact hs); omega)
        clear HI
        go_wp2_with fail
        go_ret2
        exact ⟨hbr, lo, false, rfl, by omega, fun h => (by cases h), fun _ => HF2.out⟩
set_option maxHeartbeats 1000000 in
theorem Coef_any (vp : Value) (p : Pol) (e : Int) (w : World) (hp : PolyV w vp p) (okp : okP p) : Calls Tryz.prog 45 #[vp, .int .i64 e] w fun en w' => en = .returned (.int .i64 (cf (p.getD []) e)) ∧ Below w.heap.size w w' := by
  have hl : (p.getD []).length ≤ 1000000000 ∧ Srt (p.getD []) := by
    cases p with
    | none => exact ⟨by simp, List.Pairwise.nil⟩
    | some l => have := okp.2.len okp.1; simp only [Option.getD_some]; exact ⟨by omega, okp.1.srt⟩
  obtain ⟨hl, hsr⟩ := hl
  have HSR := Lib.hid hsr
  obtain ⟨A, c, rfl, hx⟩ := hp
  have HX := Lib.hid (fun W (hb : Below w.heap.size w W) => hx.below hb)
  clear hx okp hsr
  generalize p.isNone = b1 at *
  generalize p.getD [] = l at *
  have hb : Below w.heap.size w (w.alloc (.cells #[.bool b1, .slice A l.length c] 40)) := (Below.refl _ _).alloc (Nat.le_refl _) _
  have qp := Arr.new w 40 [.bool b1, .slice A l.length c]
  change Arr (w.alloc (.cells #[.bool b1, .slice A l.length c] 40)) w.heap.size 40 [.bool b1, .slice A l.length c] at qp
  go_enter Tryz.func45, Tryz.ntmps45
  go_upto_region 1 with fail
  generalize (w.alloc (.cells #[.bool b1, .slice A l.length c] 40)) = w3 at *
  have y1 := qp.cell 1
  have HQ := Lib.hid qp
  have HBS := Lib.hid (bsf_any A c l e w3 (HX.out w3 hb) HSR.out hl)
  have HB := Lib.hid hb
  clear qp hb
  go_wp2_with fail
  refine HBS.out.mono ?_
  rintro en w4 ⟨hb4, i, ok, rfl, hi, h1, h2⟩
  have qp := HQ.out.below hb4 HQ.out.lt
  have y1 := qp.cell 1
  have HB4 := Lib.hid (HB.out.trans (hb4.mono HB.out.size))
  have HX4 := Lib.hid (HX.out w4 HB4.out)
  clear hb4 qp HBS
  cases ok with
  | false =>
    have HE := Lib.hid (h2 rfl)
    clear h1 h2
    go_wp2_with fail
    go_ret
    exact ⟨by rw [HE.out]; rfl, HB4.out⟩
  | true =>
    obtain ⟨hil, hie⟩ := h1 rfl
    have HE := Lib.hid (show cf l e = l[i].2 from by rw [← hie]; exact cf_mem HSR.out (List.getElem_mem hil))
    obtain ⟨b, o, rfl, _, y2, y3⟩ := HX4.out.at_ hil
    have z1 : (i : Int) < (l.length : Int) := by omega
    clear h1 h2 hie y2
    generalize l[i].2 = x at *
    go_wp2_with fail
    go_ret
    exact ⟨by rw [HE.out]; rfl, HB4.out⟩
end Go.Proofs.YtbkgpfalljgdcaaGreatDoor

namespace Go.Proofs.YtbkgpfalljgdcaaGreatDoor
set_option linter.unusedVariables false

def powG (p : Nat) : Nat → Nat → Nat → Nat → Nat
  | 0, r, _, _ => r
  | f + 1, r, a, e => if e = 0 then r else powG p f (if e % 2 = 1 then r * a % p else r) (a * a % p) (e / 2)
/-- the power, as the code finds it -/
def pwm (p a e : Nat) : Nat := powG p 64 1 a e
theorem powG_zero (p f r a : Nat) : powG p f r a 0 = r := by cases f <;> simp [powG]
theorem powG_succ {p f r a e : Nat} (h : e ≠ 0) : powG p (f + 1) r a e = powG p f (if e % 2 = 1 then r * a % p else r) (a * a % p) (e / 2) := by rw [powG, if_neg h]
theorem powG_eq {p : Nat} : ∀ (f r a e : Nat), e < 2 ^ f → powG p f r a e % p = r * a ^ e % p
  | 0, r, a, e, h => by
    have : e = 0 := by simpa using h
    subst this
    simp [powG]
  | f + 1, r, a, e, h => by
    by_cases h0 : e = 0
    · subst h0; rw [powG_zero]; simp
    · rw [powG_succ h0, powG_eq f _ _ _ (by rw [Nat.pow_succ] at h; omega)]
      have e1 : (a * a % p) ^ (e / 2) % p = (a * a) ^ (e / 2) % p := (Nat.pow_mod (a * a) (e / 2) p).symm
      have e2 : (a * a) ^ (e / 2) = a ^ (e / 2 * 2) := by rw [Nat.pow_mul', Nat.pow_two]
      by_cases h1 : e % 2 = 1
      · rw [if_pos h1, Nat.mul_mod, e1, Nat.mod_mod, ← Nat.mul_mod, e2, Nat.mul_assoc]
        congr 2
        rw [Nat.mul_comm a, ← Nat.pow_succ]
        congr 1; omega
      · rw [if_neg h1, Nat.mul_mod, e1, ← Nat.mul_mod, e2]
        congr 3; omega
theorem powG_lt {p : Nat} (hp : 0 < p) : ∀ (f r a e : Nat), r < p → powG p f r a e < p
  | 0, r, a, e, h => h
  | f + 1, r, a, e, h => by
    by_cases h0 : e = 0
    · subst h0; rw [powG_zero]; exact h
    · rw [powG_succ h0]
      refine powG_lt hp f _ _ _ ?_
      split
      · exact Nat.mod_lt _ hp
      · exact h
theorem pwm_eq {p a e : Nat} (hp : 1 < p) (h : e < 18446744073709551616) : pwm p a e = a ^ e % p := by
  have h1 := powG_eq (p := p) 64 1 a e h
  have h2 := powG_lt (show 0 < p by omega) 64 1 a e hp
  unfold pwm
  rw [Nat.mod_eq_of_lt h2, Nat.one_mul] at h1
  exact h1
theorem pwm_lt {p : Nat} (hp : 1 < p) (a e : Nat) : pwm p a e < p := powG_lt (by omega) 64 1 a e hp
/-- repeated squares -/
def mrIn (n : Nat) : Nat → Nat → Nat
  | 0, a => a
  | k + 1, a => if a = n - 1 then a else mrIn n k (a * a % n)
/-- the test of one base; s: the zeros at the end of n - 1 -/
def mrB (n s b : Nat) : Bool := let a := pwm n b ((n - 1) / 2 ^ s); (a == 1) || (mrIn n (s - 1) a == n - 1)
def mrL : List Nat := [2, 3, 5, 7, 11, 13, 17, 19, 23, 29, 31, 37]
def tzG : Nat → Nat → Nat
  | 0, _ => 0
  | f + 1, n => if n % 2 = 1 then 0 else tzG f (n / 2) + 1
def primeF (n : Nat) : Bool := mrL.all fun b => mrB n (tzG 64 (n - 1)) b
/-- the least base from b on whose power has the order 2^17 -/
def rtOk (n b : Nat) : Bool := pwm n (pwm n b ((n - 1) / 131072)) 65536 == n - 1
def cand (j : Nat) : Nat := 2305843009213562881 - j * 131072
/-- the fields: the prime, the root, the base that the root comes from -/
def fldT : List (Nat × Nat × Nat) := [(2305843009211596801, 1681162619342215248, 13), (2305843009210023937, 1308300859968897983, 5), (2305843009208713217, 185117037529818557, 3), (2305843009202159617, 1504684988245386521, 5), (2305843009201242113, 1033797205708045575, 3), (2305843009200586753, 297282434563275721, 5), (2305843009196916737, 1733940720819854913, 3), (2305843009195868161, 1454513390878286822, 7), (2305843009195343873, 1212150551465331670, 3), (2305843009191936001, 2239714130583617042, 11), (2305843009188003841, 1402290514279297422, 7), (2305843009186430977, 1618275819433083181, 5), (2305843009185120257, 499082563398438583, 3), (2305843009179353089, 1822406117319713703, 7), (2305843009176862721, 684739945855670472, 3), (2305843009175027713, 1202007952976670188, 5)]
def fldL : List (Nat × Nat) := fldT.map fun t => (t.1, t.2.1)
/-- how many fields come before the candidate j -/
def fldN (j : Nat) : Nat := (fldT.filter fun t => decide (cand j < t.1)).length
theorem fld_tab : ((List.range 295).all fun j => if primeF (cand j) then (fldL[fldN j]?.map (·.1)) == some (cand j) && fldN (j + 1) == fldN j + 1 else fldN (j + 1) == fldN j) = true := by decide +kernel
theorem fld_root : (fldT.all fun t => (pwm t.1 t.2.2 ((t.1 - 1) / 131072) == t.2.1) && rtOk t.1 t.2.2 && ((List.range t.2.2).all fun b => decide (b < 2) || !rtOk t.1 b)) = true := by decide +kernel
theorem fld_end : fldN 295 = 16 ∧ fldN 0 = 0 := by decide +kernel
end Go.Proofs.YtbkgpfalljgdcaaGreatDoor

namespace Go.Proofs.YtbkgpfalljgdcaaGreatDoor
set_option linter.unusedVariables false

/-- where the test fails, the digit is the quotient's -/
theorem kn_exit {u d y1 y0 q r : Nat} (hinv : q * y1 + r = u) (hub : (u * 4294967296 + d) / (y1 * 4294967296 + y0) ≤ q) (hy : 0 < y1) (ht : q * y0 ≤ 4294967296 * r + d) :
    (u * 4294967296 + d) / (y1 * 4294967296 + y0) = q := by
  apply Nat.le_antisymm hub
  rw [Nat.le_div_iff_mul_le (by omega), Nat.mul_add, ← Nat.mul_assoc]
  subst hinv
  generalize q * y1 = P at *
  generalize q * y0 = T at *
  omega
/-- where the rest has outgrown a digit, it is too -/
theorem kn_break {u d y1 y0 q r : Nat} (hinv : q * y1 + r = u) (hub : (u * 4294967296 + d) / (y1 * 4294967296 + y0) ≤ q) (hy : 0 < y1) (hq : q ≤ 4294967296) (h0 : y0 < 4294967296) (hr : 4294967296 ≤ r) :
    (u * 4294967296 + d) / (y1 * 4294967296 + y0) = q := by
  refine kn_exit hinv hub hy ?_
  have : q * y0 ≤ 4294967296 * 4294967296 := Nat.mul_le_mul hq (by omega)
  omega
/-- where the test holds, the digit is too great -/
theorem kn_more {u d y1 y0 q r : Nat} (hinv : q * y1 + r = u) (hu : u < y1 * 4294967296 + y0) (hd : d < 4294967296) (hy : 0 < y1)
    (ht : 4294967296 ≤ q ∨ 4294967296 * r + d < q * y0) : (u * 4294967296 + d) / (y1 * 4294967296 + y0) < q := by
  rcases ht with ht | ht
  · have hY : 0 < y1 * 4294967296 + y0 := by omega
    have aux : ∀ Y, 0 < Y → u < Y → (u * 4294967296 + d) / Y < 4294967296 := fun Y h1 h2 => (Nat.div_lt_iff_lt_mul h1).2 (by omega)
    exact Nat.lt_of_lt_of_le (aux _ hY hu) ht
  · rw [Nat.div_lt_iff_lt_mul (by omega), Nat.mul_add, ← Nat.mul_assoc]
    subst hinv
    generalize q * y1 = P at *
    generalize q * y0 = T at *
    omega
/-- the first guess -/
theorem kn_start {u d y1 y0 : Nat} (hu : u < y1 * 4294967296 + y0) (hd : d < 4294967296) (hy : 2147483648 ≤ y1) (h0 : y0 < 4294967296) :
    u / y1 * y1 + u % y1 = u ∧ (u * 4294967296 + d) / (y1 * 4294967296 + y0) ≤ u / y1 ∧ u / y1 ≤ 4294967297 := by
  refine ⟨by rw [Nat.mul_comm]; exact Nat.div_add_mod u y1, ?_, ?_⟩
  · have h1 : (u * 4294967296 + d) / (y1 * 4294967296 + y0) ≤ (u * 4294967296 + d) / (y1 * 4294967296) := Nat.div_le_div_left (by omega) (by omega)
    refine Nat.le_trans h1 ?_
    rw [Nat.mul_comm y1, ← Nat.div_div_eq_div_mul]
    rw [show (u * 4294967296 + d) / 4294967296 = u by omega]
    exact Nat.le_refl _
  · refine Nat.le_of_lt_succ ?_
    rw [Nat.div_lt_iff_lt_mul (by omega)]
    omega
/-- a step down keeps the sum -/
theorem kn_down {u y1 q r : Nat} (hinv : q * y1 + r = u) (hq : 0 < q) : (q - 1) * y1 + (r + y1) = u := by
  obtain ⟨q, rfl⟩ : ∃ k, q = k + 1 := ⟨q - 1, by omega⟩
  rw [Nat.add_sub_cancel]
  rw [Nat.succ_mul] at hinv
  omega
/-- the rest of the step, as the machine reckons it -/
theorem kn_rest {u d y1 y0 q : Nat} (hy : 0 < y1) (hY : y1 * 4294967296 + y0 < 18446744073709551616) (h : (u * 4294967296 + d) / (y1 * 4294967296 + y0) = q) :
    ((((u * 4294967296 + d : Nat) : Int) - ((q * (y1 * 4294967296 + y0) : Nat) : Int)) % 18446744073709551616) = (((u * 4294967296 + d) % (y1 * 4294967296 + y0) : Nat) : Int) := by
  have h1 := Nat.div_add_mod (u * 4294967296 + d) (y1 * 4294967296 + y0)
  have h2 := Nat.mod_lt (u * 4294967296 + d) (show 0 < y1 * 4294967296 + y0 by omega)
  rw [h, Nat.mul_comm] at h1
  generalize q * (y1 * 4294967296 + y0) = Q at *
  generalize (u * 4294967296 + d) % (y1 * 4294967296 + y0) = R at *
  omega
/-- two steps make the rest of the whole -/
theorem kn_two (u a b Y : Nat) : ((u * 4294967296 + a) % Y * 4294967296 + b) % Y = (u * 18446744073709551616 + a * 4294967296 + b) % Y := by
  rw [Nat.add_mod, Nat.mul_mod, Nat.mod_mod, ← Nat.mul_mod, ← Nat.add_mod]
  rw [show (u * 4294967296 + a) * 4294967296 + b = u * 18446744073709551616 + a * 4294967296 + b by omega]
/-- shifted numbers leave the shifted rest -/
theorem kn_shift (n y s : Nat) : (n * 2 ^ s) % (y * 2 ^ s) / 2 ^ s = n % y := by
  rw [Nat.mul_mod_mul_right, Nat.mul_div_cancel _ (Nat.two_pow_pos s)]
end Go.Proofs.YtbkgpfalljgdcaaGreatDoor

namespace Go.Proofs.YtbkgpfalljgdcaaGreatDoor
open Go.RowKit
set_option linter.unusedVariables false

/-- the half-edge k slots further -/
def turnN (h k : Nat) : Nat := h / 4 * 4 + (h % 4 + k) % 4

/-- is a half-edge outgoing? -/
def outB (S : List Int) (h : Nat) : Bool := if h % 4 = 1 then S[h / 4]?.getD 0 == 1 else if h % 4 = 2 then true else if h % 4 = 3 then S[h / 4]?.getD 0 == -1 else false
end Go.Proofs.YtbkgpfalljgdcaaGreatDoor
