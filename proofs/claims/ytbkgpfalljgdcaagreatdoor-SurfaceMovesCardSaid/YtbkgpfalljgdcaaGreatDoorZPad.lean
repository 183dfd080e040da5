/- laurent: within, the closure put of combine. -/
/- laurent.combine. -/
/- laurent: Add, Neg, Term, Zero, Big, Low, High. -/
import Derived.Test.YtbkgpfalljgdcaaGreatDoorZBld
import Derived.Shelf.Abstract
import Derived.StillTailTactics
import Derived.IntWalk
import Derived.Deep.LoopGhost
import Derived.Deep.RegionHeld3
import Derived.Deep.DeepCutAuto
import Derived.Deep.Cut
import Derived.Deep.QuietTactic
import Derived.BigQuiet
namespace Go.Proofs.YtbkgpfalljgdcaaGreatDoor
open Go.RowKit
set_option linter.unusedVariables false

/-- within -/
def wiB (v l : Int) : Bool := decide (-l ≤ v ∧ v ≤ l)
theorem within_any (v l : Int) (w : World) (h0 : 0 ≤ l) (h1 : l ≤ 1125899906842624) : Calls Tryz.prog 37 #[.int .i64 v, .int .i64 l] w fun e w' => e = .returned (.bool (wiB v l)) ∧ w = w' := by
  by_cases a : -l ≤ v
  · by_cases b : v ≤ l
    · have hf := Lib.hid (show wiB v l = true from decide_eq_true ⟨a, b⟩)
      go_enter Tryz.func37, Tryz.ntmps37
      go_wp2_with fail
      go_ret
      exact ⟨by rw [hf.out]; rfl, rfl⟩
    · have hf := Lib.hid (show wiB v l = false from decide_eq_false fun h => b h.2)
      go_enter Tryz.func37, Tryz.ntmps37
      go_wp2_with fail
      go_ret
      exact ⟨by rw [hf.out]; rfl, rfl⟩
  · have hf := Lib.hid (show wiB v l = false from decide_eq_false fun h => a h.1)
    go_enter Tryz.func37, Tryz.ntmps37
    go_wp2_with fail
    go_ret
    exact ⟨by rw [hf.out]; rfl, rfl⟩
/-- a closure of two integers that only computes -/
structure CloW (fw : FuncId) (f : Int → Int → Int) : Prop where
  eg : ∀ args W, (callFunc fw args).run Tryz.prog W = .ok (.enter fw args) W
  ca : ∀ (a b : Int) W, -1125899906842624 ≤ a → a ≤ 1125899906842624 → -1125899906842624 ≤ b → b ≤ 1125899906842624 → Calls Tryz.prog fw #[.int .i64 a, .int .i64 b] W fun e w' => e = .returned (.int .i64 (f a b)) ∧ W = w'
  f0 : f 0 0 = 0
  bd : ∀ a b : Int, -1125899906842624 ≤ a → a ≤ 1125899906842624 → -1125899906842624 ≤ b → b ≤ 1125899906842624 → -2251799813685248 ≤ f a b ∧ f a b ≤ 2251799813685248
theorem clo_neg : CloW 60 (fun _ b => -b) where
  eg := enters_of Tryz.func60 (by kernel_rfl) rfl
  ca := fun a b W h1 h2 h3 h4 => by
    go_enter Tryz.func60, Tryz.ntmps60
    go_wp2_with fail
    go_ret
    exact ⟨rfl, rfl⟩
  f0 := rfl
  bd := fun a b h1 h2 h3 h4 => ⟨by show _ ≤ -b; omega, by show -b ≤ _; omega⟩
/-- all blocks but some stand as they were -/
structure Oth (base : Nat) (L : List Nat) (s : Option Nat) (w w' : World) : Prop where
  below : Below base w w'
  keep : ∀ k, k < w.heap.size → k ∉ L → s ≠ some k → w'.heap[k]? = w.heap[k]?
theorem Oth.arr {base k : Nat} {L : List Nat} {s : Option Nat} {w w' : World} {t : TypeId} {cs : List Value} (h : Oth base L s w w') (ha : Arr w k t cs) (h1 : k ∉ L) (h2 : s ≠ some k) : Arr w' k t cs := (h.keep k ha.lt h1 h2).trans ha
set_option maxHeartbeats 2000000 in
set_option maxRecDepth 100000 in
theorem put_any (fw : FuncId) (f : Int → Int → Int) (hw : CloW fw f) (x a b : Int) (wb fb rb base : Nat) (ft : Bool) (s : Value) (R : List (Int × Int)) (w : World)
    (ha1 : -1125899906842624 ≤ a) (ha2 : a ≤ 1125899906842624) (hb1 : -1125899906842624 ≤ b) (hb2 : b ≤ 1125899906842624)
    (qw : Arr w wb 101 [.func (.func fw) #[] #[]]) (qf : Arr w fb 4 [.bool ft]) (qr : Arr w rb 40 [.bool false, s]) (hs : OwnT base w s R) (hR : R.length ≤ 10000000) (hbw : base ≤ fb) (hbr : base ≤ rb) (hbs : base ≤ w.heap.size) :
    Calls Tryz.prog 75 #[.int .i64 x, .int .i64 a, .int .i64 b, .pointer (some ⟨wb, 0, none⟩), .pointer (some ⟨fb, 0, none⟩), .pointer (some ⟨rb, 0, none⟩)] w fun e w' => e = .returned (.tuple #[]) ∧ ∃ s', OwnT base w' s' (putR R x (f a b)) ∧ Arr w' fb 4 [.bool (ft && wiB (f a b) 1125899906842624)] ∧ Arr w' rb 40 [.bool false, s'] ∧ Oth base [fb, rb] s.ownBlock w w' := by
  have HCA := Lib.hid (fun W => hw.ca a b W ha1 ha2 hb1 hb2)
  have hbd := hw.bd a b ha1 ha2 hb1 hb2
  have eg := hw.eg
  obtain ⟨v, hv⟩ : ∃ v, v = f a b := ⟨_, rfl⟩
  rw [← hv] at HCA hbd ⊢
  have HWI := Lib.hid (fun W => within_any v 1125899906842624 W (by omega) (by omega))
  obtain ⟨wv, hwv⟩ : ∃ z, z = wiB v 1125899906842624 := ⟨_, rfl⟩
  rw [← hwv] at HWI ⊢
  clear hv hwv ha1 ha2 hb1 hb2 hw
  have nf : fb ≠ wb := fun e => by
    rw [e] at qf
    unfold Arr at qf qw
    rw [qf] at qw
    injection qw with h
    injection h with _ h2 _
    exact absurd h2 (by decide)
  have nr : rb ≠ fb := fun e => by
    rw [e] at qr
    unfold Arr at qf qr
    rw [qf] at qr
    injection qr with h
    injection h with _ h2 _
    exact absurd h2 (by decide)
  have sf := hs.apart qf (by decide)
  have sr := hs.apart qr (by decide)
  have HS := Lib.hid hs
  have y0 := qw.cell 0
  have y1 := qf.cell 0
  have g1 := qf.frozen 0
  have h0 : ((v : Int) != 0) = !decide (v = 0) := by by_cases e : v = 0 <;> simp [e]
  clear h0
  have key : ∀ o : Bool, o = (ft && wv) → Arr (w.setCell ⟨fb, 0, none⟩ (.bool o)) fb 4 [.bool o] ∧ Arr (w.setCell ⟨fb, 0, none⟩ (.bool o)) rb 40 [.bool false, s] ∧ OwnT base (w.setCell ⟨fb, 0, none⟩ (.bool o)) s R ∧ Below base w (w.setCell ⟨fb, 0, none⟩ (.bool o)) ∧ (∀ k, k ≠ fb → (w.setCell ⟨fb, 0, none⟩ (.bool o)).heap[k]? = w.heap[k]?) ∧ (w.setCell ⟨fb, 0, none⟩ (.bool o)).heap.size = w.heap.size := fun o ho =>
    ⟨qf.set 0 _, qr.far (p := ⟨fb, 0, none⟩) nr _, hs.far (p := ⟨fb, 0, none⟩) sf _, (Below.refl _ _).setCell (p := ⟨fb, 0, none⟩) hbw _, fun k hk => Below.heap_setCell w ⟨fb, 0, none⟩ _ k hk, by simp⟩
  have KEY := Lib.hid key
  clear key hs qf qr qw
  by_cases e0 : v = 0
  · have z1 : ((v : Int) != 0) = false := by simp [e0]
    have hput := Lib.hid (show putR R x v = R from if_pos e0)
    clear e0
    cases ft with
    | true =>
      obtain ⟨a1, a2, a3, a4, a5, a6⟩ := KEY.out wv (by simp)
      have AA := Lib.hid (show ∃ s', OwnT base (w.setCell ⟨fb, 0, none⟩ (.bool wv)) s' (putR R x v) ∧ Arr (w.setCell ⟨fb, 0, none⟩ (.bool wv)) fb 4 [.bool (true && wv)] ∧ Arr (w.setCell ⟨fb, 0, none⟩ (.bool wv)) rb 40 [.bool false, s'] ∧ Oth base [fb, rb] s.ownBlock w (w.setCell ⟨fb, 0, none⟩ (.bool wv)) from ⟨s, by rw [hput.out]; exact a3, a1, a2, a4, fun k _ hk _ => a5 k (fun e => hk (by simp [e]))⟩)
      clear a1 a2 a3 a4 a5 a6
      go_enter Tryz.func75, Tryz.ntmps75
      go_wp2_with fail
      refine (HCA.out _).mono ?_
      rintro e w1 ⟨rfl, rfl⟩
      go_wp2_with (go_at_call 37; refine (HWI.out _).mono ?_; rintro e w1 ⟨rfl, rfl⟩)
      go_end0
      exact ⟨rfl, AA.out⟩
    | false =>
      obtain ⟨a1, a2, a3, a4, a5, a6⟩ := KEY.out false rfl
      have AA := Lib.hid (show ∃ s', OwnT base (w.setCell ⟨fb, 0, none⟩ (.bool false)) s' (putR R x v) ∧ Arr (w.setCell ⟨fb, 0, none⟩ (.bool false)) fb 4 [.bool (false && wv)] ∧ Arr (w.setCell ⟨fb, 0, none⟩ (.bool false)) rb 40 [.bool false, s'] ∧ Oth base [fb, rb] s.ownBlock w (w.setCell ⟨fb, 0, none⟩ (.bool false)) from ⟨s, by rw [hput.out]; exact a3, a1, a2, a4, fun k _ hk _ => a5 k (fun e => hk (by simp [e]))⟩)
      clear a1 a2 a3 a4 a5 a6
      go_enter Tryz.func75, Tryz.ntmps75
      go_wp2_with fail
      refine (HCA.out _).mono ?_
      rintro e w1 ⟨rfl, rfl⟩
      go_wp2_with fail
      go_end0
      exact ⟨rfl, AA.out⟩
  · have z1 : ((v : Int) != 0) = true := by simp [e0]
    have hput := Lib.hid (show putR R x v = R ++ [(x, v)] from if_neg e0)
    clear e0
    have fin : ∀ (o : Bool) (w1 w3 : World) (s' : Value), o = (ft && wv) → w1 = (w.setCell ⟨fb, 0, none⟩ (.bool o)) → OwnT base w3 s' (R ++ [(x, v)]) → Gr base (w1.alloc (.cells #[.int .i64 x, .int .i64 v] 67)) w3 s.ownBlock → Arr w3 rb 40 [.bool false, s] ∧ ∃ s'', OwnT base (w3.setCell ⟨rb, 1, none⟩ s') s'' (putR R x v) ∧ Arr (w3.setCell ⟨rb, 1, none⟩ s') fb 4 [.bool (ft && wv)] ∧ Arr (w3.setCell ⟨rb, 1, none⟩ s') rb 40 [.bool false, s''] ∧ Oth base [fb, rb] s.ownBlock w (w3.setCell ⟨rb, 1, none⟩ s') := by
      intro o w1 w3 s' ho hw1 hown hg
      obtain ⟨a1, a2, a3, a4, a5, a6⟩ := KEY.out o ho
      rw [← hw1] at a1 a2 a3 a4 a5 a6
      have b1 := a1.alloc (.cells #[.int .i64 x, .int .i64 v] 67)
      have b2 := a2.alloc (.cells #[.int .i64 x, .int .i64 v] 67)
      have c1 := (hg.keep fb b1.lt sf).trans b1
      have c2 := (hg.keep rb b2.lt sr).trans b2
      have q2 : Arr w3 rb 40 [.bool false, s] := c2
      refine ⟨q2, s', ?_, ?_, q2.set 1 _, ?_, ?_⟩
      · rw [hput.out]; exact hown.far (p := ⟨rb, 1, none⟩) (hown.apart q2 (by decide)) _
      · rw [← ho]; exact Arr.far (p := ⟨rb, 1, none⟩) (show Arr w3 fb 4 [.bool o] from c1) (fun e => nr e.symm) _
      · exact ((a4.alloc (by rw [a6]; exact hbs) _).trans hg.below).setCell (p := ⟨rb, 1, none⟩) hbr _
      · intro k hk hL hs
        have k1 : k ≠ fb := fun e => hL (by simp [e])
        have k2 : k ≠ rb := fun e => hL (by simp [e])
        rw [Below.heap_setCell w3 ⟨rb, 1, none⟩ s' k k2, hg.keep k (by simp; omega) hs, Below.heap_alloc _ _ _ (by omega), a5 k k1]
    have FIN := Lib.hid fin
    clear fin
    cases ft with
    | true =>
      obtain ⟨a1, a2, a3, a4, a5, a6⟩ := KEY.out wv (by simp)
      have O1 := Lib.hid (a3.below ((Below.refl _ _).alloc (Nat.le_refl _) (.cells #[.int .i64 x, .int .i64 v] 67)))
      have U1 := Lib.hid (show Arr ((w.setCell ⟨fb, 0, none⟩ (.bool wv)).alloc (.cells #[.int .i64 x, .int .i64 v] 67)) w.heap.size 67 (tc (x, v)) from Arr.newAt (w.setCell ⟨fb, 0, none⟩ (.bool wv)) 67 [.int .i64 x, .int .i64 v] w.heap.size (by simp))
      have x1 := a2.cell 1
      have x2 := a2.frozen 1
      clear a1 a2 a3 a4 a5 a6
      go_enter Tryz.func75, Tryz.ntmps75
      go_wp2_with fail
      refine (HCA.out _).mono ?_
      rintro e w1 ⟨rfl, rfl⟩
      go_wp2_with (first | (go_at_call 37; refine (HWI.out _).mono ?_; rintro e w1 ⟨rfl, rfl⟩) | (at_builtin; refine wpList_appT (m := (x, v)) rfl _ _ rfl rfl O1.out rfl U1.out (by omega) (Nat.le_trans hbs (by simp)) ?_; intro s' w3 hown hg; obtain ⟨r1, r2⟩ := FIN.out wv _ w3 s' (by simp) rfl hown hg; have R2 := Lib.hid r2; obtain ⟨A5, n5, c5, rfl⟩ := hown.form3; have u1 := r1.cell 1; have u2 := r1.frozen 1; clear r1 r2 hown hg))
      go_end0
      exact ⟨rfl, R2.out⟩
    | false =>
      obtain ⟨a1, a2, a3, a4, a5, a6⟩ := KEY.out false rfl
      have O1 := Lib.hid (a3.below ((Below.refl _ _).alloc (Nat.le_refl _) (.cells #[.int .i64 x, .int .i64 v] 67)))
      have U1 := Lib.hid (show Arr ((w.setCell ⟨fb, 0, none⟩ (.bool false)).alloc (.cells #[.int .i64 x, .int .i64 v] 67)) w.heap.size 67 (tc (x, v)) from Arr.newAt (w.setCell ⟨fb, 0, none⟩ (.bool false)) 67 [.int .i64 x, .int .i64 v] w.heap.size (by simp))
      have x1 := a2.cell 1
      have x2 := a2.frozen 1
      clear a1 a2 a3 a4 a5 a6
      go_enter Tryz.func75, Tryz.ntmps75
      go_wp2_with fail
      refine (HCA.out _).mono ?_
      rintro e w1 ⟨rfl, rfl⟩
      go_wp2_with ((at_builtin; refine wpList_appT (m := (x, v)) rfl _ _ rfl rfl O1.out rfl U1.out (by omega) (Nat.le_trans hbs (by simp)) ?_; intro s' w3 hown hg; obtain ⟨r1, r2⟩ := FIN.out false _ w3 s' rfl rfl hown hg; have R2 := Lib.hid r2; obtain ⟨A5, n5, c5, rfl⟩ := hown.form3; have u1 := r1.cell 1; have u2 := r1.frozen 1; clear r1 r2 hown hg))
      go_end0
      exact ⟨rfl, R2.out⟩
end Go.Proofs.YtbkgpfalljgdcaaGreatDoor

namespace Go.Proofs.YtbkgpfalljgdcaaGreatDoor
open Go.RowKit
set_option linter.unusedVariables false

theorem run_make_terms (n : Nat) (hn : n ≤ 10000000) (W : World) : ∃ cs, (Instr.makeSlice 38 (.int .i64 0) (.int .i64 (n : Int))).run Tryz.prog W = .ok (.slice (some ⟨W.heap.size, 0, none⟩) 0 n) (W.alloc (.cells cs 67)) ∧ cs.size = n * 2 := by
  obtain ⟨i, hi, hz, hs, hby⟩ := info_parts info_term
  have h := run_make (P := Tryz.prog) W 38 67 i _ Tryz.underlying38 hi hz .i64 .i64 0 (n : Int) (Int.le_refl _) (by omega) (by rw [hby]; omega) (by omega)
  refine ⟨_, h, ?_⟩
  rw [size_madeCells, hs]; omega
theorem Arr.drewW {w : World} {k : Nat} {t : TypeId} {cs : List Value} (h : Arr w k t cs) : Arr w.drew k t cs := h
/-- what combine returns -/
def CombR (f : Int → Int → Int) (p q : Pol) (w : World) (e : Ending) (w' : World) : Prop := ∃ v r, e = .returned v ∧ PolyV w' v r ∧ CombP f p q r ∧ Below w.heap.size w w'
/-- the state of combine's loop -/
structure CSt (w : World) (rb fb : Nat) (fw : FuncId) (A A2 : Option Addr) (c c2 : Nat) (lp lq : List (Int × Int)) (s : Value) (R : List (Int × Int)) (W : World) : Prop where
  own : OwnT (w.heap.size + 4) W s R
  rr : Arr W rb 40 [.bool false, s]
  ff : Arr W fb 4 [.bool (fitsB R)]
  pp : Arr W w.heap.size 40 [.bool false, .slice A lp.length c]
  qq : Arr W (w.heap.size + 1) 40 [.bool false, .slice A2 lq.length c2]
  ww : Arr W (w.heap.size + 2) 101 [.func (.func fw) #[] #[]]
  res : Arr W (w.heap.size + 3) 40 [.bool false, .slice none 0 0]
  bel : Below w.heap.size w W
  hrb : w.heap.size + 4 ≤ rb
  hfb : w.heap.size + 4 ≤ fb
section
variable {w W : World} {rb fb c c2 : Nat} {fw : FuncId} {A A2 : Option Addr} {lp lq R : List (Int × Int)} {s : Value} {f : Int → Int → Int}
theorem CSt.drewN (h : CSt w rb fb fw A A2 c c2 lp lq s R W) (n : Nat) : CSt w rb fb fw A A2 c c2 lp lq s R (W.drewN n) := ⟨h.own, h.rr, h.ff, h.pp, h.qq, h.ww, h.res, bdrewN h.bel n, h.hrb, h.hfb⟩
theorem CSt.drew (h : CSt w rb fb fw A A2 c c2 lp lq s R W) : CSt w rb fb fw A A2 c c2 lp lq s R W.drew := ⟨h.own, h.rr, h.ff, h.pp, h.qq, h.ww, h.res, h.bel.drew, h.hrb, h.hfb⟩
theorem CSt.put (h : CSt w rb fb fw A A2 c c2 lp lq s R W) (hw : CloW fw f) (x a b : Int) (ha1 : -1125899906842624 ≤ a) (ha2 : a ≤ 1125899906842624) (hb1 : -1125899906842624 ≤ b) (hb2 : b ≤ 1125899906842624) (hR : R.length ≤ 10000000) :
    Calls Tryz.prog 75 #[.int .i64 x, .int .i64 a, .int .i64 b, .pointer (some ⟨w.heap.size + 2, 0, none⟩), .pointer (some ⟨fb, 0, none⟩), .pointer (some ⟨rb, 0, none⟩)] W fun e w' => e = .returned (.tuple #[]) ∧ ∃ s', CSt w rb fb fw A A2 c c2 lp lq s' (putR R x (f a b)) w' := by
  have hs := h.res.lt
  refine (put_any fw f hw x a b (w.heap.size + 2) fb rb (w.heap.size + 4) (fitsB R) s R W ha1 ha2 hb1 hb2 h.ww h.ff h.rr h.own hR h.hfb h.hrb (by omega)).mono ?_
  rintro e w' ⟨rfl, s', h1, h2, h3, h4⟩
  have hb := h.hrb
  have hf := h.hfb
  have ap : ∀ k, k < w.heap.size + 4 → k ∉ [fb, rb] ∧ s.ownBlock ≠ some k := fun k hk => ⟨by simp; omega, fun e => by have := (h.own.lt k e).1; omega⟩
  refine ⟨rfl, s', h1, h3, ?_, h4.arr h.pp (ap _ (by omega)).1 (ap _ (by omega)).2, h4.arr h.qq (ap _ (by omega)).1 (ap _ (by omega)).2, h4.arr h.ww (ap _ (by omega)).1 (ap _ (by omega)).2, h4.arr h.res (ap _ (by omega)).1 (ap _ (by omega)).2, h.bel.trans (h4.below.mono (by omega)), hb, hf⟩
  rw [fitsB_put]; exact h2
end
/-- big in, big out -/
theorem comb_big {f : Int → Int → Int} {p q : Pol} (h : p = none ∨ q = none) : CombP f p q none := by
  rcases h with rfl | rfl
  · cases q <;> rfl
  · cases p <;> rfl
set_option maxHeartbeats 8000000 in
set_option maxRecDepth 100000 in
theorem combine_any (fw : FuncId) (f : Int → Int → Int) (hw : CloW fw f) (vp vq : Value) (p q : Pol) (w : World) (hp : PolyV w vp p) (hq : PolyV w vq q) (okp : okP p) (okq : okP q) :
    Calls Tryz.prog 59 #[vp, vq, .func (.func fw) #[] #[]] w (CombR f p q w) := by
  have HPV := Lib.hid (fun W (hb : Below w.heap.size w W) => hp.below hb)
  have HQV := Lib.hid (fun W (hb : Below w.heap.size w W) => hq.below hb)
  obtain ⟨A, c, rfl, hp1⟩ := hp
  obtain ⟨A2, c2, rfl, hq1⟩ := hq
  have HPT := Lib.hid (fun W (hb : Below w.heap.size w W) => hp1.below hb)
  have HQT := Lib.hid (fun W (hb : Below w.heap.size w W) => hq1.below hb)
  clear hp1 hq1 HPV HQV
  have hW : ∀ W, W = ((((w.alloc (.cells #[.bool p.isNone, .slice A (p.getD []).length c] 40)).alloc (.cells #[.bool q.isNone, .slice A2 (q.getD []).length c2] 40)).alloc (.cells #[.func (.func fw) #[] #[]] 101)).alloc (.cells #[.bool false, .slice none 0 0] 40)) → Arr W w.heap.size 40 [.bool p.isNone, .slice A (p.getD []).length c] ∧ Arr W (w.heap.size + 1) 40 [.bool q.isNone, .slice A2 (q.getD []).length c2] ∧ Arr W (w.heap.size + 2) 101 [.func (.func fw) #[] #[]] ∧ Arr W (w.heap.size + 3) 40 [.bool false, .slice none 0 0] ∧ Below w.heap.size w W ∧ W.heap.size = w.heap.size + 4 := by
    intro W hW
    subst hW
    exact ⟨(((Arr.new _ _ [_, _]).alloc _).alloc _).alloc _, ((Arr.newAt (w.alloc _) _ [_, _] _ (by simp)).alloc _).alloc _, (Arr.newAt ((w.alloc _).alloc _) _ [_] _ (by simp)).alloc _, Arr.newAt (((w.alloc _).alloc _).alloc _) _ [_, _] _ (by simp), ((((Below.refl _ _).alloc (Nat.le_refl _) _).alloc (by simp) _).alloc (by simp <;> omega) _).alloc (by simp <;> omega) _, by simp⟩
  go_enter Tryz.func59, Tryz.ntmps59
  go_upto_region 1 with fail
  generalize ((((w.alloc (.cells #[.bool p.isNone, .slice A (p.getD []).length c] 40)).alloc (.cells #[.bool q.isNone, .slice A2 (q.getD []).length c2] 40)).alloc (.cells #[.func (.func fw) #[] #[]] 101)).alloc (.cells #[.bool false, .slice none 0 0] 40)) = w3 at hW ⊢
  obtain ⟨qp, qq, qw, qr, hb3, hs3⟩ := hW w3 rfl
  clear hW
  have y0 := qp.cell 0
  have y1 := qp.cell 1
  have y2 := qq.cell 0
  have y3 := qq.cell 1
  cases p with
  | none =>
    have x0 := qr.cell 0
    have x1 := qr.cell 1
    have f0 := qr.frozen 0
    have f1 := qr.frozen 1
    have hres := Lib.hid ((qr.set 0 (.bool true)).set 1 (.slice none 0 0))
    go_wp2_with fail
    refine bodyPost_ret (v := .agg #[.bool true, .slice none 0 0]) (results_c Tryz.results59 _ _ (w.heap.size + 3) 40 _ _ rfl hres.out Tryz.underlying40 rfl info_poly) rfl ?_
    exact ⟨_, none, rfl, PolyV.big _, comb_big (.inl rfl), (hb3.setCell (p := ⟨w.heap.size + 3, 0, none⟩) (by simp) _).setCell (p := ⟨w.heap.size + 3, 1, none⟩) (by simp) _⟩
  | some lp =>
    cases q with
    | none =>
      have x0 := qr.cell 0
      have x1 := qr.cell 1
      have f0 := qr.frozen 0
      have f1 := qr.frozen 1
      have hres := Lib.hid ((qr.set 0 (.bool true)).set 1 (.slice none 0 0))
      go_wp2_with fail
      refine bodyPost_ret (v := .agg #[.bool true, .slice none 0 0]) (results_c Tryz.results59 _ _ (w.heap.size + 3) 40 _ _ rfl hres.out Tryz.underlying40 rfl info_poly) rfl ?_
      exact ⟨_, none, rfl, PolyV.big _, comb_big (.inr rfl), (hb3.setCell (p := ⟨w.heap.size + 3, 0, none⟩) (by simp) _).setCell (p := ⟨w.heap.size + 3, 1, none⟩) (by simp) _⟩
    | some lq =>
      obtain ⟨kp, limp⟩ := okp
      obtain ⟨kq, limq⟩ := okq
      have lp1 := limp.len kp
      have lq1 := limq.len kq
      have HEND := Lib.hid (fun R (h : Mrg f lp lq lp.length lq.length R) => comb_end hw.f0 h limp limq)
      have HCP := Lib.hid limp.co
      have HCQ := Lib.hid limq.co
      have HEP := Lib.hid limp.ex
      have HEQ := Lib.hid limq.ex
      have KP := Lib.hid kp.srt
      have KQ := Lib.hid kq.srt
      have HF0 := Lib.hid hw.f0
      have HST := Lib.hid (Mrg.start (p := lp) (q := lq) hw.f0)
      have HW := Lib.hid hw
      clear kp kq limp limq hw
      replace qp : Arr w3 w.heap.size 40 [.bool false, .slice A lp.length c] := qp
      replace qq : Arr w3 (w.heap.size + 1) 40 [.bool false, .slice A2 lq.length c2] := qq
      replace HPT : Hid (∀ W, Below w.heap.size w W → Tms W (.slice A lp.length c) lp) := HPT
      replace HQT : Hid (∀ W, Below w.heap.size w W → Tms W (.slice A2 lq.length c2) lq) := HQT
      clear y0 y1 y2 y3
      have y0 := qp.cell 0
      have y1 := qp.cell 1
      have y2 := qq.cell 0
      have y3 := qq.cell 1
      obtain ⟨N, hN⟩ : ∃ N, N = lp.length + lq.length := ⟨_, rfl⟩
      have e1 : (lp.length : Int) + (lq.length : Int) = (N : Int) := by omega
      obtain ⟨cs, hmk, hcs⟩ := run_make_terms N (by omega) w3
      have HN := Lib.hid hN
      have HCS := Lib.hid hcs
      have HS3 := Lib.hid hs3
      clear hN hcs hs3
      go_upto_region 6 with fail
      have hX : ∀ W, W = ((w3.alloc (.cells cs 67)).alloc (.cells #[.bool false, .slice (some ⟨w3.heap.size, 0, none⟩) 0 N] 40)).alloc (.cells #[.bool true] 4) → Arr W w.heap.size 40 [.bool false, .slice A lp.length c] ∧ Arr W (w.heap.size + 1) 40 [.bool false, .slice A2 lq.length c2] ∧ Arr W (w.heap.size + 2) 101 [.func (.func fw) #[] #[]] ∧ Arr W (w.heap.size + 3) 40 [.bool false, .slice none 0 0] ∧ OwnT (w.heap.size + 4) W (.slice (some ⟨w3.heap.size, 0, none⟩) 0 N) [] ∧ Arr W (w3.heap.size + 1) 40 [.bool false, .slice (some ⟨w3.heap.size, 0, none⟩) 0 N] ∧ Arr W (w3.heap.size + 2) 4 [.bool true] ∧ Below w.heap.size w W ∧ W.heap.size = w3.heap.size + 3 := by
        intro W hW
        subst hW
        refine ⟨((qp.alloc _).alloc _).alloc _, ((qq.alloc _).alloc _).alloc _, ((qw.alloc _).alloc _).alloc _, ((qr.alloc _).alloc _).alloc _, ?_, (Arr.newAt (w3.alloc _) _ [_, _] _ (by simp)).alloc _, Arr.newAt ((w3.alloc _).alloc _) _ [_] _ (by simp), ((hb3.alloc (Nat.le_of_lt (Nat.lt_of_lt_of_le (Nat.lt_succ_self _) (by rw [HS3.out]; omega))) _).alloc (by simp; rw [HS3.out]; omega) _).alloc (by simp; rw [HS3.out]; omega) _, by simp⟩
        have h1 : OwnT (w.heap.size + 4) (w3.alloc (.cells cs 67)) (.slice (some ⟨w3.heap.size, 0, none⟩) 0 N) [] := ⟨rfl, .inr ⟨w3.heap.size, N, cs, rfl, by rw [HS3.out]; omega, heap_alloc_new w3 _, Nat.zero_le _, by have := HN.out; unfold maxLen; omega, HCS.out, rfl⟩⟩
        exact (h1.below ((Below.refl _ _).alloc (Nat.le_refl _) _)).below ((Below.refl _ _).alloc (Nat.le_refl _) _)
      generalize (((w3.alloc (.cells cs 67)).alloc (.cells #[.bool false, .slice (some ⟨w3.heap.size, 0, none⟩) 0 N] 40)).alloc (.cells #[.bool true] 4)) = w6 at hX ⊢
      obtain ⟨p6, q6, u6, r6, s6, rb6, fb6, hb6, hs6⟩ := hX w6 rfl
      clear hX qp qq qw qr hb3 y0 y1 y2 y3 hmk HCS HN e1
      have hs3 := HS3.out
      have HS6 := Lib.hid hs6
      clear hs6
      generalize (Value.slice (some ⟨w3.heap.size, 0, none⟩) 0 N) = s0 at *
      have hst0 : CSt w (w3.heap.size + 1) (w3.heap.size + 2) fw A A2 c c2 lp lq s0 [] w6 := ⟨s6, rb6, fb6, p6, q6, u6, r6, hb6, by omega, by omega⟩
      go_wp2_with fail
      clear s6 rb6 fb6 p6 q6 u6 r6 hb6 HS6 hs3 HS3
      go_loopg [10, 11] (lp.length + lq.length) (fun gk s10 s11 wr => ∃ (i j : Nat) (R : List (Int × Int)) (s : Value), i ≤ lp.length ∧ j ≤ lq.length ∧ gk = (lp.length - i) + (lq.length - j) ∧ s10 = .int .i64 (i : Int) ∧ s11 = .int .i64 (j : Int) ∧ Hid (Mrg f lp lq i j R) ∧ CSt w (w3.heap.size + 1) (w3.heap.size + 2) fw A A2 c c2 lp lq s R wr)
      case atStart => exact ⟨0, 0, [], s0, Nat.zero_le _, Nat.zero_le _, by omega, rfl, rfl, HST, hst0⟩
      case round =>
        clear HST hst0
        obtain ⟨i, j, R, s, hi, hj, rfl, rfl, rfl, HM, hst⟩ := hrel
        have hR : R.length ≤ 10000000 := by have := HM.out.len; omega
        have HBL := Lib.hid hst.bel
        have y0 := hst.pp.cell 1
        have y1 := hst.qq.cell 1
        by_cases hlp : i < lp.length
        · have z1 : (i : Int) < (lp.length : Int) := by omega
          obtain ⟨b, o, hA, _, _, _⟩ := (HPT.out wr hst.bel).at_ hlp
          subst hA
          have CP0 := Lib.hid (fun W (hb : Below w.heap.size w W) => (HPT.out W hb).cells hlp)
          have hpe := HEP.out _ (List.getElem_mem hlp)
          have hpc := HCP.out _ (List.getElem_mem hlp)
          have c0 := (CP0.out wr hst.bel).1
          have c1 := (CP0.out wr hst.bel).2
          have zi : ((i : Int) == (lp.length : Int)) = false := by simp; omega
          by_cases hlq : j < lq.length
          · have z2 : (j : Int) < (lq.length : Int) := by omega
            obtain ⟨b2, o2, hA2, _, _, _⟩ := (HQT.out wr hst.bel).at_ hlq
            subst hA2
            have CQ0 := Lib.hid (fun W (hb : Below w.heap.size w W) => (HQT.out W hb).cells hlq)
            have hqe := HEQ.out _ (List.getElem_mem hlq)
            have hqc := HCQ.out _ (List.getElem_mem hlq)
            have d0 := (CQ0.out wr hst.bel).1
            have d1 := (CQ0.out wr hst.bel).2
            have zj : ((j : Int) == (lq.length : Int)) = false := by simp; omega
            rcases Int.lt_trichotomy lp[i].1 lq[j].1 with hlt | hlt | hlt
            · have MR := Lib.hid (HM.out.left HF0.out KP.out KQ.out hlp (Mrg.lt_right KQ.out hlq hlt))
              generalize lp[i].1 = pe at *
              generalize lp[i].2 = pc at *
              generalize lq[j].1 = qe at *
              generalize lq[j].2 = qc at *
              clear HM HEND HPT HQT KP KQ HCP HCQ HEP HEQ HF0
              go_wp2_with fail
              go_quiet (fail)
              clear y0 y1 c0 c1 d0 d1
              replace hst := hst.drewN nq
              generalize wr.drewN nq = wr0 at hst ⊢
              clear nq
              have y0 := hst.pp.cell 1
              have y1 := hst.qq.cell 1
              have c0 := (CP0.out wr0 hst.bel).1
              have c1 := (CP0.out wr0 hst.bel).2
              have d0 := (CQ0.out wr0 hst.bel).1
              have d1 := (CQ0.out wr0 hst.bel).2
              go_wp2_with fail
              go_still_tail 13, (by kernel_rfl)
              change wpList _ _ _ _ _ wr0.drew
              clear y0 y1 c0 c1 d0 d1
              replace hst := hst.drew
              generalize wr0.drew = wz at hst ⊢
              have y0 := hst.pp.cell 1
              have y1 := hst.qq.cell 1
              have c0 := (CP0.out wz hst.bel).1
              have c1 := (CP0.out wz hst.bel).2
              have d0 := (CQ0.out wz hst.bel).1
              have d1 := (CQ0.out wz hst.bel).2
              go_wp2_with fail
              have HC := Lib.hid (hst.put HW.out pe pc 0 (by omega) (by omega) (by omega) (by omega) hR)
              refine Calls.mono HC.out ?_
              rintro e w5 ⟨rfl, s', hst5⟩
              clear y0 y1 c0 c1 d0 d1 hst
              go_wp2_with fail
              go_roundg ((lp.length - (i + 1)) + (lq.length - (j)))
              case measure => omega
              case rel => exact ⟨i + 1, j, _, s', by omega, by omega, rfl, by first | rfl | go_num, by first | rfl | go_num, MR, hst5⟩
            · have MR := Lib.hid (HM.out.both HF0.out KP.out KQ.out hlp hlq hlt)
              have n1 : ¬ (lp[i].1 < lq[j].1) := by omega
              have n2 : ¬ (lq[j].1 < lp[i].1) := by omega
              clear hlt
              generalize lp[i].1 = pe at *
              generalize lp[i].2 = pc at *
              generalize lq[j].1 = qe at *
              generalize lq[j].2 = qc at *
              clear HM HEND HPT HQT KP KQ HCP HCQ HEP HEQ HF0
              go_wp2_with fail
              go_quiet (fail)
              clear y0 y1 c0 c1 d0 d1
              replace hst := hst.drewN nq
              generalize wr.drewN nq = wr0 at hst ⊢
              clear nq
              have y0 := hst.pp.cell 1
              have y1 := hst.qq.cell 1
              have c0 := (CP0.out wr0 hst.bel).1
              have c1 := (CP0.out wr0 hst.bel).2
              have d0 := (CQ0.out wr0 hst.bel).1
              have d1 := (CQ0.out wr0 hst.bel).2
              go_wp2_with fail
              go_quiet (fail)
              clear y0 y1 c0 c1 d0 d1
              replace hst := hst.drewN nq
              generalize wr0.drewN nq = wr1 at hst ⊢
              clear nq
              have y0 := hst.pp.cell 1
              have y1 := hst.qq.cell 1
              have c0 := (CP0.out wr1 hst.bel).1
              have c1 := (CP0.out wr1 hst.bel).2
              have d0 := (CQ0.out wr1 hst.bel).1
              have d1 := (CQ0.out wr1 hst.bel).2
              go_wp2_with fail
              go_still_tail 19, (by kernel_rfl)
              change wpList _ _ _ _ _ wr1.drew
              clear y0 y1 c0 c1 d0 d1
              replace hst := hst.drew
              generalize wr1.drew = wz at hst ⊢
              have y0 := hst.pp.cell 1
              have y1 := hst.qq.cell 1
              have c0 := (CP0.out wz hst.bel).1
              have c1 := (CP0.out wz hst.bel).2
              have d0 := (CQ0.out wz hst.bel).1
              have d1 := (CQ0.out wz hst.bel).2
              go_wp2_with fail
              have HC := Lib.hid (hst.put HW.out pe pc qc (by omega) (by omega) (by omega) (by omega) hR)
              refine Calls.mono HC.out ?_
              rintro e w5 ⟨rfl, s', hst5⟩
              clear y0 y1 c0 c1 d0 d1 hst
              go_wp2_with fail
              go_roundg ((lp.length - (i + 1)) + (lq.length - (j + 1)))
              case measure => omega
              case rel => exact ⟨i + 1, j + 1, _, s', by omega, by omega, rfl, by first | rfl | go_num, by first | rfl | go_num, MR, hst5⟩
            · have MR := Lib.hid (HM.out.right HF0.out KP.out KQ.out hlq (Mrg.lt_right KP.out hlp hlt))
              have n1 : ¬ (lp[i].1 < lq[j].1) := by omega
              generalize lp[i].1 = pe at *
              generalize lp[i].2 = pc at *
              generalize lq[j].1 = qe at *
              generalize lq[j].2 = qc at *
              clear HM HEND HPT HQT KP KQ HCP HCQ HEP HEQ HF0
              go_wp2_with fail
              go_quiet (fail)
              clear y0 y1 c0 c1 d0 d1
              replace hst := hst.drewN nq
              generalize wr.drewN nq = wr0 at hst ⊢
              clear nq
              have y0 := hst.pp.cell 1
              have y1 := hst.qq.cell 1
              have c0 := (CP0.out wr0 hst.bel).1
              have c1 := (CP0.out wr0 hst.bel).2
              have d0 := (CQ0.out wr0 hst.bel).1
              have d1 := (CQ0.out wr0 hst.bel).2
              go_wp2_with fail
              go_quiet (fail)
              clear y0 y1 c0 c1 d0 d1
              replace hst := hst.drewN nq
              generalize wr0.drewN nq = wr1 at hst ⊢
              clear nq
              have y0 := hst.pp.cell 1
              have y1 := hst.qq.cell 1
              have c0 := (CP0.out wr1 hst.bel).1
              have c1 := (CP0.out wr1 hst.bel).2
              have d0 := (CQ0.out wr1 hst.bel).1
              have d1 := (CQ0.out wr1 hst.bel).2
              go_wp2_with fail
              go_still_tail 13, (by kernel_rfl)
              change wpList _ _ _ _ _ wr1.drew
              clear y0 y1 c0 c1 d0 d1
              replace hst := hst.drew
              generalize wr1.drew = wz at hst ⊢
              have y0 := hst.pp.cell 1
              have y1 := hst.qq.cell 1
              have c0 := (CP0.out wz hst.bel).1
              have c1 := (CP0.out wz hst.bel).2
              have d0 := (CQ0.out wz hst.bel).1
              have d1 := (CQ0.out wz hst.bel).2
              go_wp2_with fail
              have HC := Lib.hid (hst.put HW.out qe 0 qc (by omega) (by omega) (by omega) (by omega) hR)
              refine Calls.mono HC.out ?_
              rintro e w5 ⟨rfl, s', hst5⟩
              clear y0 y1 c0 c1 d0 d1 hst
              go_wp2_with fail
              go_roundg ((lp.length - (i)) + (lq.length - (j + 1)))
              case measure => omega
              case rel => exact ⟨i, j + 1, _, s', by omega, by omega, rfl, by first | rfl | go_num, by first | rfl | go_num, MR, hst5⟩
          · obtain rfl : j = lq.length := by omega
            clear hlq hj
            have MR := Lib.hid (HM.out.left HF0.out KP.out KQ.out hlp (fun s hs => by rw [List.drop_length] at hs; cases hs))
            generalize lp[i].1 = pe at *
            generalize lp[i].2 = pc at *
            clear HM HEND HPT HQT KP KQ HCP HCQ HEP HEQ HF0
            go_wp2_with fail
            go_quiet (fail)
            clear y0 y1 c0 c1
            replace hst := hst.drewN nq
            generalize wr.drewN nq = wr0 at hst ⊢
            clear nq
            have y0 := hst.pp.cell 1
            have y1 := hst.qq.cell 1
            have c0 := (CP0.out wr0 hst.bel).1
            have c1 := (CP0.out wr0 hst.bel).2
            go_wp2_with fail
            go_still_tail 13, (by kernel_rfl)
            change wpList _ _ _ _ _ wr0.drew
            clear y0 y1 c0 c1
            replace hst := hst.drew
            generalize wr0.drew = wz at hst ⊢
            have y0 := hst.pp.cell 1
            have y1 := hst.qq.cell 1
            have c0 := (CP0.out wz hst.bel).1
            have c1 := (CP0.out wz hst.bel).2
            go_wp2_with fail
            have HC := Lib.hid (hst.put HW.out pe pc 0 (by omega) (by omega) (by omega) (by omega) hR)
            refine Calls.mono HC.out ?_
            rintro e w5 ⟨rfl, s', hst5⟩
            clear y0 y1 c0 c1 hst
            go_wp2_with fail
            go_roundg ((lp.length - (i + 1)) + (lq.length - (lq.length)))
            case measure => omega
            case rel => exact ⟨i + 1, lq.length, _, s', by omega, by omega, rfl, by first | rfl | go_num, by first | rfl | go_num, MR, hst5⟩
        · obtain rfl : i = lp.length := by omega
          clear hlp hi
          have z1 : ¬ ((lp.length : Int) < (lp.length : Int)) := by omega
          by_cases hlq : j < lq.length
          · have z2 : (j : Int) < (lq.length : Int) := by omega
            obtain ⟨b2, o2, hA2, _, _, _⟩ := (HQT.out wr hst.bel).at_ hlq
            subst hA2
            have CQ0 := Lib.hid (fun W (hb : Below w.heap.size w W) => (HQT.out W hb).cells hlq)
            have hqe := HEQ.out _ (List.getElem_mem hlq)
            have hqc := HCQ.out _ (List.getElem_mem hlq)
            have d0 := (CQ0.out wr hst.bel).1
            have d1 := (CQ0.out wr hst.bel).2
            have zj : ((j : Int) == (lq.length : Int)) = false := by simp; omega
            have MR := Lib.hid (HM.out.right HF0.out KP.out KQ.out hlq (fun s hs => by rw [List.drop_length] at hs; cases hs))
            generalize lq[j].1 = qe at *
            generalize lq[j].2 = qc at *
            clear HM HEND HPT HQT KP KQ HCP HCQ HEP HEQ HF0
            go_wp2_with fail
            go_quiet (fail)
            clear y0 y1 d0 d1
            replace hst := hst.drewN nq
            generalize wr.drewN nq = wr0 at hst ⊢
            clear nq
            have y0 := hst.pp.cell 1
            have y1 := hst.qq.cell 1
            have d0 := (CQ0.out wr0 hst.bel).1
            have d1 := (CQ0.out wr0 hst.bel).2
            go_wp2_with fail
            go_quiet (fail)
            clear y0 y1 d0 d1
            replace hst := hst.drewN nq
            generalize wr0.drewN nq = wr1 at hst ⊢
            clear nq
            have y0 := hst.pp.cell 1
            have y1 := hst.qq.cell 1
            have d0 := (CQ0.out wr1 hst.bel).1
            have d1 := (CQ0.out wr1 hst.bel).2
            go_wp2_with fail
            go_still_tail 13, (by kernel_rfl)
            change wpList _ _ _ _ _ wr1.drew
            clear y0 y1 d0 d1
            replace hst := hst.drew
            generalize wr1.drew = wz at hst ⊢
            have y0 := hst.pp.cell 1
            have y1 := hst.qq.cell 1
            have d0 := (CQ0.out wz hst.bel).1
            have d1 := (CQ0.out wz hst.bel).2
            go_wp2_with fail
            have HC := Lib.hid (hst.put HW.out qe 0 qc (by omega) (by omega) (by omega) (by omega) hR)
            refine Calls.mono HC.out ?_
            rintro e w5 ⟨rfl, s', hst5⟩
            clear y0 y1 d0 d1 hst
            go_wp2_with fail
            go_roundg ((lp.length - (lp.length)) + (lq.length - (j + 1)))
            case measure => omega
            case rel => exact ⟨lp.length, j + 1, _, s', by omega, by omega, rfl, by first | rfl | go_num, by first | rfl | go_num, MR, hst5⟩
          · obtain rfl : j = lq.length := by omega
            have HE := Lib.hid (HEND.out R HM.out)
            clear HM HEND HPT HQT KP KQ HCP HCQ HEP HEQ HF0 HW hlq hj
            have zz : ¬ ((lq.length : Int) < (lq.length : Int)) := by omega
            have b0 := hst.ff.cell 0
            have x0 := hst.res.cell 0
            have x1 := hst.res.cell 1
            have f0 := hst.res.frozen 0
            have f1 := hst.res.frozen 1
            cases hfb : fitsB R with
            | false =>
              rw [hfb] at HE b0
              clear hfb
              have hres := Lib.hid ((hst.res.set 0 (.bool true)).set 1 (.slice none 0 0))
              have hbel := hst.bel
              clear hst
              go_wp2_with fail
              refine bodyPost_ret (v := .agg #[.bool true, .slice none 0 0]) (results_c Tryz.results59 _ _ (w.heap.size + 3) 40 _ _ rfl hres.out Tryz.underlying40 rfl info_poly) rfl ?_
              exact ⟨_, none, rfl, PolyV.big _, HE.out, (hbel.setCell (p := ⟨w.heap.size + 3, 0, none⟩) (by simp) _).setCell (p := ⟨w.heap.size + 3, 1, none⟩) (by simp) _⟩
            | true =>
              rw [hfb] at HE b0
              clear hfb
              have ho := hst.own
              have a1 := ho.apart hst.res (by decide)
              have PV := Lib.hid (fun u1 u2 => PolyV.own ((ho.far (p := ⟨w.heap.size + 3, 0, none⟩) a1 u1).far (p := ⟨w.heap.size + 3, 1, none⟩) a1 u2))
              have r0 := hst.rr.cell 0
              have r1 := hst.rr.cell 1
              have hbel := hst.bel
              have hrs := hst.res
              obtain ⟨B5, n5, c5, rfl⟩ := ho.form3
              have hres := Lib.hid ((hrs.set 0 (.bool false)).set 1 (.slice B5 n5 c5))
              clear hst ho a1 hrs
              go_wp2_with fail
              refine bodyPost_ret (v := .agg #[.bool false, .slice B5 n5 c5]) (results_c Tryz.results59 _ _ (w.heap.size + 3) 40 _ _ rfl hres.out Tryz.underlying40 rfl info_poly) rfl ?_
              exact ⟨_, some R, rfl, PV.out _ _, HE.out, (hbel.setCell (p := ⟨w.heap.size + 3, 0, none⟩) (by simp) _).setCell (p := ⟨w.heap.size + 3, 1, none⟩) (by simp) _⟩
end Go.Proofs.YtbkgpfalljgdcaaGreatDoor

namespace Go.Proofs.YtbkgpfalljgdcaaGreatDoor
open Go.RowKit
set_option linter.unusedVariables false

/-- terms are integers: they lie in no box of a polynomial -/
theorem Tms.box {w : World} {v : Value} {l : List (Int × Int)} {g : Nat} {t : TypeId} {b : Bool} {A : Option Addr} {n c : Nat} (h : Tms w v l) (hg : Arr w g t [.bool b, .slice A n c]) (u1 u2 : Value) : Tms ((w.setCell ⟨g, 0, none⟩ u1).setCell ⟨g, 1, none⟩ u2) v l := by
  obtain ⟨A', c', hv, hx⟩ := h
  refine ⟨A', c', hv, fun k hk => ?_⟩
  obtain ⟨b', o', hA, h1, h2, cs3, fr3, h3⟩ := hx k hk
  have ne : g ≠ b' := fun e => by
    subst e
    rw [hg.cell] at h1
    rcases (by omega : o' + k * 2 = 0 ∨ o' + k * 2 = 1 ∨ 2 ≤ o' + k * 2) with q | q | q
    · rw [q] at h1; injection h1 with h1; cases h1
    · rw [q] at h1; injection h1 with h1; cases h1
    · rw [List.getElem?_eq_none (by simpa using q)] at h1; cases h1
  refine ⟨b', o', hA, ?_, ?_, cs3, fr3, (Below.heap_setCell _ _ _ b' (Ne.symm ne)).trans ((Below.heap_setCell _ _ _ b' (Ne.symm ne)).trans h3)⟩
  · rw [World.cell?_setCell_far _ _ _ _ ne, World.cell?_setCell_far _ _ _ _ ne]; exact h1
  · rw [World.cell?_setCell_far _ _ _ _ ne, World.cell?_setCell_far _ _ _ _ ne]; exact h2
theorem PolyV.box {w : World} {v : Value} {p : Pol} {g : Nat} {t : TypeId} {b : Bool} {A : Option Addr} {n c : Nat} (h : PolyV w v p) (hg : Arr w g t [.bool b, .slice A n c]) (u1 u2 : Value) : PolyV ((w.setCell ⟨g, 0, none⟩ u1).setCell ⟨g, 1, none⟩ u2) v p := by
  obtain ⟨A', c', hv, hx⟩ := h
  exact ⟨A', c', hv, hx.box hg u1 u2⟩
/-- a polynomial's parts under names of their own -/
theorem PolyV.parts {w : World} {v : Value} {p : Pol} (h : PolyV w v p) : ∃ (b : Bool) (A : Option Addr) (n c : Nat), v = .agg #[.bool b, .slice A n c] ∧ b = p.isNone ∧ n = (p.getD []).length := by
  obtain ⟨A, c, hv, _⟩ := h
  exact ⟨_, A, _, c, hv, rfl, rfl⟩
set_option maxHeartbeats 1000000 in
set_option maxRecDepth 100000 in
theorem Neg_any (vp : Value) (p : Pol) (w : World) (hp : PolyV w vp p) (okp : okP p) :
    Calls Tryz.prog 47 #[vp] w (CombR (fun _ b => -b) (some []) p w) := by
  have HC := Lib.hid (fun W (hb : Below w.heap.size w W) => combine_any 60 _ clo_neg (.agg #[.bool false, .slice none 0 0]) vp (some []) p W (PolyV.zero W) (hp.below hb) ⟨Can.nil, Lim.nil⟩ okp)
  obtain ⟨b1, A, n, c, rfl, j1, j2⟩ := hp.parts

  clear hp okp j1 j2
  have hW : ∀ W, W = ((w.alloc (.cells #[.bool b1, .slice A n c] 40)).alloc (.cells #[.bool false, .slice none 0 0] 40)) → Arr W w.heap.size 40 [.bool b1, .slice A n c] ∧ Arr W (w.heap.size + 1) 40 [.bool false, .slice none 0 0] ∧ Below w.heap.size w W := by
    intro W hW
    subst hW
    exact ⟨(Arr.new _ _ [_, _]).alloc _, Arr.newAt (w.alloc _) _ [_, _] _ (by simp), ((Below.refl _ _).alloc (Nat.le_refl _) _).alloc (by simp) _⟩
  go_enter Tryz.func47, Tryz.ntmps47
  go_upto_region 1 with fail
  generalize ((w.alloc (.cells #[.bool b1, .slice A n c] 40)).alloc (.cells #[.bool false, .slice none 0 0] 40)) = w3 at hW ⊢
  obtain ⟨qp, qr, hb3⟩ := hW w3 rfl
  clear hW
  have y0 := qp.cell 0
  have y1 := qp.cell 1

  have HC3 := Lib.hid (HC.out w3 hb3)
  clear HC
  go_wp2_with fail
  ((with_reducible refine HC3.out.mono ?_); skip)
  rintro e w4 ⟨v, r, rfl, hv, hr, hb4⟩
  have q4 := qr.below hb4 qr.lt
  have hb4' := hb3.trans (hb4.mono hb3.size)
  have HV := Lib.hid (fun u1 u2 => hv.box q4 u1 u2)
  have HR := Lib.hid hr
  obtain ⟨b5, A5, n5, c5, rfl, j5, j6⟩ := hv.parts
  clear j5 j6 hv hr y0 y1 qp qr HC3
  have x0 := q4.cell 0
  have x1 := q4.cell 1
  have f0 := q4.frozen 0
  have f1 := q4.frozen 1
  have hres := Lib.hid ((q4.set 0 (.bool b5)).set 1 (.slice A5 n5 c5))
  go_wp2_with fail
  refine bodyPost_ret (v := .agg #[.bool b5, .slice A5 n5 c5]) (results_c Tryz.results47 _ _ (w.heap.size + 1) 40 _ _ rfl hres.out Tryz.underlying40 rfl info_poly) rfl ?_
  exact ⟨_, r, rfl, HV.out _ _, HR.out, (hb4'.setCell (p := ⟨w.heap.size + 1, 0, none⟩) (by simp) _).setCell (p := ⟨w.heap.size + 1, 1, none⟩) (by simp) _⟩
set_option maxHeartbeats 1000000 in
theorem Big_any (vp : Value) (p : Pol) (w : World) (hp : PolyV w vp p) : Calls Tryz.prog 42 #[vp] w fun e w' => e = .returned (.bool p.isNone) ∧ Below w.heap.size w w' := by
  obtain ⟨b1, A, n, c, rfl, hb, _⟩ := hp.parts
  rw [← hb]
  clear hp hb
  go_enter Tryz.func42, Tryz.ntmps42
  go_wp2_with fail
  go_ret
  exact ⟨rfl, (Below.refl _ _).alloc (Nat.le_refl _) _⟩
/-- the polynomial 0 -/
def zeroB : Pol → Bool
  | some [] => true
  | _ => false
set_option maxHeartbeats 1000000 in
theorem Zero_any (vp : Value) (p : Pol) (w : World) (hp : PolyV w vp p) (okp : okP p) : Calls Tryz.prog 44 #[vp] w fun e w' => e = .returned (.bool (zeroB p)) ∧ Below w.heap.size w w' := by
  obtain ⟨b1, A, n, c, rfl, hb, hn⟩ := hp.parts
  have hz : zeroB p = (!b1 && (n : Int) == 0) := by
    rw [hb, hn]
    cases p with
    | none => rfl
    | some l => cases l with
      | nil => rfl
      | cons t l =>
        have : (((l.length + 1 : Nat) : Int) == 0) = false := by simp; omega
        show false = (!false && (((l.length + 1 : Nat) : Int) == 0))
        rw [this]; rfl
  rw [hz]
  clear hp hb hz hn okp
  cases b1 with
  | true =>
    go_enter Tryz.func44, Tryz.ntmps44
    go_wp2_with fail
    go_ret
    exact ⟨rfl, (Below.refl _ _).alloc (Nat.le_refl _) _⟩
  | false =>
    rcases Nat.eq_zero_or_pos n with rfl | h0
    · go_enter Tryz.func44, Tryz.ntmps44
      go_wp2_with fail
      go_ret
      exact ⟨rfl, (Below.refl _ _).alloc (Nat.le_refl _) _⟩
    · have z1 : ((n : Int) == 0) = false := by simp; omega
      rw [z1]
      go_enter Tryz.func44, Tryz.ntmps44
      go_wp2_with fail
      go_ret
      exact ⟨rfl, (Below.refl _ _).alloc (Nat.le_refl _) _⟩
end Go.Proofs.YtbkgpfalljgdcaaGreatDoor
