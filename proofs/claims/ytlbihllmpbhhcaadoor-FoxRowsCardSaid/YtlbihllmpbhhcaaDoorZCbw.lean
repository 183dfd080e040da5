/- laurent: within, the closure put of combine. -/
import Derived.Test.YtlbihllmpbhhcaaDoorZBld
import Derived.Shelf.Abstract
namespace Go.Proofs.YtlbihllmpbhhcaaDoor
open Go.RowKit
set_option linter.unusedVariables false

/-- within -/
def wiB (v l : Int) : Bool := decide (-l ≤ v ∧ v ≤ l)
theorem within_any (v l : Int) (w : World) (h0 : 0 ≤ l) (h1 : l ≤ 1125899906842624) : Calls Tryd.prog 48 #[.int .i64 v, .int .i64 l] w fun e w' => e = .returned (.bool (wiB v l)) ∧ w = w' := by
  by_cases a : -l ≤ v
  · by_cases b : v ≤ l
    · have hf := Lib.hid (show wiB v l = true from decide_eq_true ⟨a, b⟩)
      go_enter Tryd.func48, Tryd.ntmps48
      go_wp2_with fail
      go_ret
      exact ⟨by rw [hf.out]; rfl, rfl⟩
    · have hf := Lib.hid (show wiB v l = false from decide_eq_false fun h => b h.2)
      go_enter Tryd.func48, Tryd.ntmps48
      go_wp2_with fail
      go_ret
      exact ⟨by rw [hf.out]; rfl, rfl⟩
  · have hf := Lib.hid (show wiB v l = false from decide_eq_false fun h => a h.1)
    go_enter Tryd.func48, Tryd.ntmps48
    go_wp2_with fail
    go_ret
    exact ⟨by rw [hf.out]; rfl, rfl⟩
/-- a closure of two integers that only computes -/
structure CloW (fw : FuncId) (f : Int → Int → Int) : Prop where
  eg : ∀ args W, (callFunc fw args).run Tryd.prog W = .ok (.enter fw args) W
  ca : ∀ (a b : Int) W, -1125899906842624 ≤ a → a ≤ 1125899906842624 → -1125899906842624 ≤ b → b ≤ 1125899906842624 → Calls Tryd.prog fw #[.int .i64 a, .int .i64 b] W fun e w' => e = .returned (.int .i64 (f a b)) ∧ W = w'
  f0 : f 0 0 = 0
  bd : ∀ a b : Int, -1125899906842624 ≤ a → a ≤ 1125899906842624 → -1125899906842624 ≤ b → b ≤ 1125899906842624 → -2251799813685248 ≤ f a b ∧ f a b ≤ 2251799813685248
theorem clo_add : CloW 47 (fun a b => a + b) where
  eg := enters_of Tryd.func47 (by kernel_rfl) rfl
  ca := fun a b W h1 h2 h3 h4 => by
    go_enter Tryd.func47, Tryd.ntmps47
    go_wp2_with fail
    go_ret
    exact ⟨rfl, rfl⟩
  f0 := rfl
  bd := fun a b h1 h2 h3 h4 => ⟨by show _ ≤ a + b; omega, by show a + b ≤ _; omega⟩
theorem clo_neg : CloW 51 (fun _ b => -b) where
  eg := enters_of Tryd.func51 (by kernel_rfl) rfl
  ca := fun a b W h1 h2 h3 h4 => by
    go_enter Tryd.func51, Tryd.ntmps51
    go_wp2_with fail
    go_ret
    exact ⟨rfl, rfl⟩
  f0 := rfl
  bd := fun a b h1 h2 h3 h4 => ⟨by show _ ≤ -b; omega, by show -b ≤ _; omega⟩
/-- all blocks but some stand as they were -/
structure Oth (base : Nat) (L : List Nat) (s : Option Nat) (w w' : World) : Prop where
  below : Below base w w'
  keep : ∀ k, k < w.heap.size → k ∉ L → s ≠ some k → w'.heap[k]? = w.heap[k]?
theorem Oth.arr {base k : Nat} {L : List Nat} {s : Option Nat} {w w' : World} {t : TypeId} {cs : List Value} (h : Oth base L s w w') (ha : Arr w k t cs) (h1 : k ∉ L) (h2 : s ≠ some k) : Arr w' k t cs := (h.keep k ha.lt h1 h2).trans ha
set_option maxHeartbeats 2000000 in
set_option maxRecDepth 100000 in
theorem put_any (fw : FuncId) (f : Int → Int → Int) (hw : CloW fw f) (x a b : Int) (wb fb rb base : Nat) (ft : Bool) (s : Value) (R : List (Int × Int)) (w : World)
    (ha1 : -1125899906842624 ≤ a) (ha2 : a ≤ 1125899906842624) (hb1 : -1125899906842624 ≤ b) (hb2 : b ≤ 1125899906842624)
    (qw : Arr w wb 96 [.func (.func fw) #[] #[]]) (qf : Arr w fb 4 [.bool ft]) (qr : Arr w rb 27 [.bool false, s]) (hs : OwnT base w s R) (hR : R.length ≤ 10000000) (hbw : base ≤ fb) (hbr : base ≤ rb) (hbs : base ≤ w.heap.size) :
    Calls Tryd.prog 70 #[.int .i64 x, .int .i64 a, .int .i64 b, .pointer (some ⟨wb, 0, none⟩), .pointer (some ⟨fb, 0, none⟩), .pointer (some ⟨rb, 0, none⟩)] w fun e w' => e = .returned (.tuple #[]) ∧ ∃ s', OwnT base w' s' (putR R x (f a b)) ∧ Arr w' fb 4 [.bool (ft && wiB (f a b) 1125899906842624)] ∧ Arr w' rb 27 [.bool false, s'] ∧ Oth base [fb, rb] s.ownBlock w w' := by
  have HCA := Lib.hid (fun W => hw.ca a b W ha1 ha2 hb1 hb2)
  have hbd := hw.bd a b ha1 ha2 hb1 hb2
  have eg := hw.eg
  obtain ⟨v, hv⟩ : ∃ v, v = f a b := ⟨_, rfl⟩
  rw [← hv] at HCA hbd ⊢
  have HWI := Lib.hid (fun W => within_any v 1125899906842624 W (by omega) (by omega))
  obtain ⟨wv, hwv⟩ : ∃ z, z = wiB v 1125899906842624 := ⟨_, rfl⟩
  rw [← hwv] at HWI ⊢
  clear hv hwv ha1 ha2 hb1 hb2 hw
  have nf : fb ≠ wb := fun e => by
    rw [e] at qf
    unfold Arr at qf qw
    rw [qf] at qw
    injection qw with h
    injection h with _ h2 _
    exact absurd h2 (by decide)
  have nr : rb ≠ fb := fun e => by
    rw [e] at qr
    unfold Arr at qf qr
    rw [qf] at qr
    injection qr with h
    injection h with _ h2 _
    exact absurd h2 (by decide)
  have sf := hs.apart qf (by decide)
  have sr := hs.apart qr (by decide)
  have HS := Lib.hid hs
  have y0 := qw.cell 0
  have y1 := qf.cell 0
  have g1 := qf.frozen 0
  have h0 : ((v : Int) != 0) = !decide (v = 0) := by by_cases e : v = 0 <;> simp [e]
  clear h0
  have key : ∀ o : Bool, o = (ft && wv) → Arr (w.setCell ⟨fb, 0, none⟩ (.bool o)) fb 4 [.bool o] ∧ Arr (w.setCell ⟨fb, 0, none⟩ (.bool o)) rb 27 [.bool false, s] ∧ OwnT base (w.setCell ⟨fb, 0, none⟩ (.bool o)) s R ∧ Below base w (w.setCell ⟨fb, 0, none⟩ (.bool o)) ∧ (∀ k, k ≠ fb → (w.setCell ⟨fb, 0, none⟩ (.bool o)).heap[k]? = w.heap[k]?) ∧ (w.setCell ⟨fb, 0, none⟩ (.bool o)).heap.size = w.heap.size := fun o ho =>
    ⟨qf.set 0 _, qr.far (p := ⟨fb, 0, none⟩) nr _, hs.far (p := ⟨fb, 0, none⟩) sf _, (Below.refl _ _).setCell (p := ⟨fb, 0, none⟩) hbw _, fun k hk => Below.heap_setCell w ⟨fb, 0, none⟩ _ k hk, by simp⟩
  have KEY := Lib.hid key
  clear key hs qf qr qw
  by_cases e0 : v = 0
  · have z1 : ((v : Int) != 0) = false := by simp [e0]
    have hput := Lib.hid (show putR R x v = R from if_pos e0)
    clear e0
    cases ft with
    | true =>
      obtain ⟨a1, a2, a3, a4, a5, a6⟩ := KEY.out wv (by simp)
      have AA := Lib.hid (show ∃ s', OwnT base (w.setCell ⟨fb, 0, none⟩ (.bool wv)) s' (putR R x v) ∧ Arr (w.setCell ⟨fb, 0, none⟩ (.bool wv)) fb 4 [.bool (true && wv)] ∧ Arr (w.setCell ⟨fb, 0, none⟩ (.bool wv)) rb 27 [.bool false, s'] ∧ Oth base [fb, rb] s.ownBlock w (w.setCell ⟨fb, 0, none⟩ (.bool wv)) from ⟨s, by rw [hput.out]; exact a3, a1, a2, a4, fun k _ hk _ => a5 k (fun e => hk (by simp [e]))⟩)
      clear a1 a2 a3 a4 a5 a6
      go_enter Tryd.func70, Tryd.ntmps70
      go_wp2_with fail
      refine (HCA.out _).mono ?_
      rintro e w1 ⟨rfl, rfl⟩
      go_wp2_with (go_at_call 48; refine (HWI.out _).mono ?_; rintro e w1 ⟨rfl, rfl⟩)
      go_end0
      exact ⟨rfl, AA.out⟩
    | false =>
      obtain ⟨a1, a2, a3, a4, a5, a6⟩ := KEY.out false rfl
      have AA := Lib.hid (show ∃ s', OwnT base (w.setCell ⟨fb, 0, none⟩ (.bool false)) s' (putR R x v) ∧ Arr (w.setCell ⟨fb, 0, none⟩ (.bool false)) fb 4 [.bool (false && wv)] ∧ Arr (w.setCell ⟨fb, 0, none⟩ (.bool false)) rb 27 [.bool false, s'] ∧ Oth base [fb, rb] s.ownBlock w (w.setCell ⟨fb, 0, none⟩ (.bool false)) from ⟨s, by rw [hput.out]; exact a3, a1, a2, a4, fun k _ hk _ => a5 k (fun e => hk (by simp [e]))⟩)
      clear a1 a2 a3 a4 a5 a6
      go_enter Tryd.func70, Tryd.ntmps70
      go_wp2_with fail
      refine (HCA.out _).mono ?_
      rintro e w1 ⟨rfl, rfl⟩
      go_wp2_with fail
      go_end0
      exact ⟨rfl, AA.out⟩
  · have z1 : ((v : Int) != 0) = true := by simp [e0]
    have hput := Lib.hid (show putR R x v = R ++ [(x, v)] from if_neg e0)
    clear e0
    have fin : ∀ (o : Bool) (w1 w3 : World) (s' : Value), o = (ft && wv) → w1 = (w.setCell ⟨fb, 0, none⟩ (.bool o)) → OwnT base w3 s' (R ++ [(x, v)]) → Gr base (w1.alloc (.cells #[.int .i64 x, .int .i64 v] 77)) w3 s.ownBlock → Arr w3 rb 27 [.bool false, s] ∧ ∃ s'', OwnT base (w3.setCell ⟨rb, 1, none⟩ s') s'' (putR R x v) ∧ Arr (w3.setCell ⟨rb, 1, none⟩ s') fb 4 [.bool (ft && wv)] ∧ Arr (w3.setCell ⟨rb, 1, none⟩ s') rb 27 [.bool false, s''] ∧ Oth base [fb, rb] s.ownBlock w (w3.setCell ⟨rb, 1, none⟩ s') := by
      intro o w1 w3 s' ho hw1 hown hg
      obtain ⟨a1, a2, a3, a4, a5, a6⟩ := KEY.out o ho
      rw [← hw1] at a1 a2 a3 a4 a5 a6
      have b1 := a1.alloc (.cells #[.int .i64 x, .int .i64 v] 77)
      have b2 := a2.alloc (.cells #[.int .i64 x, .int .i64 v] 77)
      have c1 := (hg.keep fb b1.lt sf).trans b1
      have c2 := (hg.keep rb b2.lt sr).trans b2
      have q2 : Arr w3 rb 27 [.bool false, s] := c2
      refine ⟨q2, s', ?_, ?_, q2.set 1 _, ?_, ?_⟩
      · rw [hput.out]; exact hown.far (p := ⟨rb, 1, none⟩) (hown.apart q2 (by decide)) _
      · rw [← ho]; exact Arr.far (p := ⟨rb, 1, none⟩) (show Arr w3 fb 4 [.bool o] from c1) (fun e => nr e.symm) _
      · exact ((a4.alloc (by rw [a6]; exact hbs) _).trans hg.below).setCell (p := ⟨rb, 1, none⟩) hbr _
      · intro k hk hL hs
        have k1 : k ≠ fb := fun e => hL (by simp [e])
        have k2 : k ≠ rb := fun e => hL (by simp [e])
        rw [Below.heap_setCell w3 ⟨rb, 1, none⟩ s' k k2, hg.keep k (by simp; omega) hs, Below.heap_alloc _ _ _ (by omega), a5 k k1]
    have FIN := Lib.hid fin
    clear fin
    cases ft with
    | true =>
      obtain ⟨a1, a2, a3, a4, a5, a6⟩ := KEY.out wv (by simp)
      have O1 := Lib.hid (a3.below ((Below.refl _ _).alloc (Nat.le_refl _) (.cells #[.int .i64 x, .int .i64 v] 77)))
      have U1 := Lib.hid (show Arr ((w.setCell ⟨fb, 0, none⟩ (.bool wv)).alloc (.cells #[.int .i64 x, .int .i64 v] 77)) w.heap.size 77 (tc (x, v)) from Arr.newAt (w.setCell ⟨fb, 0, none⟩ (.bool wv)) 77 [.int .i64 x, .int .i64 v] w.heap.size (by simp))
      have x1 := a2.cell 1
      have x2 := a2.frozen 1
      clear a1 a2 a3 a4 a5 a6
      go_enter Tryd.func70, Tryd.ntmps70
      go_wp2_with fail
      refine (HCA.out _).mono ?_
      rintro e w1 ⟨rfl, rfl⟩
      go_wp2_with (first | (go_at_call 48; refine (HWI.out _).mono ?_; rintro e w1 ⟨rfl, rfl⟩) | (at_builtin; refine wpList_appT (m := (x, v)) rfl _ _ rfl rfl O1.out rfl U1.out (by omega) (Nat.le_trans hbs (by simp)) ?_; intro s' w3 hown hg; obtain ⟨r1, r2⟩ := FIN.out wv _ w3 s' (by simp) rfl hown hg; have R2 := Lib.hid r2; obtain ⟨A5, n5, c5, rfl⟩ := hown.form3; have u1 := r1.cell 1; have u2 := r1.frozen 1; clear r1 r2 hown hg))
      go_end0
      exact ⟨rfl, R2.out⟩
    | false =>
      obtain ⟨a1, a2, a3, a4, a5, a6⟩ := KEY.out false rfl
      have O1 := Lib.hid (a3.below ((Below.refl _ _).alloc (Nat.le_refl _) (.cells #[.int .i64 x, .int .i64 v] 77)))
      have U1 := Lib.hid (show Arr ((w.setCell ⟨fb, 0, none⟩ (.bool false)).alloc (.cells #[.int .i64 x, .int .i64 v] 77)) w.heap.size 77 (tc (x, v)) from Arr.newAt (w.setCell ⟨fb, 0, none⟩ (.bool false)) 77 [.int .i64 x, .int .i64 v] w.heap.size (by simp))
      have x1 := a2.cell 1
      have x2 := a2.frozen 1
      clear a1 a2 a3 a4 a5 a6
      go_enter Tryd.func70, Tryd.ntmps70
      go_wp2_with fail
      refine (HCA.out _).mono ?_
      rintro e w1 ⟨rfl, rfl⟩
      go_wp2_with ((at_builtin; refine wpList_appT (m := (x, v)) rfl _ _ rfl rfl O1.out rfl U1.out (by omega) (Nat.le_trans hbs (by simp)) ?_; intro s' w3 hown hg; obtain ⟨r1, r2⟩ := FIN.out false _ w3 s' rfl rfl hown hg; have R2 := Lib.hid r2; obtain ⟨A5, n5, c5, rfl⟩ := hown.form3; have u1 := r1.cell 1; have u2 := r1.frozen 1; clear r1 r2 hown hg))
      go_end0
      exact ⟨rfl, R2.out⟩
end Go.Proofs.YtlbihllmpbhhcaaDoor
