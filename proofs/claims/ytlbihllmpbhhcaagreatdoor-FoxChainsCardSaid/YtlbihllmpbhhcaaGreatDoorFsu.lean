/- fox.sum. -/
import Derived.Test.YtlbihllmpbhhcaaGreatDoorFso
import Derived.Laws.EntriesVeiled
namespace Go.Proofs.YtlbihllmpbhhcaaGreatDoor
open Go.RowKit
set_option linter.unusedVariables false

/-- what sum returns -/
def SumR (ts : List (Int × Int)) (base : Nat) (w : World) (e : Ending) (w' : World) : Prop := ∃ v r, e = .returned v ∧ PolyV w' v (some r) ∧ Can r ∧ Lim r ∧ (∀ x, cf r x = cf ts x) ∧ Below base w w'
theorem OwnF.form {base : Nat} {w : World} {v : Value} {l : List (Int × Int)} (h : OwnF base w v l) : ∃ A c, v = .slice A l.length c := by
  rcases h.2 with ⟨rfl, h0⟩ | ⟨g, cap, cur, rfl, _⟩
  · exact ⟨none, 0, by rw [h0]⟩
  · exact ⟨_, _, rfl⟩
theorem OwnF.lt {base : Nat} {w : World} {v : Value} {l : List (Int × Int)} (h : OwnF base w v l) : ∀ k, v.ownBlock = some k → base ≤ k ∧ k < w.heap.size := by
  intro k hk
  rcases h.2 with ⟨rfl, h0⟩ | ⟨b, cap, cur, rfl, hg, hh, r⟩
  · simp [Value.ownBlock] at hk
  · simp [Value.ownBlock] at hk
    subst hk
    rcases Nat.lt_or_ge b w.heap.size with hlt | hge
    · exact ⟨hg, hlt⟩
    · rw [Array.getElem?_eq_none hge] at hh; cases hh
theorem OwnF.below {base : Nat} {w w' : World} {v : Value} {l : List (Int × Int)} (h : OwnF base w v l) (hb : Below w.heap.size w w') : OwnF base w' v l := by
  refine ⟨h.1, ?_⟩
  rcases h.2 with h0 | ⟨b, cap, cur, rfl, hg, hh, r⟩
  · exact .inl h0
  · have hlt : b < w.heap.size := by
      rcases Nat.lt_or_ge b w.heap.size with q | q
      · exact q
      · rw [Array.getElem?_eq_none q] at hh; cases hh
    exact .inr ⟨b, cap, cur, rfl, hg, (hb.block b hlt).trans hh, r⟩
set_option maxHeartbeats 2000000 in
set_option maxRecDepth 100000 in
theorem sum_any (A0 : Option Addr) (c base : Nat) (ts : List (Int × Int)) (w : World) (h : OwnF base w (.slice A0 ts.length c) ts) (hl : ts.length ≤ 100000) (hu : Unit1 ts) (hbs : base ≤ w.heap.size) :
    Calls Tryz.prog 20 #[.slice A0 ts.length c] w (SumR ts base w) := by
  have hW : ∀ W, W = (w.alloc (.cells #[.slice A0 ts.length c] 44)).alloc (.cells #[.bool false, .slice none 0 0] 28) → Arr W w.heap.size 44 [.slice A0 ts.length c] ∧ Arr W (w.heap.size + 1) 28 [.bool false, .slice none 0 0] ∧ Below w.heap.size w W ∧ W.heap.size = w.heap.size + 2 := by
    intro W hW
    subst hW
    exact ⟨(Arr.new _ _ [_]).alloc _, Arr.newAt (w.alloc _) _ [_, _] _ (by simp), ((Below.refl _ _).alloc (Nat.le_refl _) _).alloc (by simp) _, by simp⟩
  have hgl := h.lt
  go_enter Tryz.func20, Tryz.ntmps20
  go_upto_region 1 with fail
  generalize ((w.alloc (.cells #[.slice A0 ts.length c] 44)).alloc (.cells #[.bool false, .slice none 0 0] 28)) = w3 at hW ⊢
  obtain ⟨qb, qr, hb3, hs3⟩ := hW w3 rfl
  clear hW
  have HSO := Lib.hid (sortV_any (.slice A0 ts.length c) base ts w3 (h.below hb3) hl)
  have y0 := qb.cell 0
  clear h
  go_wp2_with fail
  refine HSO.out.mono ?_
  rintro e w4 ⟨rfl, ts', hp, hf, hb4, hk⟩
  have qb4 : Arr w4 w.heap.size 44 [.slice A0 ts.length c] := (hk _ (fun q => absurd (hgl _ q).2 (by omega)) (by omega)).trans qb
  have qr4 : Arr w4 (w.heap.size + 1) 28 [.bool false, .slice none 0 0] := (hk _ (fun q => absurd (hgl _ q).2 (by omega)) (by omega)).trans qr
  have hbw : Below base w w4 := (hb3.mono hbs).trans hb4
  have hs4 : w.heap.size + 2 ≤ w4.heap.size := by have := hb4.size; omega
  have hlen := hp.length_eq
  have HU := Lib.hid (show Unit1 ts' from fun t ht => hu t (hp.mem_iff.1 ht))
  have HCF := Lib.hid (fun x => cf_perm hp x)
  have HF := Lib.hid hf
  have HL := Lib.hid hlen
  clear y0 hgl hk hp hf hb4 hb3 qb qr HSO hlen hs3 hu
  go_upto_region 3 with fail
  have hX : Arr (w4.alloc (.cells #[.nilFunc] 33)) w4.heap.size 33 [.nilFunc] ∧ Below w4.heap.size w4 (w4.alloc (.cells #[.nilFunc] 33)) := ⟨Arr.new _ _ [_], (Below.refl _ _).alloc (Nat.le_refl _) _⟩
  generalize (w4.alloc (.cells #[.nilFunc] 33)) = w5 at hX ⊢
  obtain ⟨qp5, hb5⟩ := hX
  have hb6 := hb5.setCell (p := ⟨w4.heap.size, 0, none⟩) (Nat.le_refl _) (.func (.func 43) #[] #[.pointer (some ⟨w.heap.size, 0, none⟩), .pointer (some ⟨w4.heap.size, 0, none⟩)])
  have qp6 := qp5.set 0 (.func (.func 43) #[] #[.pointer (some ⟨w.heap.size, 0, none⟩), .pointer (some ⟨w4.heap.size, 0, none⟩)])
  have y0 := qp5.cell 0
  have y1 := qp5.frozen 0
  go_upto_region 4 with fail
  clear y0 y1
  generalize w5.setCell ⟨w4.heap.size, 0, none⟩ (.func (.func 43) #[] #[.pointer (some ⟨w.heap.size, 0, none⟩), .pointer (some ⟨w4.heap.size, 0, none⟩)]) = w6 at *
  have qb6 := qb4.below hb6 qb4.lt
  have qr6 := qr4.below hb6 qr4.lt
  have hbw6 := hbw.trans (hb6.mono (Nat.le_trans hbs (by omega)))
  have hs6 : w.heap.size + 2 ≤ w6.heap.size := by have := hb6.size; omega
  have HF6 := Lib.hid (HF.out.below hb6)
  have y0 := qp6.cell 0
  have y1 := qb6.cell 0
  have HPA := Lib.hid (fun (f : FTm w6 (.slice A0 ts.length c) ts') => part_any w.heap.size w4.heap.size (.slice A0 ts.length c) ts' HU.out (by have := HL.out; omega) ts'.length 0 ts'.length (by omega) (by omega) (Nat.le_refl _) w6 qb6 qp6 f)
  have HP := Lib.hid (HPA.out HF6.out)
  have e0 := HL.out
  rw [e0] at HP
  clear HPA e0 hb5 hb6 qp5 qb4 qr4 HF HF6
  go_wp2_with fail
  refine HP.out.mono ?_
  rintro e w7 ⟨v, r, rfl, hv, hc, hli, hx, hb7⟩
  have q7 := qr6.below hb7 qr6.lt
  have hbw7 := hbw6.trans (hb7.mono (Nat.le_trans hbs (by omega)))
  have HV := Lib.hid (fun u1 u2 => hv.box q7 u1 u2)
  have HR := Lib.hid (And.intro hc (And.intro hli hx))
  obtain ⟨b5, A5, n5, c5, rfl, j5, j6⟩ := hv.parts
  clear j5 j6 hv hc hli hx y0 y1 qr6 qb6 qp6 HP hb7 hbw6
  have x0 := q7.cell 0
  have x1 := q7.cell 1
  have f0 := q7.frozen 0
  have f1 := q7.frozen 1
  have hres := Lib.hid ((q7.set 0 (.bool b5)).set 1 (.slice A5 n5 c5))
  go_wp2_with fail
  refine bodyPost_ret (v := .agg #[.bool b5, .slice A5 n5 c5]) (results_c Tryz.results20 _ _ (w.heap.size + 1) 28 _ _ rfl hres.out Tryz.underlying28 rfl info_poly) rfl ?_
  refine ⟨_, r, rfl, HV.out _ _, HR.out.1, HR.out.2.1, fun x => ?_, (hbw7.setCell (p := ⟨w.heap.size + 1, 0, none⟩) (Nat.le_trans hbs (by simp)) _).setCell (p := ⟨w.heap.size + 1, 1, none⟩) (Nat.le_trans hbs (by simp)) _⟩
  have h1 := HR.out.2.2 x
  rw [← HL.out, sl_all] at h1
  rw [h1, HCF.out]
end Go.Proofs.YtlbihllmpbhhcaaGreatDoor
