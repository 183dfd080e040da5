/- bivariate: powers. -/
import Derived.Test.YtbfggncmjdhapaaGreatDoorZBp2
namespace Go.Proofs.YtbfggncmjdhapaaGreatDoor
open Go.RowKit
set_option linter.unusedVariables false

set_option maxHeartbeats 2000000 in
set_option maxRecDepth 100000 in
theorem powers_one (vp : Value) (e co : Int) (w : World) (hp : PolyV w vp (some [(e, co)])) (okp : okP (some [(e, co)])) :
    Calls Tryz.prog 41 #[vp] w fun en w' => ∃ A n c, vp = .agg #[.bool false, .slice A n c] ∧ en = .returned (.func (.func 75) #[] #[.pointer (some ⟨w.heap.size, 0, none⟩)]) ∧ Arr w' w.heap.size 38 [.bool false, .slice A n c] ∧ Below w.heap.size w w' := by
  obtain ⟨l, hl⟩ : ∃ l, l = [(e, co)] := ⟨_, rfl⟩
  have hne : l ≠ [] := by rw [hl]; simp
  have hlh : lowL l = highL l := by rw [hl]; rfl
  rw [← hl] at hp okp
  clear hl
  have HZE := Lib.hid (fun W (hb : Below w.heap.size w W) => Zero_any vp (some l) W (hp.below hb) okp)
  have HLO := Lib.hid (fun W (hb : Below w.heap.size w W) => Low_any vp (some l) W (hp.below hb) okp)
  have HHI := Lib.hid (fun W (hb : Below w.heap.size w W) => High_any vp (some l) W (hp.below hb) okp)
  rw [show zeroB (some l) = false from by unfold zeroB; cases l with | nil => exact absurd rfl hne | cons t l => rfl] at HZE
  simp only [Option.getD_some] at HLO HHI
  have HPV := Lib.hid (fun W (hb : Below w.heap.size w W) => hp.below hb)
  obtain ⟨b1, A, n, c, rfl, j1, j2⟩ := hp.parts
  have jb : b1 = false := j1
  subst jb
  clear hp j1 j2
  have HZ := Lib.hid (show (lowL l == highL l) = true from beq_iff_eq.2 hlh)
  clear hne hlh okp
  generalize lowL l = lo at *
  generalize highL l = hi at *
  have hW : ∀ W, W = w.alloc (.cells #[.bool false, .slice A n c] 38) → Arr W w.heap.size 38 [.bool false, .slice A n c] ∧ Below w.heap.size w W ∧ W.heap.size = w.heap.size + 1 := by
    intro W hW
    subst hW
    exact ⟨Arr.new _ _ [_, _], (Below.refl _ _).alloc (Nat.le_refl _) _, by simp⟩
  go_enter Tryz.func41, Tryz.ntmps41
  go_upto_region 1 with fail
  generalize w.alloc (.cells #[.bool false, .slice A n c] 38) = w3 at hW ⊢
  obtain ⟨q1, hb3, hs3⟩ := hW w3 rfl
  have Q1 := Lib.hid q1
  have HB3 := Lib.hid hb3
  have HS3 := Lib.hid hs3
  clear hW q1 hb3 hs3
  refine wp_region_phy (fun a b => Below a.heap.size a b) (fun h k => h.trans (k.mono h.size)) ((Below.refl _ _).drew) (by kernel_rfl) (by kernel_rfl) (by kernel_rfl) (by kernel_rfl) (phiT (fun i => ([some (.agg #[.bool false, .slice A n c]), some (.bool false), some (.bool true), some (.bool true), some (.agg #[.bool false, .slice A n c]), some (.int .i64 lo), some (.agg #[.bool false, .slice A n c]), some (.int .i64 hi), some (.bool true), some (.bool true)] : List (Option Value)).getD i none) (fun i v w => True)) (fun i v w w' h hb => ?_) ⟨?_, ?_, ?_, ?_, ?_, ?_, ?_, ?_, ?_, ?_, trivial⟩ ?_
  · unfold phiT at h ⊢
    split
    · next u hu => rw [hu] at h; exact h
    · next hu =>
      rw [hu] at h
      exact True.intro
  · intro x w1 bA hT hdep hold hb
    refine .inl ⟨trivial, ?_⟩
    have e1 : bA.tmps[1]?.getD undef = .pointer (some ⟨w.heap.size, 0, none⟩) := hb 1
    have cc0 := (Q1.out.below hT Q1.out.lt).cell 0
    have cc1 := (Q1.out.below hT Q1.out.lt).cell 1
    refine phx_run (.agg #[.bool false, .slice A n c]) ?_ (Below.refl _ _) rfl
    clear hb hdep hold
    go_simp
  · intro x w1 bA hT hdep hold hb
    refine .inl ⟨trivial, ?_⟩
    have e4 : bA.tmps[4]?.getD undef = .agg #[.bool false, .slice A n c] := (hb 4).trans (hdep 0 (by decide))
    refine phx_call ?_ ((HZE.out w1 (HB3.out.trans (hT.mono HB3.out.size))).mono fun e w' h => ⟨_, h.1, h.2, rfl⟩)
    clear hb hdep hold
    go_simp
  · intro x w1 bA hT hdep hold hb
    refine .inl ⟨trivial, ?_⟩
    have e5 : bA.tmps[5]?.getD undef = .bool false := (hb 5).trans (hdep 1 (by decide))
    refine phx_run (.bool true) ?_ (Below.refl _ _) rfl
    clear hb hdep hold
    go_simp
  · intro x w1 bA hT hdep hold hb
    refine .inl ⟨trivial, ?_⟩
    have e6 : bA.tmps[6]?.getD undef = .bool true := (hb 6).trans (hdep 2 (by decide))
    refine phx_run (.bool true) ?_ (Below.refl _ _) rfl
    clear hb hdep hold
    go_simp
  · intro x w1 bA hT hdep hold hb
    refine .inl ⟨⟨7, rfl, (hb 7).trans (hdep 3 (by decide))⟩, ?_⟩
    have e1 : bA.tmps[1]?.getD undef = .pointer (some ⟨w.heap.size, 0, none⟩) := hb 1
    have cc0 := (Q1.out.below hT Q1.out.lt).cell 0
    have cc1 := (Q1.out.below hT Q1.out.lt).cell 1
    refine phx_run (.agg #[.bool false, .slice A n c]) ?_ (Below.refl _ _) rfl
    clear hb hdep hold
    go_simp
  · intro x w1 bA hT hdep hold hb
    refine .inl ⟨⟨7, rfl, (hb 7).trans (hdep 3 (by decide))⟩, ?_⟩
    have e8 : bA.tmps[8]?.getD undef = .agg #[.bool false, .slice A n c] := (hb 8).trans (hdep 4 (by decide))
    refine phx_call ?_ ((HLO.out w1 (HB3.out.trans (hT.mono HB3.out.size))).mono fun e w' h => ⟨_, h.1, h.2, rfl⟩)
    clear hb hdep hold
    go_simp
  · intro x w1 bA hT hdep hold hb
    refine .inl ⟨⟨7, rfl, (hb 7).trans (hdep 3 (by decide))⟩, ?_⟩
    have e1 : bA.tmps[1]?.getD undef = .pointer (some ⟨w.heap.size, 0, none⟩) := hb 1
    have cc0 := (Q1.out.below hT Q1.out.lt).cell 0
    have cc1 := (Q1.out.below hT Q1.out.lt).cell 1
    refine phx_run (.agg #[.bool false, .slice A n c]) ?_ (Below.refl _ _) rfl
    clear hb hdep hold
    go_simp
  · intro x w1 bA hT hdep hold hb
    refine .inl ⟨⟨7, rfl, (hb 7).trans (hdep 3 (by decide))⟩, ?_⟩
    have e10 : bA.tmps[10]?.getD undef = .agg #[.bool false, .slice A n c] := (hb 10).trans (hdep 6 (by decide))
    refine phx_call ?_ ((HHI.out w1 (HB3.out.trans (hT.mono HB3.out.size))).mono fun e w' h => ⟨_, h.1, h.2, rfl⟩)
    clear hb hdep hold
    go_simp
  · intro x w1 bA hT hdep hold hb
    refine .inl ⟨⟨7, rfl, (hb 7).trans (hdep 3 (by decide))⟩, ?_⟩
    have e9 : bA.tmps[9]?.getD undef = .int .i64 lo := (hb 9).trans (hdep 5 (by decide))
    have e11 : bA.tmps[11]?.getD undef = .int .i64 hi := (hb 11).trans (hdep 7 (by decide))
    have zz := HZ.out
    refine phx_run (.bool true) ?_ (Below.refl _ _) rfl
    clear hb hdep hold
    go_simp
  · intro x w1 bA hT hdep hold hb
    refine .inl ⟨trivial, ?_⟩
    have e7 : bA.tmps[7]?.getD undef = .bool true := (hb 7).trans (hdep 3 (by decide))
    have e12 : bA.tmps[12]?.getD undef = .bool true := (hb 12).trans (hdep 8 (by decide))
    refine phx_run (.bool true) ?_ (Below.refl _ _) rfl
    clear hb hdep hold
    go_simp
  intro x w1 hT hall
  have x0e : x 0 = .agg #[.bool false, .slice A n c] := hall 0 (by decide)
  have x1e : x 1 = .bool false := hall 1 (by decide)
  have x2e : x 2 = .bool true := hall 2 (by decide)
  have x3e : x 3 = .bool true := hall 3 (by decide)
  have x4e : x 4 = .agg #[.bool false, .slice A n c] := hall 4 (by decide)
  have x5e : x 5 = .int .i64 lo := hall 5 (by decide)
  have x6e : x 6 = .agg #[.bool false, .slice A n c] := hall 6 (by decide)
  have x7e : x 7 = .int .i64 hi := hall 7 (by decide)
  have x8e : x 8 = .bool true := hall 8 (by decide)
  have x9e : x 9 = .bool true := hall 9 (by decide)
  simp only [putAll, dstOf, Act.put, List.map_cons, List.map_nil, List.setIfInBounds_toArray, List.set_cons_succ, List.set_cons_zero, Nat.reduceAdd, x0e, x1e, x2e, x3e, x4e, x5e, x6e, x7e, x8e, x9e]
  clear x0e x1e x2e x3e x4e x5e x6e x7e x8e x9e hall
  have HQ1 := Lib.hid (Q1.out.below hT Q1.out.lt)
  have HB1 := Lib.hid (HB3.out.trans (hT.mono HB3.out.size))
  have hz1 : w.heap.size + 1 ≤ w1.heap.size := by have := hT.size; have := HS3.out; omega
  clear hT Q1 HB3 HS3
  go_wp2_with fail
  go_ret
  exact ⟨A, n, c, rfl, rfl, HQ1.out, HB1.out⟩
theorem term_one (w : World) : Calls Tryz.prog 18 #[.int .i64 1, .int .i64 0] w (QLR [(0, 1)] w) := TermQ 1 0 w (by decide) (by decide) (by decide) (by decide) (by decide)
def PwsR (zl : List T1) (w : World) (vp : Value) (en : Ending) (w' : World) : Prop := ∃ (zm : PM) (Bk g : Nat) (m : PM), vp = .agg #[.bool false, .slice zm.1 zm.2.1 zm.2.2] ∧ en = .returned (.func (.func 77) #[] #[.pointer (some ⟨Bk, 0, none⟩), .pointer (some ⟨w.heap.size, 0, none⟩)]) ∧ KnS Bk w.heap.size (w.heap.size + 1) zm zl (.slice (some ⟨g, 0, none⟩) 1 1) [m] w' ∧ w.heap.size + 1 ≤ Bk ∧ Below w.heap.size w w'
set_option maxHeartbeats 2000000 in
set_option maxRecDepth 100000 in
theorem powers_list (vp : Value) (l : List T1) (w : World) (hp : PolyV w vp (some l)) (okp : okP (some l)) (hne : l ≠ []) (hlh : lowL l ≠ highL l) :
    Calls Tryz.prog 41 #[vp] w (PwsR l w vp) := by
  have HZE := Lib.hid (fun W (hb : Below w.heap.size w W) => Zero_any vp (some l) W (hp.below hb) okp)
  have HLO := Lib.hid (fun W (hb : Below w.heap.size w W) => Low_any vp (some l) W (hp.below hb) okp)
  have HHI := Lib.hid (fun W (hb : Below w.heap.size w W) => High_any vp (some l) W (hp.below hb) okp)
  rw [show zeroB (some l) = false from by unfold zeroB; cases l with | nil => exact absurd rfl hne | cons t l => rfl] at HZE
  simp only [Option.getD_some] at HLO HHI
  have HPV := Lib.hid (fun W (hb : Below w.heap.size w W) => hp.below hb)
  obtain ⟨b1, A, n, c, rfl, j1, j2⟩ := hp.parts
  have jb : b1 = false := j1
  subst jb
  clear hp j1 j2
  have HZ := Lib.hid (show (lowL l == highL l) = false from beq_eq_false_iff_ne.2 hlh)
  have HOK := Lib.hid okp
  clear hne hlh okp
  generalize lowL l = lo at *
  generalize highL l = hi at *
  have hW : ∀ W, W = w.alloc (.cells #[.bool false, .slice A n c] 38) → Arr W w.heap.size 38 [.bool false, .slice A n c] ∧ Below w.heap.size w W ∧ W.heap.size = w.heap.size + 1 := by
    intro W hW
    subst hW
    exact ⟨Arr.new _ _ [_, _], (Below.refl _ _).alloc (Nat.le_refl _) _, by simp⟩
  go_enter Tryz.func41, Tryz.ntmps41
  go_upto_region 1 with fail
  generalize w.alloc (.cells #[.bool false, .slice A n c] 38) = w3 at hW ⊢
  obtain ⟨q1, hb3, hs3⟩ := hW w3 rfl
  have Q1 := Lib.hid q1
  have HB3 := Lib.hid hb3
  have HS3 := Lib.hid hs3
  clear hW q1 hb3 hs3
  refine wp_region_phy (fun a b => Below a.heap.size a b) (fun h k => h.trans (k.mono h.size)) ((Below.refl _ _).drew) (by kernel_rfl) (by kernel_rfl) (by kernel_rfl) (by kernel_rfl) (phiT (fun i => ([some (.agg #[.bool false, .slice A n c]), some (.bool false), some (.bool true), some (.bool true), some (.agg #[.bool false, .slice A n c]), some (.int .i64 lo), some (.agg #[.bool false, .slice A n c]), some (.int .i64 hi), some (.bool false), some (.bool false)] : List (Option Value)).getD i none) (fun i v w => True)) (fun i v w w' h hb => ?_) ⟨?_, ?_, ?_, ?_, ?_, ?_, ?_, ?_, ?_, ?_, trivial⟩ ?_
  · unfold phiT at h ⊢
    split
    · next u hu => rw [hu] at h; exact h
    · next hu =>
      rw [hu] at h
      exact True.intro
  · intro x w1 bA hT hdep hold hb
    refine .inl ⟨trivial, ?_⟩
    have e1 : bA.tmps[1]?.getD undef = .pointer (some ⟨w.heap.size, 0, none⟩) := hb 1
    have cc0 := (Q1.out.below hT Q1.out.lt).cell 0
    have cc1 := (Q1.out.below hT Q1.out.lt).cell 1
    refine phx_run (.agg #[.bool false, .slice A n c]) ?_ (Below.refl _ _) rfl
    clear hb hdep hold
    go_simp
  · intro x w1 bA hT hdep hold hb
    refine .inl ⟨trivial, ?_⟩
    have e4 : bA.tmps[4]?.getD undef = .agg #[.bool false, .slice A n c] := (hb 4).trans (hdep 0 (by decide))
    refine phx_call ?_ ((HZE.out w1 (HB3.out.trans (hT.mono HB3.out.size))).mono fun e w' h => ⟨_, h.1, h.2, rfl⟩)
    clear hb hdep hold
    go_simp
  · intro x w1 bA hT hdep hold hb
    refine .inl ⟨trivial, ?_⟩
    have e5 : bA.tmps[5]?.getD undef = .bool false := (hb 5).trans (hdep 1 (by decide))
    refine phx_run (.bool true) ?_ (Below.refl _ _) rfl
    clear hb hdep hold
    go_simp
  · intro x w1 bA hT hdep hold hb
    refine .inl ⟨trivial, ?_⟩
    have e6 : bA.tmps[6]?.getD undef = .bool true := (hb 6).trans (hdep 2 (by decide))
    refine phx_run (.bool true) ?_ (Below.refl _ _) rfl
    clear hb hdep hold
    go_simp
  · intro x w1 bA hT hdep hold hb
    refine .inl ⟨⟨7, rfl, (hb 7).trans (hdep 3 (by decide))⟩, ?_⟩
    have e1 : bA.tmps[1]?.getD undef = .pointer (some ⟨w.heap.size, 0, none⟩) := hb 1
    have cc0 := (Q1.out.below hT Q1.out.lt).cell 0
    have cc1 := (Q1.out.below hT Q1.out.lt).cell 1
    refine phx_run (.agg #[.bool false, .slice A n c]) ?_ (Below.refl _ _) rfl
    clear hb hdep hold
    go_simp
  · intro x w1 bA hT hdep hold hb
    refine .inl ⟨⟨7, rfl, (hb 7).trans (hdep 3 (by decide))⟩, ?_⟩
    have e8 : bA.tmps[8]?.getD undef = .agg #[.bool false, .slice A n c] := (hb 8).trans (hdep 4 (by decide))
    refine phx_call ?_ ((HLO.out w1 (HB3.out.trans (hT.mono HB3.out.size))).mono fun e w' h => ⟨_, h.1, h.2, rfl⟩)
    clear hb hdep hold
    go_simp
  · intro x w1 bA hT hdep hold hb
    refine .inl ⟨⟨7, rfl, (hb 7).trans (hdep 3 (by decide))⟩, ?_⟩
    have e1 : bA.tmps[1]?.getD undef = .pointer (some ⟨w.heap.size, 0, none⟩) := hb 1
    have cc0 := (Q1.out.below hT Q1.out.lt).cell 0
    have cc1 := (Q1.out.below hT Q1.out.lt).cell 1
    refine phx_run (.agg #[.bool false, .slice A n c]) ?_ (Below.refl _ _) rfl
    clear hb hdep hold
    go_simp
  · intro x w1 bA hT hdep hold hb
    refine .inl ⟨⟨7, rfl, (hb 7).trans (hdep 3 (by decide))⟩, ?_⟩
    have e10 : bA.tmps[10]?.getD undef = .agg #[.bool false, .slice A n c] := (hb 10).trans (hdep 6 (by decide))
    refine phx_call ?_ ((HHI.out w1 (HB3.out.trans (hT.mono HB3.out.size))).mono fun e w' h => ⟨_, h.1, h.2, rfl⟩)
    clear hb hdep hold
    go_simp
  · intro x w1 bA hT hdep hold hb
    refine .inl ⟨⟨7, rfl, (hb 7).trans (hdep 3 (by decide))⟩, ?_⟩
    have e9 : bA.tmps[9]?.getD undef = .int .i64 lo := (hb 9).trans (hdep 5 (by decide))
    have e11 : bA.tmps[11]?.getD undef = .int .i64 hi := (hb 11).trans (hdep 7 (by decide))
    have zz := HZ.out
    refine phx_run (.bool false) ?_ (Below.refl _ _) rfl
    clear hb hdep hold
    go_simp
  · intro x w1 bA hT hdep hold hb
    refine .inl ⟨trivial, ?_⟩
    have e7 : bA.tmps[7]?.getD undef = .bool true := (hb 7).trans (hdep 3 (by decide))
    have e12 : bA.tmps[12]?.getD undef = .bool false := (hb 12).trans (hdep 8 (by decide))
    refine phx_run (.bool false) ?_ (Below.refl _ _) rfl
    clear hb hdep hold
    go_simp
  intro x w1 hT hall
  have x0e : x 0 = .agg #[.bool false, .slice A n c] := hall 0 (by decide)
  have x1e : x 1 = .bool false := hall 1 (by decide)
  have x2e : x 2 = .bool true := hall 2 (by decide)
  have x3e : x 3 = .bool true := hall 3 (by decide)
  have x4e : x 4 = .agg #[.bool false, .slice A n c] := hall 4 (by decide)
  have x5e : x 5 = .int .i64 lo := hall 5 (by decide)
  have x6e : x 6 = .agg #[.bool false, .slice A n c] := hall 6 (by decide)
  have x7e : x 7 = .int .i64 hi := hall 7 (by decide)
  have x8e : x 8 = .bool false := hall 8 (by decide)
  have x9e : x 9 = .bool false := hall 9 (by decide)
  simp only [putAll, dstOf, Act.put, List.map_cons, List.map_nil, List.setIfInBounds_toArray, List.set_cons_succ, List.set_cons_zero, Nat.reduceAdd, x0e, x1e, x2e, x3e, x4e, x5e, x6e, x7e, x8e, x9e]
  clear x0e x1e x2e x3e x4e x5e x6e x7e x8e x9e hall
  have HQ1 := Lib.hid (Q1.out.below hT Q1.out.lt)
  have HB1 := Lib.hid (HB3.out.trans (hT.mono HB3.out.size))
  have hz1 : w.heap.size + 1 ≤ w1.heap.size := by have := hT.size; have := HS3.out; omega
  clear hT Q1 HB3 HS3
  have HT := Lib.hid (term_one w1)
  go_wp2_with fail
  refine HT.out.mono ?_
  rintro en w5 ⟨v, rfl, hb5, hq⟩
  obtain ⟨A7, n7, c7, rfl⟩ := hq.form
  have hX : ∀ W, W = (w5.alloc (.cells #[.bool false, .slice A7 n7 c7] 38)).alloc (.cells #[.slice (some ⟨w5.heap.size, 0, none⟩) 1 1] 117) → KnS (w5.heap.size + 1) w.heap.size (w.heap.size + 1) (A, n, c) l (.slice (some ⟨w5.heap.size, 0, none⟩) 1 1) [(A7, n7, c7)] W ∧ Below w.heap.size w W := by
    intro W hW
    subst hW
    have e1 : w.heap.size + 1 ≤ w5.heap.size := Nat.le_trans hz1 hb5.size
    have b1 : Below w5.heap.size w5 ((w5.alloc (.cells #[.bool false, .slice A7 n7 c7] 38)).alloc (.cells #[.slice (some ⟨w5.heap.size, 0, none⟩) 1 1] 117)) := ((Below.refl _ _).alloc (Nat.le_refl _) _).alloc (by simp) _
    have b2 : Below w.heap.size w ((w5.alloc (.cells #[.bool false, .slice A7 n7 c7] 38)).alloc (.cells #[.slice (some ⟨w5.heap.size, 0, none⟩) 1 1] 117)) := (HB1.out.trans (hb5.mono HB1.out.size)).trans (b1.mono (by omega))
    have qz := (HQ1.out.below hb5 HQ1.out.lt).below b1 (by omega)
    refine ⟨⟨Arr.newAt (w5.alloc _) _ [_] _ (by simp), ((OwnA.lit (w := w5) (e := 38) (sz := 2) (enc := encP) (xs := [(A7, n7, c7)]) (fun x _ => rfl) (Nat.le_refl _) (by simp) (by simp)).low e1).alloc _, by simp, fun i hi => ?_, qz, ⟨l, HPV.out _ b2, HOK.out.1, HOK.out.2, fun e => rfl⟩, fun e => ?_⟩, b2⟩
    · have : i = 0 := by simp at hi; omega
      subst this
      exact hq.below b1
    · simp [Value.ownBlock] at e
      omega
  have hge := Nat.le_trans hz1 hb5.size
  clear HT hb5 hq
  go_wp2_with fail
  go_ret
  obtain ⟨k1, k2⟩ := hX _ rfl
  exact ⟨(A, n, c), _, _, _, rfl, rfl, k1, by omega, k2⟩
end Go.Proofs.YtbfggncmjdhapaaGreatDoor
