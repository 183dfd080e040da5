/- bivariate: powers. -/
/- bivariate: Set, where the exponents of z are not negative. -/
/- bivariate: Set at a unit and a polynomial of several terms; at two units. -/
/- bivariate's Text. -/
import Derived.Test.YtnmidhlghhephaaGreatDoorWwBp2
import Derived.Test.YtnmidhlghhephaaGreatDoorWwPhz
import Derived.Test.YtnmidhlghhephaaGreatDoorWwBfs
namespace Go.Proofs.YtnmidhlghhephaaGreatDoor
open Go.RowKit
set_option linter.unusedVariables false
set_option maxHeartbeats 2000000 in
set_option maxRecDepth 100000 in
theorem powers_one (vp : Value) (e co : Int) (w : World) (hp : PolyV w vp (some [(e, co)])) (okp : okP (some [(e, co)])) :
    Calls Tryz.prog 22 #[vp] w fun en w' => ∃ A n c, vp = .agg #[.bool false, .slice A n c] ∧ en = .returned (.func (.func 48) #[] #[.pointer (some ⟨w.heap.size, 0, none⟩)]) ∧ Arr w' w.heap.size 34 [.bool false, .slice A n c] ∧ Below w.heap.size w w' := by
  obtain ⟨l, hl⟩ : ∃ l, l = [(e, co)] := ⟨_, rfl⟩
  have hne : l ≠ [] := by rw [hl]; simp
  have hlh : lowL l = highL l := by rw [hl]; rfl
  rw [← hl] at hp okp
  clear hl
  have HZE := Lib.hid (fun W (hb : Below w.heap.size w W) => Zero_any vp (some l) W (hp.below hb) okp)
  have HLO := Lib.hid (fun W (hb : Below w.heap.size w W) => Low_any vp (some l) W (hp.below hb) okp)
  have HHI := Lib.hid (fun W (hb : Below w.heap.size w W) => High_any vp (some l) W (hp.below hb) okp)
  rw [show zeroB (some l) = false from by unfold zeroB; cases l with | nil => exact absurd rfl hne | cons t l => rfl] at HZE
  simp only [Option.getD_some] at HLO HHI
  have HPV := Lib.hid (fun W (hb : Below w.heap.size w W) => hp.below hb)
  obtain ⟨b1, A, n, c, rfl, j1, j2⟩ := hp.parts
  have jb : b1 = false := j1
  subst jb
  clear hp j1 j2
  have HZ := Lib.hid (show (lowL l == highL l) = true from beq_iff_eq.2 hlh)
  clear hne hlh okp
  generalize lowL l = lo at *
  generalize highL l = hi at *
  have hW : ∀ W, W = w.alloc (.cells #[.bool false, .slice A n c] 34) → Arr W w.heap.size 34 [.bool false, .slice A n c] ∧ Below w.heap.size w W ∧ W.heap.size = w.heap.size + 1 := by
    intro W hW
    subst hW
    exact ⟨Arr.new _ _ [_, _], (Below.refl _ _).alloc (Nat.le_refl _) _, by simp⟩
  go_enter Tryz.func22, Tryz.ntmps22
  go_upto_region 1 with fail
  generalize w.alloc (.cells #[.bool false, .slice A n c] 34) = w3 at hW ⊢
  obtain ⟨q1, hb3, hs3⟩ := hW w3 rfl
  have Q1 := Lib.hid q1
  have HB3 := Lib.hid hb3
  have HS3 := Lib.hid hs3
  clear hW q1 hb3 hs3
  refine wp_region_phy (fun a b => Below a.heap.size a b) (fun h k => h.trans (k.mono h.size)) ((Below.refl _ _).drew) (by kernel_rfl) (by kernel_rfl) (by kernel_rfl) (by kernel_rfl) (phiT (fun i => ([some (.agg #[.bool false, .slice A n c]), some (.bool false), some (.bool true), some (.bool true), some (.agg #[.bool false, .slice A n c]), some (.int .i64 lo), some (.agg #[.bool false, .slice A n c]), some (.int .i64 hi), some (.bool true), some (.bool true)] : List (Option Value)).getD i none) (fun i v w => True)) (fun i v w w' h hb => ?_) ⟨?_, ?_, ?_, ?_, ?_, ?_, ?_, ?_, ?_, ?_, trivial⟩ ?_
  · unfold phiT at h ⊢
    split
    · next u hu => rw [hu] at h; exact h
    · next hu =>
      rw [hu] at h
      exact True.intro
  · intro x w1 bA hT hdep hold hb
    refine .inl ⟨trivial, ?_⟩
    have e1 : bA.tmps[1]?.getD undef = .pointer (some ⟨w.heap.size, 0, none⟩) := hb 1
    have cc0 := (Q1.out.below hT Q1.out.lt).cell 0
    have cc1 := (Q1.out.below hT Q1.out.lt).cell 1
    refine phx_run (.agg #[.bool false, .slice A n c]) ?_ (Below.refl _ _) rfl
    clear hb hdep hold
    go_simp
  · intro x w1 bA hT hdep hold hb
    refine .inl ⟨trivial, ?_⟩
    have e4 : bA.tmps[4]?.getD undef = .agg #[.bool false, .slice A n c] := (hb 4).trans (hdep 0 (by decide))
    refine phx_call ?_ ((HZE.out w1 (HB3.out.trans (hT.mono HB3.out.size))).mono fun e w' h => ⟨_, h.1, h.2, rfl⟩)
    clear hb hdep hold
    go_simp
  · intro x w1 bA hT hdep hold hb
    refine .inl ⟨trivial, ?_⟩
    have e5 : bA.tmps[5]?.getD undef = .bool false := (hb 5).trans (hdep 1 (by decide))
    refine phx_run (.bool true) ?_ (Below.refl _ _) rfl
    clear hb hdep hold
    go_simp
  · intro x w1 bA hT hdep hold hb
    refine .inl ⟨trivial, ?_⟩
    have e6 : bA.tmps[6]?.getD undef = .bool true := (hb 6).trans (hdep 2 (by decide))
    refine phx_run (.bool true) ?_ (Below.refl _ _) rfl
    clear hb hdep hold
    go_simp
  · intro x w1 bA hT hdep hold hb
    refine .inl ⟨⟨7, rfl, (hb 7).trans (hdep 3 (by decide))⟩, ?_⟩
    have e1 : bA.tmps[1]?.getD undef = .pointer (some ⟨w.heap.size, 0, none⟩) := hb 1
    have cc0 := (Q1.out.below hT Q1.out.lt).cell 0
    have cc1 := (Q1.out.below hT Q1.out.lt).cell 1
    refine phx_run (.agg #[.bool false, .slice A n c]) ?_ (Below.refl _ _) rfl
    clear hb hdep hold
    go_simp
  · intro x w1 bA hT hdep hold hb
    refine .inl ⟨⟨7, rfl, (hb 7).trans (hdep 3 (by decide))⟩, ?_⟩
    have e8 : bA.tmps[8]?.getD undef = .agg #[.bool false, .slice A n c] := (hb 8).trans (hdep 4 (by decide))
    refine phx_call ?_ ((HLO.out w1 (HB3.out.trans (hT.mono HB3.out.size))).mono fun e w' h => ⟨_, h.1, h.2, rfl⟩)
    clear hb hdep hold
    go_simp
  · intro x w1 bA hT hdep hold hb
    refine .inl ⟨⟨7, rfl, (hb 7).trans (hdep 3 (by decide))⟩, ?_⟩
    have e1 : bA.tmps[1]?.getD undef = .pointer (some ⟨w.heap.size, 0, none⟩) := hb 1
    have cc0 := (Q1.out.below hT Q1.out.lt).cell 0
    have cc1 := (Q1.out.below hT Q1.out.lt).cell 1
    refine phx_run (.agg #[.bool false, .slice A n c]) ?_ (Below.refl _ _) rfl
    clear hb hdep hold
    go_simp
  · intro x w1 bA hT hdep hold hb
    refine .inl ⟨⟨7, rfl, (hb 7).trans (hdep 3 (by decide))⟩, ?_⟩
    have e10 : bA.tmps[10]?.getD undef = .agg #[.bool false, .slice A n c] := (hb 10).trans (hdep 6 (by decide))
    refine phx_call ?_ ((HHI.out w1 (HB3.out.trans (hT.mono HB3.out.size))).mono fun e w' h => ⟨_, h.1, h.2, rfl⟩)
    clear hb hdep hold
    go_simp
  · intro x w1 bA hT hdep hold hb
    refine .inl ⟨⟨7, rfl, (hb 7).trans (hdep 3 (by decide))⟩, ?_⟩
    have e9 : bA.tmps[9]?.getD undef = .int .i64 lo := (hb 9).trans (hdep 5 (by decide))
    have e11 : bA.tmps[11]?.getD undef = .int .i64 hi := (hb 11).trans (hdep 7 (by decide))
    have zz := HZ.out
    refine phx_run (.bool true) ?_ (Below.refl _ _) rfl
    clear hb hdep hold
    go_simp
  · intro x w1 bA hT hdep hold hb
    refine .inl ⟨trivial, ?_⟩
    have e7 : bA.tmps[7]?.getD undef = .bool true := (hb 7).trans (hdep 3 (by decide))
    have e12 : bA.tmps[12]?.getD undef = .bool true := (hb 12).trans (hdep 8 (by decide))
    refine phx_run (.bool true) ?_ (Below.refl _ _) rfl
    clear hb hdep hold
    go_simp
  intro x w1 hT hall
  have x0e : x 0 = .agg #[.bool false, .slice A n c] := hall 0 (by decide)
  have x1e : x 1 = .bool false := hall 1 (by decide)
  have x2e : x 2 = .bool true := hall 2 (by decide)
  have x3e : x 3 = .bool true := hall 3 (by decide)
  have x4e : x 4 = .agg #[.bool false, .slice A n c] := hall 4 (by decide)
  have x5e : x 5 = .int .i64 lo := hall 5 (by decide)
  have x6e : x 6 = .agg #[.bool false, .slice A n c] := hall 6 (by decide)
  have x7e : x 7 = .int .i64 hi := hall 7 (by decide)
  have x8e : x 8 = .bool true := hall 8 (by decide)
  have x9e : x 9 = .bool true := hall 9 (by decide)
  simp only [putAll, dstOf, Act.put, List.map_cons, List.map_nil, List.setIfInBounds_toArray, List.set_cons_succ, List.set_cons_zero, Nat.reduceAdd, x0e, x1e, x2e, x3e, x4e, x5e, x6e, x7e, x8e, x9e]
  clear x0e x1e x2e x3e x4e x5e x6e x7e x8e x9e hall
  have HQ1 := Lib.hid (Q1.out.below hT Q1.out.lt)
  have HB1 := Lib.hid (HB3.out.trans (hT.mono HB3.out.size))
  have hz1 : w.heap.size + 1 ≤ w1.heap.size := by have := hT.size; have := HS3.out; omega
  clear hT Q1 HB3 HS3
  go_wp2_with fail
  go_ret
  exact ⟨A, n, c, rfl, rfl, HQ1.out, HB1.out⟩
theorem term_one (w : World) : Calls Tryz.prog 8 #[.int .i64 1, .int .i64 0] w (QLR [(0, 1)] w) := TermQ 1 0 w (by decide) (by decide) (by decide) (by decide) (by decide)
def PwsR (zl : List T1) (w : World) (vp : Value) (en : Ending) (w' : World) : Prop := ∃ (zm : PM) (Bk g : Nat) (m : PM), vp = .agg #[.bool false, .slice zm.1 zm.2.1 zm.2.2] ∧ en = .returned (.func (.func 50) #[] #[.pointer (some ⟨Bk, 0, none⟩), .pointer (some ⟨w.heap.size, 0, none⟩)]) ∧ KnS Bk w.heap.size (w.heap.size + 1) zm zl (.slice (some ⟨g, 0, none⟩) 1 1) [m] w' ∧ w.heap.size + 1 ≤ Bk ∧ Below w.heap.size w w'
set_option maxHeartbeats 2000000 in
set_option maxRecDepth 100000 in
theorem powers_list (vp : Value) (l : List T1) (w : World) (hp : PolyV w vp (some l)) (okp : okP (some l)) (hne : l ≠ []) (hlh : lowL l ≠ highL l) :
    Calls Tryz.prog 22 #[vp] w (PwsR l w vp) := by
  have HZE := Lib.hid (fun W (hb : Below w.heap.size w W) => Zero_any vp (some l) W (hp.below hb) okp)
  have HLO := Lib.hid (fun W (hb : Below w.heap.size w W) => Low_any vp (some l) W (hp.below hb) okp)
  have HHI := Lib.hid (fun W (hb : Below w.heap.size w W) => High_any vp (some l) W (hp.below hb) okp)
  rw [show zeroB (some l) = false from by unfold zeroB; cases l with | nil => exact absurd rfl hne | cons t l => rfl] at HZE
  simp only [Option.getD_some] at HLO HHI
  have HPV := Lib.hid (fun W (hb : Below w.heap.size w W) => hp.below hb)
  obtain ⟨b1, A, n, c, rfl, j1, j2⟩ := hp.parts
  have jb : b1 = false := j1
  subst jb
  clear hp j1 j2
  have HZ := Lib.hid (show (lowL l == highL l) = false from beq_eq_false_iff_ne.2 hlh)
  have HOK := Lib.hid okp
  clear hne hlh okp
  generalize lowL l = lo at *
  generalize highL l = hi at *
  have hW : ∀ W, W = w.alloc (.cells #[.bool false, .slice A n c] 34) → Arr W w.heap.size 34 [.bool false, .slice A n c] ∧ Below w.heap.size w W ∧ W.heap.size = w.heap.size + 1 := by
    intro W hW
    subst hW
    exact ⟨Arr.new _ _ [_, _], (Below.refl _ _).alloc (Nat.le_refl _) _, by simp⟩
  go_enter Tryz.func22, Tryz.ntmps22
  go_upto_region 1 with fail
  generalize w.alloc (.cells #[.bool false, .slice A n c] 34) = w3 at hW ⊢
  obtain ⟨q1, hb3, hs3⟩ := hW w3 rfl
  have Q1 := Lib.hid q1
  have HB3 := Lib.hid hb3
  have HS3 := Lib.hid hs3
  clear hW q1 hb3 hs3
  refine wp_region_phy (fun a b => Below a.heap.size a b) (fun h k => h.trans (k.mono h.size)) ((Below.refl _ _).drew) (by kernel_rfl) (by kernel_rfl) (by kernel_rfl) (by kernel_rfl) (phiT (fun i => ([some (.agg #[.bool false, .slice A n c]), some (.bool false), some (.bool true), some (.bool true), some (.agg #[.bool false, .slice A n c]), some (.int .i64 lo), some (.agg #[.bool false, .slice A n c]), some (.int .i64 hi), some (.bool false), some (.bool false)] : List (Option Value)).getD i none) (fun i v w => True)) (fun i v w w' h hb => ?_) ⟨?_, ?_, ?_, ?_, ?_, ?_, ?_, ?_, ?_, ?_, trivial⟩ ?_
  · unfold phiT at h ⊢
    split
    · next u hu => rw [hu] at h; exact h
    · next hu =>
      rw [hu] at h
      exact True.intro
  · intro x w1 bA hT hdep hold hb
    refine .inl ⟨trivial, ?_⟩
    have e1 : bA.tmps[1]?.getD undef = .pointer (some ⟨w.heap.size, 0, none⟩) := hb 1
    have cc0 := (Q1.out.below hT Q1.out.lt).cell 0
    have cc1 := (Q1.out.below hT Q1.out.lt).cell 1
    refine phx_run (.agg #[.bool false, .slice A n c]) ?_ (Below.refl _ _) rfl
    clear hb hdep hold
    go_simp
  · intro x w1 bA hT hdep hold hb
    refine .inl ⟨trivial, ?_⟩
    have e4 : bA.tmps[4]?.getD undef = .agg #[.bool false, .slice A n c] := (hb 4).trans (hdep 0 (by decide))
    refine phx_call ?_ ((HZE.out w1 (HB3.out.trans (hT.mono HB3.out.size))).mono fun e w' h => ⟨_, h.1, h.2, rfl⟩)
    clear hb hdep hold
    go_simp
  · intro x w1 bA hT hdep hold hb
    refine .inl ⟨trivial, ?_⟩
    have e5 : bA.tmps[5]?.getD undef = .bool false := (hb 5).trans (hdep 1 (by decide))
    refine phx_run (.bool true) ?_ (Below.refl _ _) rfl
    clear hb hdep hold
    go_simp
  · intro x w1 bA hT hdep hold hb
    refine .inl ⟨trivial, ?_⟩
    have e6 : bA.tmps[6]?.getD undef = .bool true := (hb 6).trans (hdep 2 (by decide))
    refine phx_run (.bool true) ?_ (Below.refl _ _) rfl
    clear hb hdep hold
    go_simp
  · intro x w1 bA hT hdep hold hb
    refine .inl ⟨⟨7, rfl, (hb 7).trans (hdep 3 (by decide))⟩, ?_⟩
    have e1 : bA.tmps[1]?.getD undef = .pointer (some ⟨w.heap.size, 0, none⟩) := hb 1
    have cc0 := (Q1.out.below hT Q1.out.lt).cell 0
    have cc1 := (Q1.out.below hT Q1.out.lt).cell 1
    refine phx_run (.agg #[.bool false, .slice A n c]) ?_ (Below.refl _ _) rfl
    clear hb hdep hold
    go_simp
  · intro x w1 bA hT hdep hold hb
    refine .inl ⟨⟨7, rfl, (hb 7).trans (hdep 3 (by decide))⟩, ?_⟩
    have e8 : bA.tmps[8]?.getD undef = .agg #[.bool false, .slice A n c] := (hb 8).trans (hdep 4 (by decide))
    refine phx_call ?_ ((HLO.out w1 (HB3.out.trans (hT.mono HB3.out.size))).mono fun e w' h => ⟨_, h.1, h.2, rfl⟩)
    clear hb hdep hold
    go_simp
  · intro x w1 bA hT hdep hold hb
    refine .inl ⟨⟨7, rfl, (hb 7).trans (hdep 3 (by decide))⟩, ?_⟩
    have e1 : bA.tmps[1]?.getD undef = .pointer (some ⟨w.heap.size, 0, none⟩) := hb 1
    have cc0 := (Q1.out.below hT Q1.out.lt).cell 0
    have cc1 := (Q1.out.below hT Q1.out.lt).cell 1
    refine phx_run (.agg #[.bool false, .slice A n c]) ?_ (Below.refl _ _) rfl
    clear hb hdep hold
    go_simp
  · intro x w1 bA hT hdep hold hb
    refine .inl ⟨⟨7, rfl, (hb 7).trans (hdep 3 (by decide))⟩, ?_⟩
    have e10 : bA.tmps[10]?.getD undef = .agg #[.bool false, .slice A n c] := (hb 10).trans (hdep 6 (by decide))
    refine phx_call ?_ ((HHI.out w1 (HB3.out.trans (hT.mono HB3.out.size))).mono fun e w' h => ⟨_, h.1, h.2, rfl⟩)
    clear hb hdep hold
    go_simp
  · intro x w1 bA hT hdep hold hb
    refine .inl ⟨⟨7, rfl, (hb 7).trans (hdep 3 (by decide))⟩, ?_⟩
    have e9 : bA.tmps[9]?.getD undef = .int .i64 lo := (hb 9).trans (hdep 5 (by decide))
    have e11 : bA.tmps[11]?.getD undef = .int .i64 hi := (hb 11).trans (hdep 7 (by decide))
    have zz := HZ.out
    refine phx_run (.bool false) ?_ (Below.refl _ _) rfl
    clear hb hdep hold
    go_simp
  · intro x w1 bA hT hdep hold hb
    refine .inl ⟨trivial, ?_⟩
    have e7 : bA.tmps[7]?.getD undef = .bool true := (hb 7).trans (hdep 3 (by decide))
    have e12 : bA.tmps[12]?.getD undef = .bool false := (hb 12).trans (hdep 8 (by decide))
    refine phx_run (.bool false) ?_ (Below.refl _ _) rfl
    clear hb hdep hold
    go_simp
  intro x w1 hT hall
  have x0e : x 0 = .agg #[.bool false, .slice A n c] := hall 0 (by decide)
  have x1e : x 1 = .bool false := hall 1 (by decide)
  have x2e : x 2 = .bool true := hall 2 (by decide)
  have x3e : x 3 = .bool true := hall 3 (by decide)
  have x4e : x 4 = .agg #[.bool false, .slice A n c] := hall 4 (by decide)
  have x5e : x 5 = .int .i64 lo := hall 5 (by decide)
  have x6e : x 6 = .agg #[.bool false, .slice A n c] := hall 6 (by decide)
  have x7e : x 7 = .int .i64 hi := hall 7 (by decide)
  have x8e : x 8 = .bool false := hall 8 (by decide)
  have x9e : x 9 = .bool false := hall 9 (by decide)
  simp only [putAll, dstOf, Act.put, List.map_cons, List.map_nil, List.setIfInBounds_toArray, List.set_cons_succ, List.set_cons_zero, Nat.reduceAdd, x0e, x1e, x2e, x3e, x4e, x5e, x6e, x7e, x8e, x9e]
  clear x0e x1e x2e x3e x4e x5e x6e x7e x8e x9e hall
  have HQ1 := Lib.hid (Q1.out.below hT Q1.out.lt)
  have HB1 := Lib.hid (HB3.out.trans (hT.mono HB3.out.size))
  have hz1 : w.heap.size + 1 ≤ w1.heap.size := by have := hT.size; have := HS3.out; omega
  clear hT Q1 HB3 HS3
  have HT := Lib.hid (term_one w1)
  go_wp2_with fail
  refine HT.out.mono ?_
  rintro en w5 ⟨v, rfl, hb5, hq⟩
  obtain ⟨A7, n7, c7, rfl⟩ := hq.form
  have hX : ∀ W, W = (w5.alloc (.cells #[.bool false, .slice A7 n7 c7] 34)).alloc (.cells #[.slice (some ⟨w5.heap.size, 0, none⟩) 1 1] 92) → KnS (w5.heap.size + 1) w.heap.size (w.heap.size + 1) (A, n, c) l (.slice (some ⟨w5.heap.size, 0, none⟩) 1 1) [(A7, n7, c7)] W ∧ Below w.heap.size w W := by
    intro W hW
    subst hW
    have e1 : w.heap.size + 1 ≤ w5.heap.size := Nat.le_trans hz1 hb5.size
    have b1 : Below w5.heap.size w5 ((w5.alloc (.cells #[.bool false, .slice A7 n7 c7] 34)).alloc (.cells #[.slice (some ⟨w5.heap.size, 0, none⟩) 1 1] 92)) := ((Below.refl _ _).alloc (Nat.le_refl _) _).alloc (by simp) _
    have b2 : Below w.heap.size w ((w5.alloc (.cells #[.bool false, .slice A7 n7 c7] 34)).alloc (.cells #[.slice (some ⟨w5.heap.size, 0, none⟩) 1 1] 92)) := (HB1.out.trans (hb5.mono HB1.out.size)).trans (b1.mono (by omega))
    have qz := (HQ1.out.below hb5 HQ1.out.lt).below b1 (by omega)
    refine ⟨⟨Arr.newAt (w5.alloc _) _ [_] _ (by simp), ((OwnA.lit (w := w5) (e := 34) (sz := 2) (enc := encP) (xs := [(A7, n7, c7)]) (fun x _ => rfl) (Nat.le_refl _) (by simp) (by simp)).low e1).alloc _, by simp, fun i hi => ?_, qz, ⟨l, HPV.out _ b2, HOK.out.1, HOK.out.2, fun e => rfl⟩, fun e => ?_⟩, b2⟩
    · have : i = 0 := by simp at hi; omega
      subst this
      exact hq.below b1
    · simp [Value.ownBlock] at e
      omega
  have hge := Nat.le_trans hz1 hb5.size
  clear HT hb5 hq
  go_wp2_with fail
  go_ret
  obtain ⟨k1, k2⟩ := hX _ rfl
  exact ⟨(A, n, c), _, _, _, rfl, rfl, k1, by omega, k2⟩
end Go.Proofs.YtnmidhlghhephaaGreatDoor

namespace Go.Proofs.YtnmidhlghhephaaGreatDoor
open Go.RowKit
set_option linter.unusedVariables false
def setT (LA LZ : Int → List T1) (t : T2) : List T1 := prs (prs [(0, t.2)] (LA t.1.1)) (LZ t.1.2)
/-- the sum of the terms in which a and z are replaced -/
def setL (LA LZ : Int → List T1) (l : List T2) : List T1 := l.flatMap (setT LA LZ)
theorem setL_snoc (LA LZ : Int → List T1) (l : List T2) (t : T2) : setL LA LZ (l ++ [t]) = setL LA LZ l ++ setT LA LZ t := by unfold setL; rw [List.flatMap_append, List.flatMap_cons, List.flatMap_nil, List.append_nil]
theorem setL_take {LA LZ : Int → List T1} {l : List T2} {i : Nat} (h : i < l.length) : setL LA LZ (l.take (i + 1)) = setL LA LZ (l.take i) ++ setT LA LZ l[i] := by rw [take_snocB h, setL_snoc]
theorem setL_le (LA LZ : Int → List T1) (l : List T2) (i : Nat) : asum1 (setL LA LZ (l.take i)) ≤ asum1 (setL LA LZ l) := by
  have h : l = l.take i ++ l.drop i := (List.take_append_drop i l).symm
  have e : setL LA LZ l = setL LA LZ (l.take i) ++ setL LA LZ (l.drop i) := by
    conv => lhs; rw [h]
    unfold setL; rw [List.flatMap_append]
  rw [e, asum1_append]; omega
/-- all blocks but those of laurent's polynomials and their lists stay; those in G stay too; S is kept -/
structure KT (B0 : Nat) (G : List Nat) (S : World → Prop) (a b : World) : Prop where
  bel : Below B0 a b
  gd : ∀ k ∈ G, k < a.heap.size → b.heap[k]? = a.heap[k]?
  ty : ∀ (k : Nat) (cs : Array Value) (t : TypeId) (fr : Nat × Nat), a.heap[k]? = some (.cells cs t fr) → t ≠ 34 → t ≠ 92 → b.heap[k]? = a.heap[k]?
  st : S a → S b
theorem KT.trans {B0 : Nat} {G : List Nat} {S : World → Prop} {a b c : World} (h : KT B0 G S a b) (k : KT B0 G S b c) : KT B0 G S a c :=
  ⟨h.bel.trans k.bel, fun i hi hl => (k.gd i hi (Nat.lt_of_lt_of_le hl h.bel.size)).trans (h.gd i hi hl), fun i cs t fr hh h1 h2 => (k.ty i cs t fr ((h.ty i cs t fr hh h1 h2).trans hh) h1 h2).trans (h.ty i cs t fr hh h1 h2), fun s => k.st (h.st s)⟩
theorem KT.of_below {B0 : Nat} {G : List Nat} {S : World → Prop} (hS : ∀ a b, S a → Below a.heap.size a b → S b) {a b : World} (h : Below a.heap.size a b) (hB : B0 ≤ a.heap.size) : KT B0 G S a b :=
  ⟨h.mono hB, fun k _ hl => h.block k hl, fun k cs t fr hh _ _ => h.block k (heap_ltB hh), fun s => hS a b s h⟩
theorem KT.ql {B0 : Nat} {G : List Nat} {S : World → Prop} {a b : World} {v : Value} {L : List T1} (h : QL a v L) (k : KT B0 G S a b) : QL b v L := h.keepT fun i ⟨cs, fr, hh⟩ => k.ty i cs _ fr hh (by decide) (by decide)
theorem KT.arr {B0 i : Nat} {G : List Nat} {S : World → Prop} {a b : World} {t : TypeId} {cs : List Value} (h : Arr a i t cs) (k : KT B0 G S a b) (hi : i ∈ G) : Arr b i t cs := (k.gd i hi h.lt).trans h
/-- what the functions of the powers owe (cZ: what the second one has captured) -/
structure PwJ (w : World) (fA fZ : Value) (LA LZ : Int → List T1) (okA okZ : Int → Prop) (KA KZ : FuncId) (cA : Value) (cZ : List Value) (S : List Nat → World → Prop) : Prop where
  eA : fA = .func (.func KA) #[] #[cA]
  eZ : fZ = .func (.func KZ) #[] cZ.toArray
  s1 : ∀ (G G' : List Nat) (a b : World), S G a → Below a.heap.size a b → (∀ k ∈ G', k ∈ G ∨ (a.heap.size ≤ k ∧ k < b.heap.size)) → S G' b
  s2 : ∀ (G : List Nat) (a : World) (g j : Nat) (u : Value) (cs : List Value), S G a → g ∈ G → Arr a g 34 cs → S G (a.setCell ⟨g, j, none⟩ u)
  nA : ∀ args W, (callFunc KA args).run Tryz.prog W = .ok (.enter KA args) W
  nZ : ∀ args W, (callFunc KZ args).run Tryz.prog W = .ok (.enter KZ args) W
  cA' : ∀ (G : List Nat) (n : Int) (W : World), okA n → S G W → w.heap.size ≤ W.heap.size → Calls Tryz.prog KA #[.int .i64 n, cA] W fun e w' => ∃ v, e = .returned v ∧ QL w' v (LA n) ∧ KT w.heap.size G (S G) W w'
  cZ' : ∀ (G : List Nat) (n : Int) (W : World), okZ n → S G W → w.heap.size ≤ W.heap.size → Calls Tryz.prog KZ (.int .i64 n :: cZ).toArray W fun e w' => ∃ v, e = .returned v ∧ QL w' v (LZ n) ∧ KT w.heap.size G (S G) W w'
def SetR (L : List T1) (w : World) (e : Ending) (w' : World) : Prop := ∃ (A : Option Addr) (n c : Nat), e = .returned (.tuple #[.agg #[.bool false, .slice A n c], .int .i64 0]) ∧ QL w' (.agg #[.bool false, .slice A n c]) L ∧ Below w.heap.size w w'
set_option maxHeartbeats 8000000 in
set_option maxRecDepth 100000 in
theorem Set_walk2 (vp va vz : Value) (l : List T2) (la lz : List T1) (w : World) (PsiA PsiZ : Value → World → Prop) (LA LZ : Int → List T1) (okA okZ : Int → Prop)
    (hp : PolyB w vp (some l)) (ha : PolyV w va (some la)) (hz : PolyV w vz (some lz)) (oka : okP (some la)) (hua : unitP (some la) = true) (lp : Lim2 l) (kp : Can2 l) (hl : l.length ≤ 10000) (hnn : ∀ t ∈ l, 0 ≤ t.1.2)
    (hPA : ∀ W, Below w.heap.size w W → w.heap.size + 4 ≤ W.heap.size → Calls Tryz.prog 22 #[va] W fun e w' => ∃ v, e = .returned v ∧ Below W.heap.size W w' ∧ PsiA v w')
    (hPZ : ∀ W, Below w.heap.size w W → w.heap.size + 4 ≤ W.heap.size → Calls Tryz.prog 22 #[vz] W fun e w' => ∃ v, e = .returned v ∧ Below W.heap.size W w' ∧ PsiZ v w')
    (hkA : ∀ v a b, PsiA v a → Below a.heap.size a b → PsiA v b) (hkZ : ∀ v a b, PsiZ v a → Below a.heap.size a b → PsiZ v b)
    (hJ : ∀ fA fZ W, PsiA fA W → PsiZ fZ W → ∃ (KA KZ : FuncId) (cA cZ1 cZ2 : Value) (S : List Nat → World → Prop), PwJ w fA fZ LA LZ okA okZ KA KZ cA [cZ1, cZ2] S ∧ S [w.heap.size + 3] W)
    (hokA : ∀ t ∈ l, okA t.1.1) (hokZ : ∀ t ∈ l, okZ t.1.2) (hEA : ∀ t ∈ l, Eb1 400000 (LA t.1.1)) (hEZ : ∀ t ∈ l, Eb1 400000 (LZ t.1.2)) (hA1 : ∀ t ∈ l, asum1 (LA t.1.1) ≤ 1) (hZ1 : ∀ t ∈ l, 1 ≤ asum1 (LZ t.1.2)) (hsum : asum1 (setL LA LZ l) ≤ 1125899906842624) :
    Calls Tryz.prog 10 #[vp, va, vz] w (SetR (setL LA LZ l) w) := by
  have HP := Lib.hid (fun W (hb : Below w.heap.size w W) => hp.below hb)
  have HBA := Lib.hid (fun W (hb : Below w.heap.size w W) => Big_any va (some la) W (ha.below hb))
  have HBZ := Lib.hid (fun W (hb : Below w.heap.size w W) => Big_any vz (some lz) W (hz.below hb))
  have HUN := Lib.hid (fun W (hb : Below w.heap.size w W) => unit_any va (some la) W (ha.below hb) oka)
  rw [hua] at HUN
  have HPA := Lib.hid hPA
  have HPZ := Lib.hid hPZ
  have HKA := Lib.hid hkA
  have HKZ := Lib.hid hkZ
  have HJ := Lib.hid hJ
  have HOK := Lib.hid (And.intro hokA hokZ)
  have HEE := Lib.hid (And.intro hEA hEZ)
  have HA1 := Lib.hid (And.intro hA1 hZ1)
  have HSU := Lib.hid hsum
  have HLP := Lib.hid (And.intro lp hnn)
  have HKP := Lib.hid kp
  obtain ⟨bA, Aa, na, ca0, rfl, jA, -⟩ := ha.parts
  have jb : bA = false := jA
  subst jb
  obtain ⟨bZ, Az, nz, cz0, rfl, jZ, -⟩ := hz.parts
  have jb : bZ = false := jZ
  subst jb
  obtain ⟨A, c, rfl, _⟩ := hp
  simp only [Option.isNone_some, Option.getD_some] at HP ⊢
  have hW : ∀ W, W = (((w.alloc (.cells #[.bool false, .slice A l.length c] 29)).alloc (.cells #[.bool false, .slice Aa na ca0] 34)).alloc (.cells #[.bool false, .slice Az nz cz0] 34)).alloc (.cells #[.bool false, .slice none 0 0] 34) → Arr W w.heap.size 29 [.bool false, .slice A l.length c] ∧ Arr W (w.heap.size + 1) 34 [.bool false, .slice Aa na ca0] ∧ Arr W (w.heap.size + 2) 34 [.bool false, .slice Az nz cz0] ∧ Arr W (w.heap.size + 3) 34 [.bool false, .slice none 0 0] ∧ Below w.heap.size w W ∧ W.heap.size = w.heap.size + 4 := by
    intro W hW
    subst hW
    exact ⟨(((Arr.new _ _ [_, _]).alloc _).alloc _).alloc _, ((Arr.newAt (w.alloc _) _ [_, _] _ (by simp)).alloc _).alloc _, (Arr.newAt ((w.alloc _).alloc _) _ [_, _] _ (by simp)).alloc _, Arr.newAt (((w.alloc _).alloc _).alloc _) _ [_, _] _ (by simp), ((((Below.refl _ _).alloc (Nat.le_refl _) _).alloc (by simp) _).alloc (by simp <;> omega) _).alloc (by simp <;> omega) _, by simp⟩
  clear ha hz jA jZ hPA hPZ hkA hkZ hJ hokA hokZ hEA hEZ hA1 hZ1 hsum lp kp hnn hua oka
  go_enter Tryz.func10, Tryz.ntmps10
  go_upto_region 1 with fail
  generalize (((w.alloc (.cells #[.bool false, .slice A l.length c] 29)).alloc (.cells #[.bool false, .slice Aa na ca0] 34)).alloc (.cells #[.bool false, .slice Az nz cz0] 34)).alloc (.cells #[.bool false, .slice none 0 0] 34) = w3 at hW ⊢
  obtain ⟨qp, qa, qz, qr, hb3, hs3⟩ := hW w3 rfl
  clear hW
  have y0 := qp.cell 0
  have y1 := qa.cell 0
  have y2 := qa.cell 1
  have B1 := Lib.hid (HBA.out w3 hb3)
  go_wp2_with fail
  refine B1.out.mono ?_
  rintro e w4 ⟨rfl, hb4⟩
  have hb3' := hb3.trans (hb4.mono hb3.size)
  have q3p := qp.below hb4 qp.lt
  have q3a := qa.below hb4 qa.lt
  have q3z := qz.below hb4 qz.lt
  have q3r := qr.below hb4 qr.lt
  have hs4 := hb4.size
  have y3 := q3z.cell 0
  have y4 := q3z.cell 1
  have B2 := Lib.hid (HBZ.out w4 hb3')
  clear y0 y1 y2 B1 qp qa qz qr hb3 hb4
  go_wp2_with fail
  refine B2.out.mono ?_
  rintro e w5 ⟨rfl, hb5⟩
  have qp := q3p.below hb5 q3p.lt
  have qa := q3a.below hb5 q3a.lt
  have qz := q3z.below hb5 q3z.lt
  have qr := q3r.below hb5 q3r.lt
  have hb6 := hb3'.trans (hb5.mono hb3'.size)
  have hs5 : w.heap.size + 4 ≤ w5.heap.size := by have := hb5.size; omega
  clear y3 y4 B2 q3p q3a q3z q3r hb3' hb5 hs3 hs4
  have y1 := qp.cell 1
  have HST := Lib.hid (show Arr w5 w.heap.size 29 [.bool false, .slice A l.length c] ∧ Arr w5 (w.heap.size + 1) 34 [.bool false, .slice Aa na ca0] ∧ Arr w5 (w.heap.size + 2) 34 [.bool false, .slice Az nz cz0] ∧ Arr w5 (w.heap.size + 3) 34 [.bool false, .slice none 0 0] ∧ Below w.heap.size w w5 ∧ w.heap.size + 4 ≤ w5.heap.size from ⟨qp, qa, qz, qr, hb6, hs5⟩)
  clear qp qa qz qr hb6 hs5
  go_wp2_with fail
  clear y1
  go_loopg [8, 33] l.length (fun gk s8 s33 wr => ∃ (i : Nat), i ≤ l.length ∧ gk = l.length - i ∧ s33 = .int .i64 (i : Int) ∧ s8 = .int .i64 0 ∧ Hid (Arr wr w.heap.size 29 [.bool false, .slice A l.length c] ∧ Arr wr (w.heap.size + 1) 34 [.bool false, .slice Aa na ca0] ∧ Arr wr (w.heap.size + 2) 34 [.bool false, .slice Az nz cz0] ∧ Arr wr (w.heap.size + 3) 34 [.bool false, .slice none 0 0] ∧ Below w.heap.size w wr ∧ w.heap.size + 4 ≤ wr.heap.size))
  case atStart => exact ⟨0, Nat.zero_le _, rfl, rfl, rfl, HST⟩
  case round =>
    clear HST
    obtain ⟨i, hi, rfl, rfl, rfl, HR⟩ := hrel
    by_cases hlt : i < l.length
    · have z1 : (i : Int) < (l.length : Int) := by omega
      obtain ⟨b, o', rfl, _, hc0, hc1, hc2⟩ := (HP.out wr HR.out.2.2.2.2.1).tm_some.at_ hlt
      have hnz := HLP.out.2 _ (List.getElem_mem hlt)
      have hea := HLP.out.1.ea _ (List.getElem_mem hlt)
      have hez := HLP.out.1.ez _ (List.getElem_mem hlt)
      generalize l[i].1.1 = ta at *
      generalize l[i].1.2 = tz at *
      generalize l[i].2 = tc at *
      have hWo : ∀ W, W = wr.alloc (.cells #[.int .i64 ta, .int .i64 tz, .int .i64 tc] 49) → Arr W wr.heap.size 49 [.int .i64 ta, .int .i64 tz, .int .i64 tc] ∧ Below wr.heap.size wr W := by
        intro W hW
        subst hW
        exact ⟨Arr.new _ _ [_, _, _], (Below.refl _ _).alloc (Nat.le_refl _) _⟩
      go_upto_region 7 with fail
      generalize wr.alloc (.cells #[.int .i64 ta, .int .i64 tz, .int .i64 tc] 49) = w6 at hWo ⊢
      obtain ⟨qt, hb6⟩ := hWo w6 rfl
      obtain ⟨B10, hB10⟩ : ∃ B, B = wr.heap.size := ⟨_, rfl⟩
      rw [← hB10] at qt ⊢
      have HF := Lib.hid (show Arr w6 w.heap.size 29 [.bool false, .slice (some ⟨b, o', none⟩) l.length c] ∧ Arr w6 (w.heap.size + 1) 34 [.bool false, .slice Aa na ca0] ∧ Arr w6 (w.heap.size + 2) 34 [.bool false, .slice Az nz cz0] ∧ Arr w6 (w.heap.size + 3) 34 [.bool false, .slice none 0 0] ∧ Below w.heap.size w w6 ∧ w.heap.size + 4 ≤ w6.heap.size from
        ⟨HR.out.1.below hb6 HR.out.1.lt, HR.out.2.1.below hb6 HR.out.2.1.lt, HR.out.2.2.1.below hb6 HR.out.2.2.1.lt, HR.out.2.2.2.1.below hb6 HR.out.2.2.2.1.lt, HR.out.2.2.2.2.1.trans (hb6.mono HR.out.2.2.2.2.1.size), Nat.le_trans HR.out.2.2.2.2.2 hb6.size⟩)
      have hmx : ∀ ty (W : World), (Builtin.max_ #[3, 3] ty #[.int .i64 0, .int .i64 (-tz)]).run Tryz.prog W = .ok (.int .i64 0) W := fun ty W => by
        rw [run_max_int2, if_neg (by omega)]
      have hmx0 : tz = 0 → ∀ ty (W : World), (Builtin.max_ #[3, 3] ty #[.int .i64 0, .int .i64 0]).run Tryz.prog W = .ok (.int .i64 0) W := fun _ ty W => by
        rw [run_max_int2, if_neg (by omega)]
      clear hc0 hc1 hc2 HR hWo hB10
      by_cases hneg : ta < 0
      · have y0 := qt.cell 0
        have x0 := HF.out.2.1.cell 0
        have x1 := HF.out.2.1.cell 1
        have U := Lib.hid (HUN.out w6 HF.out.2.2.2.2.1)
        go_wp2_with fail
        refine U.out.mono ?_
        rintro e w7 ⟨rfl, hb7⟩
        have qt7 := qt.below hb7 qt.lt
        have y1 := qt7.cell 1
        have HF7 := Lib.hid (show Arr w7 w.heap.size 29 [.bool false, .slice (some ⟨b, o', none⟩) l.length c] ∧ Arr w7 (w.heap.size + 1) 34 [.bool false, .slice Aa na ca0] ∧ Arr w7 (w.heap.size + 2) 34 [.bool false, .slice Az nz cz0] ∧ Arr w7 (w.heap.size + 3) 34 [.bool false, .slice none 0 0] ∧ Below w.heap.size w w7 ∧ w.heap.size + 4 ≤ w7.heap.size from
          ⟨HF.out.1.below hb7 HF.out.1.lt, HF.out.2.1.below hb7 HF.out.2.1.lt, HF.out.2.2.1.below hb7 HF.out.2.2.1.lt, HF.out.2.2.2.1.below hb7 HF.out.2.2.2.1.lt, HF.out.2.2.2.2.1.trans (hb7.mono HF.out.2.2.2.2.1.size), Nat.le_trans HF.out.2.2.2.2.2 hb7.size⟩)
        clear y0 x0 x1 U qt qt7 hb7
        go_wp2_with fail
        go_roundg (l.length - (i + 1))
        case measure => omega
        case rel => exact ⟨i + 1, by omega, rfl, by go_num, rfl, HF7⟩
      · have z3 : decide (ta < 0) = false := decide_eq_false hneg
        have y0 := qt.cell 0
        have y1 := qt.cell 1
        go_wp2_with fail
        go_roundg (l.length - (i + 1))
        case measure => omega
        case rel => exact ⟨i + 1, by omega, rfl, by go_num, rfl, HF⟩
    · have z1 : ¬ (i : Int) < (l.length : Int) := by omega
      go_upto_region 11 with fail
      have QA := Lib.hid HR.out.2.1
      have QZ := Lib.hid HR.out.2.2.1
      have HB3 := Lib.hid HR.out.2.2.2.2.1
      have HZ3 := Lib.hid HR.out.2.2.2.2.2
      refine wp_region_phy (fun a b => Below a.heap.size a b) (fun h k => h.trans (k.mono h.size)) ((Below.refl _ _).drew) (by kernel_rfl) (by kernel_rfl) (by kernel_rfl) (by kernel_rfl) (phiT (fun i => ([some (.agg #[.bool false, .slice Aa na ca0]), none, some (.agg #[.bool false, .slice Az nz cz0]), none, none, none] : List (Option Value)).getD i none) (fun i v w => (if i = 1 then (fun v w => PsiA v w) v w else (if i = 3 then (fun v w => PsiZ v w) v w else (if i = 4 then (fun v w => PsiA v w) v w else (if i = 5 then (fun v w => PsiZ v w) v w else True)))))) (fun i v w w' h hb => ?_) ⟨?_, ?_, ?_, ?_, ?_, ?_, trivial⟩ ?_
      · unfold phiT at h ⊢
        split
        · next u hu => rw [hu] at h; exact h
        · next hu =>
          rw [hu] at h
          simp only at h ⊢
          by_cases q1 : i = 1
          · rw [if_pos q1] at h ⊢; exact HKA.out _ _ _ h hb
          · rw [if_neg q1] at h ⊢
            by_cases q3 : i = 3
            · rw [if_pos q3] at h ⊢; exact HKZ.out _ _ _ h hb
            · rw [if_neg q3] at h ⊢
              by_cases q4 : i = 4
              · rw [if_pos q4] at h ⊢; exact HKA.out _ _ _ h hb
              · rw [if_neg q4] at h ⊢
                by_cases q5 : i = 5
                · rw [if_pos q5] at h ⊢; exact HKZ.out _ _ _ h hb
                · rw [if_neg q5] at h ⊢
                  trivial
      · intro x w1 bA hT hdep hold hb
        refine .inl ⟨trivial, ?_⟩
        have e4 : bA.tmps[4]?.getD undef = .pointer (some ⟨w.heap.size + 1, 0, none⟩) := hb 4
        have cc0 := (QA.out.below hT QA.out.lt).cell 0
        have cc1 := (QA.out.below hT QA.out.lt).cell 1
        refine phx_run (.agg #[.bool false, .slice Aa na ca0]) ?_ (Below.refl _ _) rfl
        clear hb hdep hold
        go_simp
      · intro x w1 bA hT hdep hold hb
        refine .inl ⟨trivial, ?_⟩
        have e52 : bA.tmps[52]?.getD undef = .agg #[.bool false, .slice Aa na ca0] := (hb 52).trans (hdep 0 (by decide))
        refine phx_call ?_ ((HPA.out w1 (HB3.out.trans (hT.mono HB3.out.size)) (Nat.le_trans HZ3.out hT.size)).mono fun e w' h => h)
        clear hb hdep hold
        go_simp
      · intro x w1 bA hT hdep hold hb
        refine .inl ⟨trivial, ?_⟩
        have e5 : bA.tmps[5]?.getD undef = .pointer (some ⟨w.heap.size + 2, 0, none⟩) := hb 5
        have cc0 := (QZ.out.below hT QZ.out.lt).cell 0
        have cc1 := (QZ.out.below hT QZ.out.lt).cell 1
        refine phx_run (.agg #[.bool false, .slice Az nz cz0]) ?_ (Below.refl _ _) rfl
        clear hb hdep hold
        go_simp
      · intro x w1 bA hT hdep hold hb
        refine .inl ⟨trivial, ?_⟩
        have e54 : bA.tmps[54]?.getD undef = .agg #[.bool false, .slice Az nz cz0] := (hb 54).trans (hdep 2 (by decide))
        refine phx_call ?_ ((HPZ.out w1 (HB3.out.trans (hT.mono HB3.out.size)) (Nat.le_trans HZ3.out hT.size)).mono fun e w' h => h)
        clear hb hdep hold
        go_simp
      · intro x w1 bA hT hdep hold hb
        refine .inl ⟨trivial, ?_⟩
        have p53 := hdep 1 (by decide)
        have e53 : bA.tmps[53]?.getD undef = x 1 := hb 53
        generalize x 1 = x53 at *
        have P53 := Lib.hid (show (fun v w => PsiA v w) x53 w1 from p53)
        clear p53
        refine phx_run (x53) ?_ (Below.refl _ _) (P53.out)
        clear hb hdep hold
        go_simp
      · intro x w1 bA hT hdep hold hb
        refine .inl ⟨trivial, ?_⟩
        have p55 := hdep 3 (by decide)
        have e55 : bA.tmps[55]?.getD undef = x 3 := hb 55
        generalize x 3 = x55 at *
        have P55 := Lib.hid (show (fun v w => PsiZ v w) x55 w1 from p55)
        clear p55
        refine phx_run (x55) ?_ (Below.refl _ _) (P55.out)
        clear hb hdep hold
        go_simp
      intro x w1 hT hall
      have x0e : x 0 = .agg #[.bool false, .slice Aa na ca0] := hall 0 (by decide)
      have p53 := hall 1 (by decide)
      have x2e : x 2 = .agg #[.bool false, .slice Az nz cz0] := hall 2 (by decide)
      have p55 := hall 3 (by decide)
      have p11 := hall 4 (by decide)
      have p12 := hall 5 (by decide)
      simp only [putAll, dstOf, Act.put, List.map_cons, List.map_nil, List.setIfInBounds_toArray, List.set_cons_succ, List.set_cons_zero, Nat.reduceAdd, x0e, x2e]
      clear x0e x2e hall
      clear p53 p55
      obtain ⟨KA, KZ, cA, cZ1, cZ2, S, hJJ, hS0⟩ := HJ.out (x 4) (x 5) w1 p11 p12
      rw [hJJ.eA, hJJ.eZ]
      have HJJ := Lib.hid hJJ
      have QP := Lib.hid (HR.out.1.below hT HR.out.1.lt)
      have QR := Lib.hid (HR.out.2.2.2.1.below hT HR.out.2.2.2.1.lt)
      have HB1 := Lib.hid (HB3.out.trans (hT.mono HB3.out.size))
      have HZ1 := Lib.hid (Nat.le_trans HZ3.out hT.size)
      have HS0 := Lib.hid hS0
      clear p11 p12 hJJ hS0 hT QA QZ HB3 HZ3 HR HJ HPA HPZ HKA HKZ HBA HBZ HUN
      obtain ⟨B13, hB13⟩ : ∃ B, B = w1.heap.size := ⟨_, rfl⟩
      have hW : ∀ W, W = w1.alloc (.cells #[.bool false, .slice none 0 0] 34) → Arr W w.heap.size 29 [.bool false, .slice A l.length c] ∧ Arr W (w.heap.size + 3) 34 [.bool false, .slice none 0 0] ∧ Arr W B13 34 [.bool false, .slice none 0 0] ∧ S [w.heap.size + 3, B13] W ∧ Below w.heap.size w W ∧ B13 < W.heap.size := by
        intro W hW
        subst hW
        rw [hB13]
        refine ⟨QP.out.alloc _, QR.out.alloc _, Arr.new _ _ [_, _], HJJ.out.s1 _ _ _ _ HS0.out ((Below.refl _ _).alloc (Nat.le_refl _) _) fun k hk => ?_, HB1.out.alloc HB1.out.size _, by simp⟩
        simp only [List.mem_cons, List.not_mem_nil, or_false] at hk ⊢
        rcases hk with rfl | rfl
        · exact .inl rfl
        · exact .inr ⟨Nat.le_refl _, by simp⟩
      have HG13 := Lib.hid (show w.heap.size + 4 ≤ B13 from by rw [hB13]; exact HZ1.out)
      go_upto_region 13 with fail
      rw [← hB13]
      generalize w1.alloc (.cells #[.bool false, .slice none 0 0] 34) = w2 at hW ⊢
      obtain ⟨qp, qr, qt, hs2, hb2, hl2⟩ := hW w2 rfl
      have y1 := qp.cell 1
      have HST := Lib.hid (show ∃ (At : Option Addr) (nt ct : Nat), Arr w2 w.heap.size 29 [.bool false, .slice A l.length c] ∧ Arr w2 (w.heap.size + 3) 34 [.bool false, .slice none 0 0] ∧ Arr w2 B13 34 [.bool false, .slice At nt ct] ∧ QL w2 (.agg #[.bool false, .slice At nt ct]) (setL LA LZ (l.take 0)) ∧ S [w.heap.size + 3, B13] w2 ∧ Below w.heap.size w w2 from ⟨none, 0, 0, qp, qr, qt, QL.zero _, hs2, hb2⟩)
      clear hW qp qr qt hs2 hb2 hl2 QP QR HB1 HZ1 HS0 hB13
      go_wp2_with fail
      clear y1
      go_loopg [59] l.length (fun gk s59 wr => ∃ (i : Nat), i ≤ l.length ∧ gk = l.length - i ∧ s59 = .int .i64 (i : Int) ∧ Hid (∃ (At : Option Addr) (nt ct : Nat), Arr wr w.heap.size 29 [.bool false, .slice A l.length c] ∧ Arr wr (w.heap.size + 3) 34 [.bool false, .slice none 0 0] ∧ Arr wr B13 34 [.bool false, .slice At nt ct] ∧ QL wr (.agg #[.bool false, .slice At nt ct]) (setL LA LZ (l.take i)) ∧ S [w.heap.size + 3, B13] wr ∧ Below w.heap.size w wr))
      case atStart => exact ⟨0, Nat.zero_le _, rfl, rfl, HST⟩
      case round =>
        clear HST
        obtain ⟨i, hi, rfl, rfl, HR⟩ := hrel
        obtain ⟨At, nt, ct, rp, rr, rt, rq, rs, rb⟩ := HR.out
        clear HR
        by_cases hlt : i < l.length
        · have z1 : (i : Int) < (l.length : Int) := by omega
          obtain ⟨b, o', rfl, _, hc0, hc1, hc2⟩ := (HP.out wr rb).tm_some.at_ hlt
          have HNX := Lib.hid (setL_take (LA := LA) (LZ := LZ) hlt)
          have HSL := Lib.hid (Nat.le_trans (setL_le LA LZ l (i + 1)) HSU.out)
          have hm := List.getElem_mem hlt
          have hcc := HLP.out.1.co _ hm
          have hc0n := HKP.out.nz _ hm
          have hez := HLP.out.1.ez _ hm
          have HOA := Lib.hid (HOK.out.1 _ hm)
          have HOZ := Lib.hid (HOK.out.2 _ hm)
          have HEA := Lib.hid (HEE.out.1 _ hm)
          have HEZ := Lib.hid (HEE.out.2 _ hm)
          have ha1 := HA1.out.1 _ hm
          have hz1 := HA1.out.2 _ hm
          have HST1 := Lib.hid (show setT LA LZ l[i] = prs (prs [(0, l[i].2)] (LA l[i].1.1)) (LZ l[i].1.2) from rfl)
          clear hm
          generalize setT LA LZ l[i] = stt at *
          generalize l[i].1.1 = ta at *
          generalize l[i].1.2 = tz at *
          generalize l[i].2 = tc at *
          have hst := HST1.out
          subst hst
          clear HST1
          rw [HNX.out] at HSL
          have hsl := HSL.out
          rw [asum1_append] at hsl
          have HAD := Lib.hid hsl
          have HM2 := Lib.hid (show asum1 (prs [(0, tc)] (LA ta)) * asum1 (LZ tz) ≤ 1125899906842624 from by rw [← asum1_prs]; omega)
          have HM1 := Lib.hid (show asum1 [((0 : Int), tc)] * asum1 (LA ta) ≤ 1125899906842624 from by
            have e1 : asum1 [((0 : Int), tc)] = tc.natAbs := by unfold asum1; unfold asum1; rfl
            rw [e1]
            have : tc.natAbs * asum1 (LA ta) ≤ tc.natAbs * 1 := Nat.mul_le_mul_left _ ha1
            omega)
          have HE0 := Lib.hid (show Eb1 0 [((0 : Int), tc)] from fun t ht => by rw [List.mem_singleton.1 ht]; simp)
          have HT66 := Lib.hid (fun W => TermQ tc 0 W hcc.1 hcc.2 hc0n (by decide) (by decide))
          have HWZ := Lib.hid (show IntKind.i64.wrap (tz + 0) = tz ∧ IntKind.i64.wrap tz = tz from ⟨by rw [Int.add_zero]; exact IntWalk.i64_in _ (by omega), IntWalk.i64_in _ (by omega)⟩)
          obtain ⟨TL, hTL⟩ : ∃ TL, TL = setL LA LZ (l.take i) := ⟨_, rfl⟩
          rw [← hTL] at rq HAD HNX
          clear hsl ha1 hz1 HSL hTL hc0n
          obtain ⟨B15, hB15⟩ : ∃ B, B = wr.heap.size := ⟨_, rfl⟩
          have hWo : ∀ W, W = wr.alloc (.cells #[.int .i64 ta, .int .i64 tz, .int .i64 tc] 49) → Arr W B15 49 [.int .i64 ta, .int .i64 tz, .int .i64 tc] ∧ Below wr.heap.size wr W ∧ S [w.heap.size + 3, B13, B15] W := by
            intro W hW
            subst hW
            rw [hB15]
            refine ⟨Arr.new _ _ [_, _, _], (Below.refl _ _).alloc (Nat.le_refl _) _, HJJ.out.s1 _ _ _ _ rs ((Below.refl _ _).alloc (Nat.le_refl _) _) fun k hk => ?_⟩
            simp only [List.mem_cons, List.not_mem_nil, or_false] at hk ⊢
            rcases hk with rfl | rfl | rfl
            · exact .inl (.inl rfl)
            · exact .inl (.inr rfl)
            · exact .inr ⟨Nat.le_refl _, by simp⟩
          go_upto_region 16 with fail
          rw [← hB15]
          generalize wr.alloc (.cells #[.int .i64 ta, .int .i64 tz, .int .i64 tc] 49) = w5 at hWo ⊢
          obtain ⟨q15, hb5, hs5⟩ := hWo w5 rfl
          obtain ⟨TT, hTT⟩ : ∃ TT, TT = KT w.heap.size [w.heap.size + 3, B13, B15] (S [w.heap.size + 3, B13, B15]) := ⟨_, rfl⟩
          have hz5 : w.heap.size ≤ w5.heap.size := Nat.le_trans rb.size hb5.size
          have hSB : ∀ a b, S [w.heap.size + 3, B13, B15] a → Below a.heap.size a b → S [w.heap.size + 3, B13, B15] b := fun a b h hb => HJJ.out.s1 _ _ _ _ h hb fun k hk => .inl hk
          have HTB := Lib.hid (show ∀ a b, TT w5 a → Below a.heap.size a b → TT a b from fun a b h hb => by
            subst hTT
            exact KT.of_below hSB hb (Nat.le_trans hz5 h.bel.size))
          have HT0 := Lib.hid (show TT w5 w5.drew from by
            subst hTT
            exact KT.of_below hSB (Below.refl _ _).drew hz5)
          have HTR := Lib.hid (show ∀ a b c, TT a b → TT b c → TT a c from fun a b c h k => by subst hTT; exact h.trans k)
          have HTQ := Lib.hid (show ∀ v L a b, QL a v L → TT a b → QL b v L from fun v L a b h k => by subst hTT; exact KT.ql h k)
          have HTS := Lib.hid (show ∀ W, TT w5 W → S [w.heap.size + 3, B13, B15] W ∧ w.heap.size ≤ W.heap.size from fun W h => by subst hTT; exact ⟨h.st hs5, Nat.le_trans hz5 h.bel.size⟩)
          have qt5 := rt.below hb5 rt.lt
          have HTG := Lib.hid (show ∀ W, TT w5 W → Arr W B13 34 [.bool false, .slice At nt ct] ∧ Arr W B15 49 [.int .i64 ta, .int .i64 tz, .int .i64 tc] from fun W h => by
            subst hTT
            exact ⟨KT.arr qt5 h (by simp), KT.arr q15 h (by simp)⟩)
          have HTV := Lib.hid (rq.below hb5)
          have HCA := Lib.hid (show (∀ args W, (callFunc KA args).run Tryz.prog W = .ok (.enter KA args) W) ∧ ∀ (n : Int) W, okA n → (S [w.heap.size + 3, B13, B15] W ∧ w.heap.size ≤ W.heap.size) → Calls Tryz.prog KA #[.int .i64 n, cA] W fun e w' => ∃ v, e = .returned v ∧ QL w' v (LA n) ∧ TT W w' from ⟨HJJ.out.nA, fun n W h1 h2 => by subst hTT; exact HJJ.out.cA' _ n W h1 h2.1 h2.2⟩)
          have HCZ := Lib.hid (show (∀ args W, (callFunc KZ args).run Tryz.prog W = .ok (.enter KZ args) W) ∧ ∀ (n : Int) W, okZ n → (S [w.heap.size + 3, B13, B15] W ∧ w.heap.size ≤ W.heap.size) → Calls Tryz.prog KZ #[.int .i64 n, cZ1, cZ2] W fun e w' => ∃ v, e = .returned v ∧ QL w' v (LZ n) ∧ TT W w' from ⟨HJJ.out.nZ, fun n W h1 h2 => by subst hTT; exact HJJ.out.cZ' _ n W h1 h2.1 h2.2⟩)
          have RP := Lib.hid (rp.below hb5 rp.lt)
          have RR := Lib.hid (rr.below hb5 rr.lt)
          have RB := Lib.hid (rb.trans (hb5.mono rb.size))
          have RZ := Lib.hid (rp.lt)
          have HTT := Lib.hid hTT
          have H15 := Lib.hid hB15
          have HLW := Lib.hid (And.intro rt.lt (And.intro rp.lt rr.lt))
          have HSB := Lib.hid hSB
          clear hc0 hc1 hc2 rp rr rt rq rs rb hWo q15 hb5 hs5 hSB qt5 hTT hB15 hz5 hcc hez
          refine wp_region_phx (TT) (fun h k => HTR.out _ _ _ h k) (HT0.out) 17 (by kernel_rfl) (by kernel_rfl) (by kernel_rfl) (by kernel_rfl) rfl (by kernel_rfl) (phiT (fun i => ([some (.agg #[.bool false, .slice At nt ct]), some (.pointer (some ⟨B15, 2, none⟩)), some (.int .i64 tc), none, some (.func (.func KA) #[] #[cA]), some (.pointer (some ⟨B15, 0, none⟩)), some (.int .i64 ta), none, none, some (.func (.func KZ) #[] #[cZ1, cZ2]), some (.pointer (some ⟨B15, 1, none⟩)), some (.int .i64 tz), some (.int .i64 0), some (.int .i64 tz), none, none, none, some (undef)] : List (Option Value)).getD i none) (fun i v w => (if i = 3 then (fun v w => QL w v [(0, tc)]) v w else (if i = 7 then (fun v w => QL w v (LA ta)) v w else (if i = 8 then (fun v w => QL w v (prs [(0, tc)] (LA ta))) v w else (if i = 14 then (fun v w => QL w v (LZ tz)) v w else (if i = 15 then (fun v w => QL w v (prs (prs [(0, tc)] (LA ta)) (LZ tz))) v w else (if i = 16 then (fun v w => QL w v (TL ++ prs (prs [(0, tc)] (LA ta)) (LZ tz))) v w else True)))))))) (fun i v w w' h hb => ?_) (fun _ W => ∃ (A : Option Addr) (n c : Nat), Arr W B13 34 [.bool false, .slice A n c] ∧ QL W (.agg #[.bool false, .slice A n c]) (TL ++ prs (prs [(0, tc)] (LA ta)) (LZ tz)) ∧ ∃ W1, TT w5 W1 ∧ ∃ u1 u2, W = (W1.setCell ⟨B13, 0, none⟩ u1).setCell ⟨B13, 1, none⟩ u2) ⟨?_, ?_, ?_, ?_, ?_, ?_, ?_, ?_, ?_, ?_, ?_, ?_, ?_, ?_, ?_, ?_, ?_, ?_, trivial⟩ ?_
          · unfold phiT at h ⊢
            split
            · next u hu => rw [hu] at h; exact h
            · next hu =>
              rw [hu] at h
              simp only at h ⊢
              by_cases q3 : i = 3
              · rw [if_pos q3] at h ⊢; exact HTQ.out _ _ _ _ h hb
              · rw [if_neg q3] at h ⊢
                by_cases q7 : i = 7
                · rw [if_pos q7] at h ⊢; exact HTQ.out _ _ _ _ h hb
                · rw [if_neg q7] at h ⊢
                  by_cases q8 : i = 8
                  · rw [if_pos q8] at h ⊢; exact HTQ.out _ _ _ _ h hb
                  · rw [if_neg q8] at h ⊢
                    by_cases q14 : i = 14
                    · rw [if_pos q14] at h ⊢; exact HTQ.out _ _ _ _ h hb
                    · rw [if_neg q14] at h ⊢
                      by_cases q15 : i = 15
                      · rw [if_pos q15] at h ⊢; exact HTQ.out _ _ _ _ h hb
                      · rw [if_neg q15] at h ⊢
                        by_cases q16 : i = 16
                        · rw [if_pos q16] at h ⊢; exact HTQ.out _ _ _ _ h hb
                        · rw [if_neg q16] at h ⊢
                          trivial
          · intro x w1 bA hT hdep hold hb
            refine ⟨fun _ => ?_, fun h => absurd h (by decide)⟩
            refine .inl ⟨trivial, ?_⟩
            have e13 : bA.tmps[13]?.getD undef = .pointer (some ⟨B13, 0, none⟩) := hb 13
            have cc0 := (HTG.out _ hT).1.cell 0
            have cc1 := (HTG.out _ hT).1.cell 1
            refine phx_run (.agg #[.bool false, .slice At nt ct]) ?_ (HTB.out _ _ hT (Below.refl _ _)) rfl
            clear hb hdep hold
            go_simp
          · intro x w1 bA hT hdep hold hb
            refine ⟨fun _ => ?_, fun h => absurd h (by decide)⟩
            refine .inl ⟨trivial, ?_⟩
            have e15 : bA.tmps[15]?.getD undef = .pointer (some ⟨B15, 0, none⟩) := hb 15
            refine phx_run (.pointer (some ⟨B15, 2, none⟩)) ?_ (HTB.out _ _ hT (Below.refl _ _)) rfl
            clear hb hdep hold
            go_simp
          · intro x w1 bA hT hdep hold hb
            refine ⟨fun _ => ?_, fun h => absurd h (by decide)⟩
            refine .inl ⟨trivial, ?_⟩
            have e64 : bA.tmps[64]?.getD undef = .pointer (some ⟨B15, 2, none⟩) := (hb 64).trans (hdep 1 (by decide))
            have ct := (HTG.out _ hT).2.cell 2
            refine phx_run (.int .i64 tc) ?_ (HTB.out _ _ hT (Below.refl _ _)) rfl
            clear hb hdep hold
            go_simp
          · intro x w1 bA hT hdep hold hb
            refine ⟨fun _ => ?_, fun h => absurd h (by decide)⟩
            refine .inl ⟨trivial, ?_⟩
            have e65 : bA.tmps[65]?.getD undef = .int .i64 tc := (hb 65).trans (hdep 2 (by decide))
            refine phx_call ?_ ((HT66.out w1).mono fun e w' h => (by obtain ⟨v, he, hb', hv⟩ := h; exact ⟨v, he, HTB.out _ _ hT hb', hv⟩))
            clear hb hdep hold
            go_simp
          · intro x w1 bA hT hdep hold hb
            refine ⟨fun _ => ?_, fun h => absurd h (by decide)⟩
            refine .inl ⟨trivial, ?_⟩
            have e11 : bA.tmps[11]?.getD undef = .func (.func KA) #[] #[cA] := hb 11
            refine phx_run (.func (.func KA) #[] #[cA]) ?_ (HTB.out _ _ hT (Below.refl _ _)) rfl
            clear hb hdep hold
            go_simp
          · intro x w1 bA hT hdep hold hb
            refine ⟨fun _ => ?_, fun h => absurd h (by decide)⟩
            refine .inl ⟨trivial, ?_⟩
            have e15 : bA.tmps[15]?.getD undef = .pointer (some ⟨B15, 0, none⟩) := hb 15
            refine phx_run (.pointer (some ⟨B15, 0, none⟩)) ?_ (HTB.out _ _ hT (Below.refl _ _)) rfl
            clear hb hdep hold
            go_simp
          · intro x w1 bA hT hdep hold hb
            refine ⟨fun _ => ?_, fun h => absurd h (by decide)⟩
            refine .inl ⟨trivial, ?_⟩
            have e68 : bA.tmps[68]?.getD undef = .pointer (some ⟨B15, 0, none⟩) := (hb 68).trans (hdep 5 (by decide))
            have ct := (HTG.out _ hT).2.cell 0
            refine phx_run (.int .i64 ta) ?_ (HTB.out _ _ hT (Below.refl _ _)) rfl
            clear hb hdep hold
            go_simp
          · intro x w1 bA hT hdep hold hb
            refine ⟨fun _ => ?_, fun h => absurd h (by decide)⟩
            refine .inl ⟨trivial, ?_⟩
            have e67 : bA.tmps[67]?.getD undef = .func (.func KA) #[] #[cA] := (hb 67).trans (hdep 4 (by decide))
            have e69 : bA.tmps[69]?.getD undef = .int .i64 ta := (hb 69).trans (hdep 6 (by decide))
            have eg := HCA.out.1
            have hS1 := HTS.out _ hT
            refine phx_call ?_ ((HCA.out.2 ta w1 HOA.out (HTS.out _ hT)).mono fun e w' h => (by obtain ⟨v, he, hv, ht⟩ := h; exact ⟨v, he, ht, hv⟩))
            clear hb hdep hold
            go_simp
          · intro x w1 bA hT hdep hold hb
            refine ⟨fun _ => ?_, fun h => absurd h (by decide)⟩
            refine .inl ⟨trivial, ?_⟩
            have p66 := hdep 3 (by decide)
            have e66 : bA.tmps[66]?.getD undef = x 3 := hb 66
            generalize x 3 = x66 at *
            have P66 := Lib.hid (show (fun v w => QL w v [(0, tc)]) x66 w1 from p66)
            clear p66
            have p70 := hdep 7 (by decide)
            have e70 : bA.tmps[70]?.getD undef = x 7 := hb 70
            generalize x 7 = x70 at *
            have P70 := Lib.hid (show (fun v w => QL w v (LA ta)) x70 w1 from p70)
            clear p70
            refine phx_call ?_ ((MulQ x66 x70 [(0, tc)] (LA ta) w1 P66.out P70.out HM1.out (N := 0) (M := 400000) HE0.out HEA.out (by omega)).mono fun e w' h => (by obtain ⟨v, he, hb', hv⟩ := h; exact ⟨v, he, HTB.out _ _ hT hb', hv⟩))
            clear hb hdep hold
            go_simp
          · intro x w1 bA hT hdep hold hb
            refine ⟨fun _ => ?_, fun h => absurd h (by decide)⟩
            refine .inl ⟨trivial, ?_⟩
            have e12 : bA.tmps[12]?.getD undef = .func (.func KZ) #[] #[cZ1, cZ2] := hb 12
            refine phx_run (.func (.func KZ) #[] #[cZ1, cZ2]) ?_ (HTB.out _ _ hT (Below.refl _ _)) rfl
            clear hb hdep hold
            go_simp
          · intro x w1 bA hT hdep hold hb
            refine ⟨fun _ => ?_, fun h => absurd h (by decide)⟩
            refine .inl ⟨trivial, ?_⟩
            have e15 : bA.tmps[15]?.getD undef = .pointer (some ⟨B15, 0, none⟩) := hb 15
            refine phx_run (.pointer (some ⟨B15, 1, none⟩)) ?_ (HTB.out _ _ hT (Below.refl _ _)) rfl
            clear hb hdep hold
            go_simp
          · intro x w1 bA hT hdep hold hb
            refine ⟨fun _ => ?_, fun h => absurd h (by decide)⟩
            refine .inl ⟨trivial, ?_⟩
            have e73 : bA.tmps[73]?.getD undef = .pointer (some ⟨B15, 1, none⟩) := (hb 73).trans (hdep 10 (by decide))
            have ct := (HTG.out _ hT).2.cell 1
            refine phx_run (.int .i64 tz) ?_ (HTB.out _ _ hT (Below.refl _ _)) rfl
            clear hb hdep hold
            go_simp
          · intro x w1 bA hT hdep hold hb
            refine ⟨fun _ => ?_, fun h => absurd h (by decide)⟩
            refine .inl ⟨trivial, ?_⟩
            have e8 : bA.tmps[8]?.getD undef = .int .i64 0 := hb 8
            refine phx_run (.int .i64 0) ?_ (HTB.out _ _ hT (Below.refl _ _)) rfl
            clear hb hdep hold
            go_simp
          · intro x w1 bA hT hdep hold hb
            refine ⟨fun _ => ?_, fun h => absurd h (by decide)⟩
            refine .inl ⟨trivial, ?_⟩
            have e74 : bA.tmps[74]?.getD undef = .int .i64 tz := (hb 74).trans (hdep 11 (by decide))
            have e75 : bA.tmps[75]?.getD undef = .int .i64 0 := (hb 75).trans (hdep 12 (by decide))
            have zw := HWZ.out
            have zz := Int.add_zero tz
            refine phx_run (.int .i64 tz) ?_ (HTB.out _ _ hT (Below.refl _ _)) rfl
            clear hb hdep hold
            go_simp
          · intro x w1 bA hT hdep hold hb
            refine ⟨fun _ => ?_, fun h => absurd h (by decide)⟩
            refine .inl ⟨trivial, ?_⟩
            have e72 : bA.tmps[72]?.getD undef = .func (.func KZ) #[] #[cZ1, cZ2] := (hb 72).trans (hdep 9 (by decide))
            have e76 : bA.tmps[76]?.getD undef = .int .i64 tz := (hb 76).trans (hdep 13 (by decide))
            have eg := HCZ.out.1
            refine phx_call ?_ ((HCZ.out.2 tz w1 HOZ.out (HTS.out _ hT)).mono fun e w' h => (by obtain ⟨v, he, hv, ht⟩ := h; exact ⟨v, he, ht, hv⟩))
            clear hb hdep hold
            go_simp
          · intro x w1 bA hT hdep hold hb
            refine ⟨fun _ => ?_, fun h => absurd h (by decide)⟩
            refine .inl ⟨trivial, ?_⟩
            have p71 := hdep 8 (by decide)
            have e71 : bA.tmps[71]?.getD undef = x 8 := hb 71
            generalize x 8 = x71 at *
            have P71 := Lib.hid (show (fun v w => QL w v (prs [(0, tc)] (LA ta))) x71 w1 from p71)
            clear p71
            have p77 := hdep 14 (by decide)
            have e77 : bA.tmps[77]?.getD undef = x 14 := hb 77
            generalize x 14 = x77 at *
            have P77 := Lib.hid (show (fun v w => QL w v (LZ tz)) x77 w1 from p77)
            clear p77
            refine phx_call ?_ ((MulQ x71 x77 (prs [(0, tc)] (LA ta)) (LZ tz) w1 P71.out P77.out HM2.out (N := 0 + 400000) (M := 400000) (HE0.out.mul HEA.out) HEZ.out (by omega)).mono fun e w' h => (by obtain ⟨v, he, hb', hv⟩ := h; exact ⟨v, he, HTB.out _ _ hT hb', hv⟩))
            clear hb hdep hold
            go_simp
          · intro x w1 bA hT hdep hold hb
            refine ⟨fun _ => ?_, fun h => absurd h (by decide)⟩
            refine .inl ⟨trivial, ?_⟩
            have e63 : bA.tmps[63]?.getD undef = .agg #[.bool false, .slice At nt ct] := (hb 63).trans (hdep 0 (by decide))
            have p78 := hdep 15 (by decide)
            have e78 : bA.tmps[78]?.getD undef = x 15 := hb 78
            generalize x 15 = x78 at *
            have P78 := Lib.hid (show (fun v w => QL w v (prs (prs [(0, tc)] (LA ta)) (LZ tz))) x78 w1 from p78)
            clear p78
            refine phx_call ?_ ((AddQ (.agg #[.bool false, .slice At nt ct]) x78 TL (prs (prs [(0, tc)] (LA ta)) (LZ tz)) w1 (HTQ.out _ _ _ _ HTV.out hT) P78.out HAD.out).mono fun e w' h => (by obtain ⟨v, he, hb', hv⟩ := h; exact ⟨v, he, HTB.out _ _ hT hb', hv⟩))
            clear hb hdep hold
            go_simp
          · intro x w1 bA hT hdep hold hb
            refine ⟨fun h => absurd h (by decide), fun _ hall => ?_⟩
            refine ⟨trivial, ?_⟩
            have e13 : bA.tmps[13]?.getD undef = .pointer (some ⟨B13, 0, none⟩) := hb 13
            have e79 : bA.tmps[79]?.getD undef = x 16 := hb 79
            have p66 := Lib.hid (show (fun v w => QL w v [(0, tc)]) (x 3) w1 from hall 3 (by decide))
            have p70 := Lib.hid (show (fun v w => QL w v (LA ta)) (x 7) w1 from hall 7 (by decide))
            have p71 := Lib.hid (show (fun v w => QL w v (prs [(0, tc)] (LA ta))) (x 8) w1 from hall 8 (by decide))
            have p77 := Lib.hid (show (fun v w => QL w v (LZ tz)) (x 14) w1 from hall 14 (by decide))
            have p78 := Lib.hid (show (fun v w => QL w v (prs (prs [(0, tc)] (LA ta)) (LZ tz))) (x 15) w1 from hall 15 (by decide))
            have p79 := Lib.hid (show (fun v w => QL w v (TL ++ prs (prs [(0, tc)] (LA ta)) (LZ tz))) (x 16) w1 from hall 16 (by decide))
            clear hb hdep hold
            obtain ⟨Az2, nz2, cz2, e79b⟩ := p79.out.form
            rw [e79b] at e79
            have HPV := Lib.hid (e79b ▸ p79.out)
            have q5 := (HTG.out _ hT).1
            have Q5b := Lib.hid q5
            have f0 := q5.frozen 0
            have f1 := q5.frozen 1
            have c0 := q5.cell 0
            have c1 := q5.cell 1
            have HBL := Lib.hid hT
            clear q5 e79b p66 p70 p71 p77 p78 p79 hT
            refine phx_st (R := fun W => ∃ (A : Option Addr) (n c : Nat), Arr W B13 34 [.bool false, .slice A n c] ∧ QL W (.agg #[.bool false, .slice A n c]) (TL ++ prs (prs [(0, tc)] (LA ta)) (LZ tz)) ∧ ∃ W1, TT w5 W1 ∧ ∃ u1 u2, W = (W1.setCell ⟨B13, 0, none⟩ u1).setCell ⟨B13, 1, none⟩ u2) ((w1.setCell ⟨B13, 0, none⟩ (.bool false)).setCell ⟨B13, 1, none⟩ (.slice Az2 nz2 cz2)) ?_ rfl ⟨Az2, nz2, cz2, (Q5b.out.set 0 _).set 1 _, HPV.out.box Q5b.out _ _, w1, HBL.out, _, _, rfl⟩
            go_simp
          intro x w1 hR
          simp only [putAll, dstOf, Act.put, List.map_cons, List.map_nil, List.setIfInBounds_toArray, List.set_cons_succ, List.set_cons_zero, Nat.reduceAdd]
          obtain ⟨An, nn, cn, h1, h2, W1, h3, u1, u2, h4⟩ := hR
          have HF := Lib.hid (show Arr w1 w.heap.size 29 [.bool false, .slice (some ⟨b, o', none⟩) l.length c] ∧ Arr w1 (w.heap.size + 3) 34 [.bool false, .slice none 0 0] ∧ Arr w1 B13 34 [.bool false, .slice An nn cn] ∧ QL w1 (.agg #[.bool false, .slice An nn cn]) (setL LA LZ (l.take (i + 1))) ∧ S [w.heap.size + 3, B13] w1 ∧ Below w.heap.size w w1 from by
            have g13 := (HTG.out W1 h3).1
            have s3 := (HTS.out W1 h3).1
            have hTT := HTT.out
            subst hTT
            have kh : ∀ k, k ≠ B13 → w1.heap[k]? = W1.heap[k]? := fun k hk => by
              rw [h4]
              exact (Below.heap_setCell _ ⟨B13, 1, none⟩ u2 k hk).trans (Below.heap_setCell W1 ⟨B13, 0, none⟩ u1 k hk)
            have hg := HG13.out
            have s4 : S [w.heap.size + 3, B13, B15] w1 := by
              rw [h4]
              exact HJJ.out.s2 _ _ B13 1 u2 _ (HJJ.out.s2 _ _ B13 0 u1 _ s3 (by simp) g13) (by simp) (g13.set 0 u1)
            refine ⟨(kh w.heap.size (by omega)).trans ((h3.ty _ _ _ _ RP.out (by decide) (by decide)).trans RP.out), (kh (w.heap.size + 3) (by omega)).trans (KT.arr RR.out h3 (by simp)), h1, by rw [HNX.out]; exact h2, HJJ.out.s1 _ _ _ _ s4 (Below.refl _ _) fun k hk => .inl ?_, ?_⟩
            · simp only [List.mem_cons, List.not_mem_nil, or_false] at hk ⊢
              rcases hk with rfl | rfl
              · exact .inl rfl
              · exact .inr (.inl rfl)
            · rw [h4]
              exact ((RB.out.trans h3.bel).setCell (p := ⟨B13, 0, none⟩) (by show w.heap.size ≤ B13; omega) u1).setCell (p := ⟨B13, 1, none⟩) (by show w.heap.size ≤ B13; omega) u2)
          have BG := Lib.hid (show Calls Tryz.prog 20 #[.agg #[.bool false, .slice An nn cn]] w1 fun e w' => e = .returned (.bool false) ∧ Below w1.heap.size w1 w' from by
            obtain ⟨l', e1, _⟩ := HF.out.2.2.2.1
            exact Big_any _ _ w1 e1)
          have c0 := h1.cell 0
          have c1 := h1.cell 1
          clear h1 h2 h3 h4 HTB HT0 HTR HTQ HTS HTG HTV HCA HCZ RP RR RB RZ HTT H15 HLW HSB
          go_wp2_with fail
          refine BG.out.mono ?_
          rintro e w6 ⟨rfl, hb6⟩
          have HF6 := Lib.hid (show ∃ (At : Option Addr) (nt ct : Nat), Arr w6 w.heap.size 29 [.bool false, .slice (some ⟨b, o', none⟩) l.length c] ∧ Arr w6 (w.heap.size + 3) 34 [.bool false, .slice none 0 0] ∧ Arr w6 B13 34 [.bool false, .slice At nt ct] ∧ QL w6 (.agg #[.bool false, .slice At nt ct]) (setL LA LZ (l.take (i + 1))) ∧ S [w.heap.size + 3, B13] w6 ∧ Below w.heap.size w w6 from
            ⟨An, nn, cn, HF.out.1.below hb6 HF.out.1.lt, HF.out.2.1.below hb6 HF.out.2.1.lt, HF.out.2.2.1.below hb6 HF.out.2.2.1.lt, HF.out.2.2.2.1.below hb6, HJJ.out.s1 _ _ _ _ HF.out.2.2.2.2.1 hb6 fun k hk => .inl hk, HF.out.2.2.2.2.2.trans (hb6.mono HF.out.2.2.2.2.2.size)⟩)
          clear BG c0 c1 hb6 HF
          go_wp2_with fail
          go_roundg (l.length - (i + 1))
          case measure => omega
          case rel => exact ⟨i + 1, by omega, rfl, by go_num, HF6⟩
        · have z1 : ¬ (i : Int) < (l.length : Int) := by omega
          have hkk : l.take i = l := List.take_of_length_le (by omega)
          rw [hkk] at rq
          have c0 := rt.cell 0
          have c1 := rt.cell 1
          have f0 := rr.frozen 0
          have f1 := rr.frozen 1
          have r0 := rr.cell 0
          have r1 := rr.cell 1
          have HQ := Lib.hid (rq.box rr (.bool false) (.slice At nt ct))
          have hres := Lib.hid ((rr.set 0 (.bool false)).set 1 (.slice At nt ct))
          have HBL := Lib.hid ((rb.setCell (p := ⟨w.heap.size + 3, 0, none⟩) (by simp) (.bool false)).setCell (p := ⟨w.heap.size + 3, 1, none⟩) (by simp) (.slice At nt ct))
          clear rp rr rt rq rs rb hkk
          go_wp2_with fail
          refine bodyPost_ret (v := .tuple #[.agg #[.bool false, .slice At nt ct], .int .i64 0]) (results_ct Tryz.results10 _ _ (w.heap.size + 3) 34 _ _ rfl hres.out Tryz.underlying34 rfl info_poly) rfl ?_
          exact ⟨At, nt, ct, rfl, HQ.out, HBL.out⟩
end Go.Proofs.YtnmidhlghhephaaGreatDoor

namespace Go.Proofs.YtnmidhlghhephaaGreatDoor
open Go.RowKit
set_option linter.unusedVariables false
def LAu (ea ca : Int) (n : Int) : List T1 := [(ea * n, pwU ca n)]
def LZp (zl : List T1) (n : Int) : List T1 := powL zl n.toNat
/-- what the list of powers and the unit's box are, and what they lie apart from -/
def SAZ (w : World) (Ba : Nat) (am : PM) (Bk Bz : Nat) (zm : PM) (zl : List T1) (G : List Nat) (W : World) : Prop :=
  Below w.heap.size w W ∧ Arr W Ba 34 [.bool false, .slice am.1 am.2.1 am.2.2] ∧ ∃ (s : Value) (ms : List PM), KnS Bk Bz (Bz + 1) zm zl s ms W ∧ ms.length ≤ 100000 ∧ s.ownBlock ≠ some Ba ∧ ∀ k ∈ G, w.heap.size ≤ k ∧ k < W.heap.size ∧ k ≠ Ba ∧ k ≠ Bz ∧ k ≠ Bk ∧ s.ownBlock ≠ some k
theorem SAZ.s1 {w : World} {Ba : Nat} {am : PM} {Bk Bz : Nat} {zm : PM} {zl : List T1} (G G' : List Nat) (a b : World) (h : SAZ w Ba am Bk Bz zm zl G a) (hb : Below a.heap.size a b) (hG : ∀ k ∈ G', k ∈ G ∨ (a.heap.size ≤ k ∧ k < b.heap.size)) : SAZ w Ba am Bk Bz zm zl G' b := by
  obtain ⟨h1, h2, s, ms, h3, h4, h5, h6⟩ := h
  refine ⟨h1.trans (hb.mono h1.size), h2.below hb h2.lt, s, ms, h3.below hb, h4, h5, fun k hk => ?_⟩
  rcases hG k hk with q | ⟨q1, q2⟩
  · obtain ⟨a1, a2, a3, a4, a5, a6⟩ := h6 k q
    exact ⟨a1, Nat.lt_of_lt_of_le a2 hb.size, a3, a4, a5, a6⟩
  · exact ⟨Nat.le_trans h1.size q1, q2, fun e => by have := h2.lt; omega, fun e => by have := h3.bz.lt; omega, fun e => by have := h3.bk.lt; omega, fun e => by have := h3.own.lt k e; omega⟩
theorem SAZ.s2 {w : World} {Ba : Nat} {am : PM} {Bk Bz : Nat} {zm : PM} {zl : List T1} (G : List Nat) (a : World) (g j : Nat) (u : Value) (cs : List Value) (h : SAZ w Ba am Bk Bz zm zl G a) (hg : g ∈ G) (ha : Arr a g 34 cs) : SAZ w Ba am Bk Bz zm zl G (a.setCell ⟨g, j, none⟩ u) := by
  obtain ⟨h1, h2, s, ms, h3, h4, h5, h6⟩ := h
  obtain ⟨a1, a2, a3, a4, a5, a6⟩ := h6 g hg
  have kh : ∀ k, k ≠ g → (a.setCell ⟨g, j, none⟩ u).heap[k]? = a.heap[k]? := fun k hk => Below.heap_setCell a ⟨g, j, none⟩ u k hk
  have kt : ∀ b, TB a b → (a.setCell ⟨g, j, none⟩ u).heap[b]? = a.heap[b]? := fun b hb => kh b (fun e => TB_ne (t := 34) (cs := cs) hb (by rw [e]; exact ha) (by decide))
  refine ⟨h1.setCell (p := ⟨g, j, none⟩) a1 u, (kh Ba (Ne.symm a3)).trans h2, s, ms, ⟨(kh Bk (Ne.symm a5)).trans h3.bk, h3.own.keepK fun k hk => kh k (fun e => a6 (by rw [← e]; exact hk)), h3.pos, fun i hi => (h3.el i hi).keepT kt, (kh Bz (Ne.symm a4)).trans h3.bz, h3.zv.keepT kt, h3.nz⟩, h4, h5, fun k hk => ?_⟩
  obtain ⟨b1, b2, b3⟩ := h6 k hk
  exact ⟨b1, by simpa using b2, b3⟩
theorem arr_ne_LL {W : World} {k k' : Nat} {cs cs' : List Value} (h : Arr W k 34 cs) (h' : Arr W k' 92 cs') : k ≠ k' := fun e => by
  rw [e] at h
  unfold Arr at h h'
  rw [h] at h'
  injection h' with h'
  injection h' with _ h2 _
  exact absurd h2 (by decide)
/-- what a call of the list of powers keeps -/
theorem SAZ.pow2 {w W w' : World} {Ba : Nat} {am : PM} {Bk Bz : Nat} {zm : PM} {zl : List T1} {G : List Nat} {s : Value} {ms : List PM} {n : Nat} {e : Ending} (hw : w.heap.size ≤ Bz + 1) (h1 : Below w.heap.size w W) (h2 : Arr W Ba 34 [.bool false, .slice am.1 am.2.1 am.2.2]) (h3 : KnS Bk Bz (Bz + 1) zm zl s ms W) (h5 : s.ownBlock ≠ some Ba) (h6 : ∀ k ∈ G, w.heap.size ≤ k ∧ k < W.heap.size ∧ k ≠ Ba ∧ k ≠ Bz ∧ k ≠ Bk ∧ s.ownBlock ≠ some k) (hr : Pow2R Bk Bz (Bz + 1) zm zl s n W e w') : ∃ v, e = .returned v ∧ QL w' v (powL zl n) ∧ KT w.heap.size G (SAZ w Ba am Bk Bz zm zl G) W w' := by
  obtain ⟨v, s', ms', he, hq, hk, hb, hf, ho, hm⟩ := hr
  refine ⟨v, he, hq, hb.mono hw, fun k hk2 hl => ?_, fun k cs t fr hh t1 t2 => ?_, fun _ => ?_⟩
  · obtain ⟨_, _, _, _, a5, a6⟩ := h6 k hk2
    exact hf k hl a5 a6
  · refine hf k (heap_ltB hh) (fun e => ?_) (fun e => ?_)
    · have := h3.bk
      rw [← e] at this
      unfold Arr at this
      rw [hh] at this
      injection this with this
      injection this with _ h2 _
      exact t2 h2
    · obtain ⟨cs', fr', hh'⟩ := OwnA.typB h3.own k e
      rw [hh] at hh'
      injection hh' with hh'
      injection hh' with _ h2 _
      exact t1 h2
  · have ne1 : ∀ k, k < W.heap.size → s.ownBlock ≠ some k → s'.ownBlock ≠ some k := fun k hl hne e => by
      rcases ho with ho | ho
      · exact hne (ho ▸ e)
      · have := ho k e; omega
    refine ⟨h1.trans (hb.mono hw), (hf Ba h2.lt (arr_ne_LL h2 h3.bk) h5).trans h2, s', ms', hk, hm, ne1 Ba h2.lt h5, fun k hk2 => ?_⟩
    obtain ⟨a1, a2, a3, a4, a5, a6⟩ := h6 k hk2
    exact ⟨a1, Nat.lt_of_lt_of_le a2 hb.size, a3, a4, a5, ne1 k a2 a6⟩
theorem unitP_one {ea ca : Int} (h : ca = 1 ∨ ca = -1) : unitP (some [(ea, ca)]) = true := by
  have e1 : lowL ((some [(ea, ca)] : Pol).getD []) = ea := rfl
  have e2 : highL ((some [(ea, ca)] : Pol).getD []) = ea := rfl
  have e3 : cf ((some [(ea, ca)] : Pol).getD []) ea = ca := by show cf [(ea, ca)] ea = ca; rw [cf_one, if_pos rfl]
  unfold unitP
  rw [e1, e2, e3]
  exact decide_eq_true ⟨rfl, h⟩
theorem okP_one {ea ca : Int} (h : ca = 1 ∨ ca = -1) (he : -1048576 ≤ ea ∧ ea ≤ 1048576) : okP (some [(ea, ca)]) := ⟨⟨by unfold Srt; simp, by simp; rcases h with h | h <;> rw [h] <;> decide⟩, ⟨by simp; rcases h with h | h <;> rw [h] <;> decide, by simp; exact he⟩⟩
theorem asum1_LAu {ea ca n : Int} (h : ca = 1 ∨ ca = -1) : asum1 (LAu ea ca n) = 1 := by
  unfold LAu asum1 asum1
  simp only
  rcases pwU_bd h n with q | q <;> rw [q] <;> rfl
theorem Tms.inj {W : World} {v : Value} {l l' : List T1} (h : Tms W v l) (h' : Tms W v l') : l = l' := by
  obtain ⟨A, c, rfl, hx⟩ := h
  obtain ⟨A', c', hv, hx'⟩ := h'
  injection hv with e1 e2 e3
  subst e1
  apply List.ext_getElem e2
  intro k h1 h2
  obtain ⟨b, o, hA, c1, c2, _⟩ := hx k h1
  obtain ⟨b', o', hA', c1', c2', _⟩ := hx' k h2
  rw [hA] at hA'
  injection hA' with hA'
  injection hA' with e4 e5
  subst e4 e5
  rw [c1] at c1'
  rw [c2] at c2'
  injection c1' with c1'
  injection c1' with _ c1'
  injection c2' with c2'
  injection c2' with _ c2'
  exact Prod.ext c1' c2'
theorem PolyV.inj {W : World} {v : Value} {l l' : List T1} (h : PolyV W v (some l)) (h' : PolyV W v (some l')) : l = l' := by
  obtain ⟨A, c, rfl, hx⟩ := h
  obtain ⟨A', c', hv, hx'⟩ := h'
  simp only [Value.agg.injEq, Array.mk.injEq, List.cons.injEq, Value.slice.injEq, Option.getD_some, Option.isNone_some, true_and, and_true] at hv hx hx'
  obtain ⟨rfl, e2, rfl⟩ := hv
  rw [← e2] at hx'
  exact hx.inj hx'
def PsA (w : World) (va v : Value) (W : World) : Prop := ∃ (am : PM) (Ba : Nat), va = .agg #[.bool false, .slice am.1 am.2.1 am.2.2] ∧ v = .func (.func 48) #[] #[.pointer (some ⟨Ba, 0, none⟩)] ∧ w.heap.size + 4 ≤ Ba ∧ Arr W Ba 34 [.bool false, .slice am.1 am.2.1 am.2.2] ∧ Below w.heap.size w W
def PsZ (w : World) (zl : List T1) (v : Value) (W : World) : Prop := ∃ (zm : PM) (Bk Bz g : Nat) (m : PM), v = .func (.func 50) #[] #[.pointer (some ⟨Bk, 0, none⟩), .pointer (some ⟨Bz, 0, none⟩)] ∧ KnS Bk Bz (Bz + 1) zm zl (.slice (some ⟨g, 0, none⟩) 1 1) [m] W ∧ Bz + 1 ≤ Bk ∧ w.heap.size + 4 ≤ Bz ∧ Bz + 1 ≤ g
theorem psA_any (va : Value) (ea ca : Int) (w : World) (ha : PolyV w va (some [(ea, ca)])) (ok : okP (some [(ea, ca)])) (W : World) (hb : Below w.heap.size w W) (hz : w.heap.size + 4 ≤ W.heap.size) : Calls Tryz.prog 22 #[va] W fun e w' => ∃ v, e = .returned v ∧ Below W.heap.size W w' ∧ PsA w va v w' := by
  refine (powers_one va ea ca W (ha.below hb) ok).mono ?_
  rintro e w' ⟨A, n, c, h1, rfl, h2, h3⟩
  exact ⟨_, rfl, h3, (A, n, c), W.heap.size, h1, rfl, hz, h2, hb.trans (h3.mono hb.size)⟩
theorem psA_keep (w : World) (va v : Value) (a b : World) (h : PsA w va v a) (hb : Below a.heap.size a b) : PsA w va v b := by
  obtain ⟨am, Ba, h1, h2, h3, h4, h5⟩ := h
  exact ⟨am, Ba, h1, h2, h3, h4.below hb h4.lt, h5.trans (hb.mono h5.size)⟩
theorem psZ_any (vz : Value) (zl : List T1) (w : World) (hz : PolyV w vz (some zl)) (ok : okP (some zl)) (hne : zl ≠ []) (hlh : lowL zl ≠ highL zl) (W : World) (hb : Below w.heap.size w W) (hs : w.heap.size + 4 ≤ W.heap.size) : Calls Tryz.prog 22 #[vz] W fun e w' => ∃ v, e = .returned v ∧ Below W.heap.size W w' ∧ PsZ w zl v w' := by
  refine (powers_list vz zl W (hz.below hb) ok hne hlh).mono ?_
  rintro e w' ⟨zm, Bk, g, m, h1, rfl, h2, h3, h4⟩
  exact ⟨_, rfl, h4, zm, Bk, W.heap.size, g, m, rfl, h2, h3, hs, h2.own.block g rfl⟩
theorem psZ_keep (w : World) (zl : List T1) (v : Value) (a b : World) (h : PsZ w zl v a) (hb : Below a.heap.size a b) : PsZ w zl v b := by
  obtain ⟨zm, Bk, Bz, g, m, h1, h2, h3⟩ := h
  exact ⟨zm, Bk, Bz, g, m, h1, h2.below hb, h3⟩
set_option maxHeartbeats 1000000 in
theorem Set_list {N ZM : Nat} (vp va vz : Value) (l : List T2) (ea ca : Int) (zl : List T1) (w : World) (hp : PolyB w vp (some l)) (ha : PolyV w va (some [(ea, ca)])) (hz : PolyV w vz (some zl)) (hca : ca = 1 ∨ ca = -1) (hea : -1048576 ≤ ea ∧ ea ≤ 1048576) (okz : okP (some zl)) (hne : zl ≠ []) (hlh : lowL zl ≠ highL zl)
    (lp : Lim2 l) (kp : Can2 l) (hl : l.length ≤ 10000) (hnn : ∀ t ∈ l, 0 ≤ t.1.2 ∧ t.1.2 ≤ ZM) (hxa : ∀ t ∈ l, -400000 ≤ ea * t.1.1 ∧ ea * t.1.1 ≤ 400000) (hN : Eb1 N zl) (hZM : ZM ≤ 1000) (hzn : (ZM + 1) * N ≤ 400000) (hS : ∀ i, i ≤ ZM → asum1 zl ^ i ≤ 1125899906842624) (hz1 : 1 ≤ asum1 zl) (hsum : asum1 (setL (LAu ea ca) (LZp zl) l) ≤ 1125899906842624) (hno : ea ≠ 0) :
    Calls Tryz.prog 10 #[vp, va, vz] w (SetR (setL (LAu ea ca) (LZp zl) l) w) := by
  have oka := okP_one hca hea
  refine Set_walk2 vp va vz l [(ea, ca)] zl w (PsA w va) (PsZ w zl) (LAu ea ca) (LZp zl) (fun n => (-1000000000 ≤ n ∧ n ≤ 1000000000) ∧ -1048576 ≤ ea * n ∧ ea * n ≤ 1048576) (fun n => 0 ≤ n ∧ n ≤ ZM) hp ha hz oka (unitP_one hca) lp kp hl (fun t ht => (hnn t ht).1) (psA_any va ea ca w ha oka) (psZ_any vz zl w hz okz hne hlh) (psA_keep w va) (psZ_keep w zl) ?_ (fun t ht => ?_) hnn (fun t ht => ?_) (fun t ht => ?_) (fun t ht => by rw [asum1_LAu hca]; exact Nat.le_refl _) (fun t ht => ?_) hsum
  · rintro fA fZ W ⟨am, Ba, hva, rfl, h3, h4, h5⟩ ⟨zm, Bk, Bz, g, m, rfl, k2, k3, k4, k5⟩
    refine ⟨_, _, _, _, _, SAZ w Ba am Bk Bz zm zl, ⟨rfl, rfl, SAZ.s1, SAZ.s2, enters_of Tryz.func48 (by kernel_rfl) rfl, enters_of Tryz.func50 (by kernel_rfl) rfl, ?_, ?_⟩, ?_⟩
    · intro G n W' hn hS' hsz
      refine (pow1_any Ba am.2.1 am.2.2 am.1 ea ca n W' hS'.2.1 (by rw [← hva]; exact ha.below hS'.1) hca hn.1 hea hn.2).mono ?_
      rintro e w' ⟨v, he, hb, hv⟩
      have hd := pwU_bd hca n
      exact ⟨v, he, ⟨_, hv, (okP_one hd ⟨by have := hn.2; omega, by have := hn.2; omega⟩).1, (okP_one hd ⟨by have := hn.2; omega, by have := hn.2; omega⟩).2, fun e => rfl⟩, KT.of_below (fun a b h hb => SAZ.s1 G G a b h hb fun k hk => .inl hk) hb hsz⟩
    · intro G n W' hn hS' hsz
      obtain ⟨h1, h2, s, ms, q3, q4, q5, q6⟩ := hS'
      have hnt : (n.toNat : Int) = n := Int.toNat_of_nonneg hn.1
      have hle : n.toNat ≤ ZM := by omega
      have := pow2_any Bk Bz (Bz + 1) zm zl s ms n.toNat W' q3 (by omega) q4 (S := 0) (fun i hi => hS i (by omega)) hN (Nat.le_trans (Nat.mul_le_mul_right N (by omega : n.toNat + 1 ≤ ZM + 1)) (by omega)) (by omega) (by have := q3.bz.lt; omega)
      rw [hnt] at this
      refine this.mono ?_
      intro e w' hr
      exact SAZ.pow2 (by omega) h1 h2 q3 q5 q6 hr
    · have hgl := k2.own.lt g rfl
      refine ⟨h5, h4, _, _, k2, by simp, fun e => ?_, fun k hk => ?_⟩
      · have e1 : g = Ba := by simpa [Value.ownBlock] using e
        subst e1
        have c1 := (k2.at_ (k := 0) (by simp)).2
        have c2 := h4.cell 1
        simp only [Nat.zero_mul, Nat.zero_add, List.getElem_cons_zero] at c1
        have c3 : W.cell? ⟨g, 1, none⟩ = some (.slice am.1 am.2.1 am.2.2) := c2
        rw [c3] at c1
        injection c1 with c1
        have hq := k2.el 0 (by simp)
        simp only [List.getElem_cons_zero] at hq
        rw [← c1, ← hva] at hq
        obtain ⟨l', q1, q2, q3, q4⟩ := hq
        have := q1.inj (ha.below h5)
        subst this
        have h1 := q4 ea
        rw [cf_one, if_pos rfl] at h1
        have h2 : cf (powL zl 0) ea = 0 := by
          show cf [(0, 1)] ea = 0
          rw [cf_one, if_neg (fun q => hno q.symm)]
        rw [h2] at h1
        rcases hca with h | h <;> rw [h] at h1 <;> cases h1
      · have := List.mem_singleton.1 hk
        subst this
        refine ⟨by omega, by omega, by omega, by omega, by omega, fun e => ?_⟩
        have e1 : g = w.heap.size + 3 := by simpa [Value.ownBlock] using e
        omega
  · have h1 := lp.ea t ht
    have h2 := hxa t ht
    exact ⟨⟨by omega, by omega⟩, by omega, by omega⟩
  · intro s hs
    rw [List.mem_singleton.1 hs]
    exact hxa t ht
  · have h1 := hnn t ht
    have h2 : t.1.2.toNat ≤ ZM := by omega
    refine (hN.powL _).mono (Nat.le_trans (Nat.mul_le_mul_right N h2) ?_)
    rw [Nat.succ_mul] at hzn
    omega
  · unfold LZp
    rw [asum1_powL]
    exact Nat.one_le_pow _ _ hz1
end Go.Proofs.YtnmidhlghhephaaGreatDoor

namespace Go.Proofs.YtnmidhlghhephaaGreatDoor
open Go.RowKit
set_option linter.unusedVariables false
def powB (nm : List UInt8) (e : Int) : List UInt8 := vaT nm e ++ poT e
def coB (c : Int) (e : K2) : List UInt8 := if cabs c = 1 ∧ ¬ (e.1 = 0 ∧ e.2 = 0) then [] else Lib.itoa (cabs c)
def txtB1 (na nz : List UInt8) (i : Nat) (t : T2) : List UInt8 := sgT i t.2 ++ (coB t.2 t.1 ++ (powB na t.1.1 ++ powB nz t.1.2))
def txtBU (na nz : List UInt8) (l : List T2) : Nat → List UInt8
  | 0 => []
  | k + 1 => txtBU na nz l k ++ txtB1 na nz k (l[k]?.getD ((0, 0), 0))
def txtB (na nz : List UInt8) : PolB → List UInt8
  | none => [98, 105, 103]
  | some l => if l.length = 0 then [48] else txtBU na nz l l.length
theorem coB_len {c : Int} {e : K2} (h : -1125899906842624 ≤ c ∧ c ≤ 1125899906842624) : (coB c e).length ≤ 21 := by
  unfold coB
  split
  · simp
  · exact Lib.itoa_length_le _ (by unfold cabs; split <;> omega) (by unfold cabs; split <;> omega)
theorem powB_len {nm : List UInt8} {e : Int} (hn : nm.length ≤ 1000) (h : -1048576 ≤ e ∧ e ≤ 1048576) : (powB nm e).length ≤ 1022 := by
  have h1 := vaT_len (nm := nm) (e := e)
  have h2 := poT_len h
  unfold powB
  rw [List.length_append]; omega
theorem txtB1_len {na nz : List UInt8} {i : Nat} {t : T2} (hn : na.length ≤ 1000) (hz : nz.length ≤ 1000) (h1 : -1125899906842624 ≤ t.2 ∧ t.2 ≤ 1125899906842624) (h2 : -1048576 ≤ t.1.1 ∧ t.1.1 ≤ 1048576) (h3 : -1048576 ≤ t.1.2 ∧ t.1.2 ≤ 1048576) : (txtB1 na nz i t).length ≤ 3000 := by
  have a := sgT_len i t.2
  have b := coB_len (e := t.1) h1
  have c := powB_len hn h2
  have d := powB_len hz h3
  unfold txtB1
  simp only [List.length_append]
  omega
theorem txtBU_len {na nz : List UInt8} {l : List T2} (hn : na.length ≤ 1000) (hz : nz.length ≤ 1000) (hl : Lim2 l) : ∀ k, k ≤ l.length → (txtBU na nz l k).length ≤ 3000 * k
  | 0, _ => by simp [txtBU]
  | k + 1, h => by
    have h1 := txtBU_len hn hz hl k (by omega)
    have e : l[k]?.getD ((0, 0), 0) = l[k] := by rw [List.getElem?_eq_getElem (by omega)]; rfl
    have hm : l[k] ∈ l := List.getElem_mem (show k < l.length by omega)
    have h2 := txtB1_len (i := k) hn hz (hl.co _ hm) (hl.ea _ hm) (hl.ez _ hm)
    rw [txtBU, List.length_append, e]; omega
/-- the builder holds bs; what lies in other blocks stays as it was in w0 -/
structure BxSt (w w0 : World) (bs : List UInt8) (wx : World) : Prop where
  ib : IsB (w.heap.size + 1) (w.heap.size + 1) (Lib.byteCells bs) wx
  bel : Below w.heap.size w wx
  kb : KeepB (w.heap.size + 1) w0 wx
  sz : w.heap.size + 2 ≤ wx.heap.size
theorem BxSt.byte {w w0 wx : World} {bs : List UInt8} (h : BxSt w w0 bs wx) (hl : bs.length ≤ 10000000000) (x : UInt8) (n : Int) (hn : n = (x.toNat : Int)) :
    Calls Tryz.prog 42 #[.pointer (some ⟨w.heap.size + 1, 0, none⟩), .int .u8 n] wx fun e w' => e = .returned .nilIface ∧ BxSt w w0 (bs ++ [x]) w' := by
  subst hn
  have hs := h.sz
  refine Calls.mono (bld_byte _ _ _ _ wx h.ib (by rw [Lib.byteCells_length]; omega) (by omega)) ?_
  rintro e w' ⟨rfl, h1, h2, h3⟩
  exact ⟨rfl, by rw [Lib.byteCells_append]; exact h1, h.bel.trans (h2.mono (by omega)), h.kb.trans h3, by have := h2.size; omega⟩
theorem BxSt.str {w w0 wx : World} {bs : List UInt8} (h : BxSt w w0 bs wx) (hl : bs.length ≤ 10000000000) (s : List UInt8) (hsl : s.length ≤ 1000) :
    Calls Tryz.prog 41 #[.pointer (some ⟨w.heap.size + 1, 0, none⟩), .string ⟨s.toArray⟩] wx fun e w' => (∃ q, e = .returned (.tuple #[.int .i64 q, .nilIface])) ∧ BxSt w w0 (bs ++ s) w' := by
  have hs := h.sz
  have e1 : (ByteArray.mk s.toArray).size = s.length := rfl
  refine Calls.mono (bld_string _ _ _ ⟨s.toArray⟩ wx h.ib (by rw [Lib.byteCells_length, e1]; omega) (by omega)) ?_
  rintro e w' ⟨rfl, h1, h2, h3⟩
  exact ⟨⟨_, rfl⟩, by rw [Lib.byteCells_append]; exact h1, h.bel.trans (h2.mono (by omega)), h.kb.trans h3, by have := h2.size; omega⟩
theorem BxSt.itoa {w w0 wx : World} {bs : List UInt8} (h : BxSt w w0 bs wx) (ht : Tb w) (n : Int) (h0 : -9223372036854775808 ≤ n) (h1 : n ≤ 9223372036854775807) :
    Calls Tryz.prog 43 #[.int .i64 n] wx fun e w' => e = .returned (.string ⟨(Lib.itoa n).toArray⟩) ∧ BxSt w w0 bs w' := by
  have hs := h.sz
  refine Calls.mono (itoa_any n h0 h1 wx (ht.below h.bel)) ?_
  rintro e w' ⟨rfl, h2⟩
  exact ⟨rfl, h.ib.below h2, h.bel.trans (h2.mono (by have := h.bel.size; omega)), h.kb.below h2, by have := h2.size; omega⟩
set_option maxHeartbeats 2000000 in
set_option maxRecDepth 100000 in
theorem pow_any {w w0 wx : World} {bs : List UInt8} (h : BxSt w w0 bs wx) (hl : bs.length ≤ 1000000000) (nm : List UInt8) (hn : nm.length ≤ 1000) (e : Int) (he : -1048576 ≤ e ∧ e ≤ 1048576) (ht : Tb w) :
    Calls Tryz.prog 40 #[.string ⟨nm.toArray⟩, .int .i64 e, .pointer (some ⟨w.heap.size + 1, 0, none⟩)] wx fun en w' => en = .returned (.tuple #[]) ∧ BxSt w w0 (bs ++ powB nm e) w' := by
  by_cases h0 : e = 0
  · have n0 : (e == 0) = true := by simp [h0]
    have HE := Lib.hid (show bs ++ powB nm e = bs by rw [h0]; unfold powB vaT poT; simp)
    clear h0
    have HH := Lib.hid h
    clear h
    go_enter Tryz.func40, Tryz.ntmps40
    go_wp2_with fail
    refine bodyPost_ret (results_none rfl _ _ _) rfl ?_
    exact ⟨rfl, by rw [HE.out]; exact HH.out⟩
  · have n0 : (e == 0) = false := beq_eq_false_iff_ne.2 h0
    have HS := Lib.hid (h.str (by omega) nm hn)
    have hl2 : (bs ++ nm).length = bs.length + nm.length := List.length_append
    by_cases h1 : e = 1
    · have n1 : (e != 1) = false := by simp [h1]
      have HE := Lib.hid (show bs ++ powB nm e = bs ++ nm by rw [h1]; unfold powB vaT poT; simp)
      clear h1
      clear h
      go_enter Tryz.func40, Tryz.ntmps40
      go_wp2_with fail
      refine HS.out.mono ?_
      rintro e w7 ⟨⟨q, rfl⟩, h7⟩
      have H7 := Lib.hid h7
      clear h7
      go_wp2_with fail
      go_end0
      exact ⟨rfl, by rw [HE.out]; exact H7.out⟩
    · have n1 : (e != 1) = true := by simp [h1]
      have HE := Lib.hid (show bs ++ powB nm e = ((bs ++ nm) ++ [94]) ++ Lib.itoa e by unfold powB vaT poT; rw [if_neg h0, if_neg (by omega)]; simp)
      have hil := Lib.itoa_length_le e (by omega) (by omega)
      have hl7 : ((bs ++ nm) ++ [94]).length = (bs ++ nm).length + 1 := List.length_append
      clear h
      go_enter Tryz.func40, Tryz.ntmps40
      go_wp2_with fail
      refine HS.out.mono ?_
      rintro e1 w7 ⟨⟨q, rfl⟩, h7⟩
      have HB := Lib.hid (h7.byte (by omega) 94 94 rfl)
      clear h7
      go_wp2_with fail
      refine HB.out.mono ?_
      rintro e1 w8 ⟨rfl, h8⟩
      have HI := Lib.hid (h8.itoa ht e (by omega) (by omega))
      clear h8
      go_wp2_with fail
      refine HI.out.mono ?_
      rintro e1 w9 ⟨rfl, h9⟩
      have HS2 := Lib.hid (h9.str (by omega) (Lib.itoa e) (by omega))
      clear h9
      go_wp2_with fail
      refine HS2.out.mono ?_
      rintro e1 w10 ⟨⟨q2, rfl⟩, h10⟩
      have H10 := Lib.hid h10
      clear h10
      go_wp2_with fail
      go_end0
      exact ⟨rfl, by rw [HE.out]; exact H10.out⟩
theorem clo_text (args : Array Value) (W : World) : (callFunc 40 args).run Tryz.prog W = .ok (.enter 40 args) W := enters_of Tryz.func40 (by kernel_rfl) rfl args W
set_option maxHeartbeats 4000000 in
set_option maxRecDepth 100000 in
theorem bText_any (v : Value) (p : PolB) (na nz : List UInt8) (w : World) (hv : PolyB w v p) (hok : okB2 p) (hlen : lenB p ≤ 100000) (hn : na.length ≤ 1000) (hz : nz.length ≤ 1000) (ht : Tb w) :
    Calls Tryz.prog 15 #[v, .string ⟨na.toArray⟩, .string ⟨nz.toArray⟩] w fun e w' => e = .returned (.string ⟨(txtB na nz p).toArray⟩) ∧ Below w.heap.size w w' := by
  obtain ⟨b1, A, n, c, rfl, j1, j2⟩ := hv.parts
  have HX := Lib.hid (fun W (hb : Below w.heap.size w W) => hv.below hb)
  have hW : ∀ W, W = (w.alloc (.cells #[.bool b1, .slice A n c] 29)) → Arr W w.heap.size 29 [.bool b1, .slice A n c] ∧ Below w.heap.size w W ∧ W.heap.size = w.heap.size + 1 := by
    intro W hW
    subst hW
    exact ⟨Arr.new _ _ [_, _], ((Below.refl _ _).alloc (Nat.le_refl _) _), by simp⟩
  clear hv
  cases p with
  | none =>
    have jj : b1 = true := j1
    subst jj
    clear j1 j2 HX
    go_enter Tryz.func15, Tryz.ntmps15
    go_upto_region 1 with fail
    generalize (w.alloc (.cells #[.bool true, .slice A n c] 29)) = w3 at hW ⊢
    obtain ⟨qb, hb3, hs3⟩ := hW w3 rfl
    have y0 := qb.cell 0
    go_wp2_with fail
    go_ret
    exact ⟨rfl, hb3⟩
  | some l =>
    have jj : b1 = false := j1
    have jn : n = l.length := j2
    subst jj jn
    clear j1 j2
    have hlm : l.length ≤ 100000 := hlen
    obtain ⟨T, hT⟩ : ∃ T, T = txtB na nz (some l) := ⟨_, rfl⟩
    rw [← hT]
    have HT := Lib.hid hT
    clear hT hlen
    obtain ⟨hcan, hlim⟩ := hok
    go_enter Tryz.func15, Tryz.ntmps15
    go_upto_region 1 with fail
    generalize (w.alloc (.cells #[.bool false, .slice A l.length c] 29)) = w3 at hW ⊢
    obtain ⟨qb, hb3, hs3⟩ := hW w3 rfl
    have y0 := qb.cell 0
    have y1 := qb.cell 1
    clear hW
    by_cases h0 : l.length = 0
    · have z1 : ((l.length : Int) == 0) = true := by rw [beq_iff_eq]; omega
      have HT2 := Lib.hid (show T = [48] from by rw [HT.out]; exact if_pos h0)
      go_wp2_with fail
      go_ret
      exact ⟨by rw [HT2.out]; rfl, hb3⟩
    · have z1 : ((l.length : Int) == 0) = false := by rw [beq_eq_false_iff_ne]; omega
      have HT2 := Lib.hid (show T = txtBU na nz l l.length from by rw [HT.out]; exact if_neg h0)
      have HLI := Lib.hid hlim
      have eg := clo_text
      clear HT hcan hlim
      go_upto_region 7 with fail
      have hB : Arr (w3.alloc (.cells #[.pointer none, .slice none 0 0] 80)) w.heap.size 29 [.bool false, .slice A l.length c] ∧ Below w.heap.size w (w3.alloc (.cells #[.pointer none, .slice none 0 0] 80)) ∧ IsB (w.heap.size + 1) (w.heap.size + 1) [] (w3.alloc (.cells #[.pointer none, .slice none 0 0] 80)) ∧ (w3.alloc (.cells #[.pointer none, .slice none 0 0] 80)).heap.size = w.heap.size + 2 := by
        refine ⟨qb.alloc _, hb3.alloc (by omega) _, .inl ⟨Nat.le_refl _, _, ?_, ⟨rfl, .inl ⟨rfl, rfl⟩⟩, by simp [Value.ownBlock]⟩, by simp; omega⟩
        have := Arr.new w3 80 [.pointer none, .slice none 0 0]
        rw [hs3] at this
        exact this
      generalize (w3.alloc (.cells #[.pointer none, .slice none 0 0] 80)) = w4 at *
      obtain ⟨qb4, hb4, hib, hs4⟩ := hB
      have y2 := qb4.cell 1
      clear y0 y1 qb hb3 qb4
      go_wp2_with fail
      go_loopg [24] l.length (fun gk s24 wr => ∃ k : Nat, k ≤ l.length ∧ gk = l.length - k ∧ s24 = .int .i64 (k : Int) ∧ IsB (w.heap.size + 1) (w.heap.size + 1) (Lib.byteCells (txtBU na nz l k)) wr ∧ Below w.heap.size w wr ∧ w.heap.size + 2 ≤ wr.heap.size)
      case atStart => exact ⟨0, Nat.zero_le _, rfl, rfl, hib, hb4, by omega⟩
      case round =>
        clear hib hb4 hs4 y2
        obtain ⟨k, hk, rfl, rfl, hib, hbr, hsr⟩ := hrel
        by_cases hlt : k < l.length
        · have z2 : (k : Int) < (l.length : Int) := by omega
          obtain ⟨b, o, rfl, _, y0, y1, y3⟩ := (HX.out wr hbr).tm_some.at_ hlt
          have hco := HLI.out.co _ (List.getElem_mem hlt)
          have hea := HLI.out.ea _ (List.getElem_mem hlt)
          have hez := HLI.out.ez _ (List.getElem_mem hlt)
          have HTX := Lib.hid (show txtBU na nz l (k + 1) = txtBU na nz l k ++ txtB1 na nz k ((l[k].1.1, l[k].1.2), l[k].2) from by rw [txtBU, List.getElem?_eq_getElem hlt]; rfl)
          have htl := txtBU_len hn hz HLI.out k hk
          generalize l[k].1.1 = ta at *
          generalize l[k].1.2 = tz at *
          generalize l[k].2 = tc at *
          generalize txtBU na nz l k = bs at *
          have hWt : ∀ W, W = wr.alloc (.cells #[.int .i64 ta, .int .i64 tz, .int .i64 tc] 49) → Arr W wr.heap.size 49 [.int .i64 ta, .int .i64 tz, .int .i64 tc] ∧ BxSt w W bs W := by
            intro W hW
            subst hW
            exact ⟨Arr.new _ _ [_, _, _], hib.below ((Below.refl _ _).alloc (Nat.le_refl _) _), hbr.alloc (by omega) _, KeepB.refl _ _, by simp; omega⟩
          go_upto_region 10 with fail
          generalize (wr.alloc (.cells #[.int .i64 ta, .int .i64 tz, .int .i64 tc] 49)) = w5 at hWt ⊢
          obtain ⟨qt, hst⟩ := hWt w5 rfl
          have hgb : wr.heap.size ≠ w.heap.size + 1 := by omega
          have HQT := Lib.hid (fun wx bs' (h : BxSt w w5 bs' wx) => h.kb wr.heap.size _ _ qt (by decide) hgb)
          generalize wr.heap.size = g at *
          clear hib hbr y0 y1 y3 hWt qt hgb
          have x2 : w5.cell? ⟨g, 2, none⟩ = some (.int .i64 tc) := (HQT.out w5 bs hst).cell 2
          go_upto_if 32 with fail
          clear x2
          go_cut [11, 24, 9] from 24 to 64 (fun s11 s24 s9 wx => s11 = .int .i64 (cabs tc) ∧ s24 = .int .i64 (k : Int) ∧ s9 = .int .i64 (k : Int) ∧ BxSt w w5 (bs ++ sgT k tc) wx)
          case first =>
            by_cases c1 : tc < 0
            · have HB := Lib.hid (hst.byte (by omega) 45 45 rfl)
              have E1 := Lib.hid (show sgT k tc = [45] from if_pos c1)
              have E2 := Lib.hid (show cabs tc = -tc from if_pos c1)
              clear hst
              go_wp2_with fail
              refine HB.out.mono ?_
              rintro e w6 ⟨rfl, h6⟩
              go_wp2_with fail
              go_meet
              case rel => exact ⟨by rw [E2.out], rfl, rfl, by rw [E1.out]; exact h6⟩
            · have E2 := Lib.hid (show cabs tc = tc from if_neg c1)
              by_cases c2 : 0 < k
              · have z4 : (k : Int) > 0 := by omega
                have HB := Lib.hid (hst.byte (by omega) 43 43 rfl)
                have E1 := Lib.hid (show sgT k tc = [43] from by unfold sgT; rw [if_neg c1, if_pos c2])
                clear hst
                go_wp2_with fail
                refine HB.out.mono ?_
                rintro e w6 ⟨rfl, h6⟩
                go_wp2_with fail
                go_meet
                case rel => exact ⟨by rw [E2.out], rfl, rfl, by rw [E1.out]; exact h6⟩
              · have z4 : ¬ (k : Int) > 0 := by omega
                have E1 := Lib.hid (show sgT k tc = [] from by unfold sgT; rw [if_neg c1, if_neg c2])
                go_wp2_with fail
                go_meet
                case rel => exact ⟨by rw [E2.out], rfl, rfl, by rw [E1.out, List.append_nil]; exact hst⟩
          case rest =>
            obtain ⟨rfl, rfl, rfl, hst1⟩ := hcut
            have HTX1 := Lib.hid (show txtBU na nz l (k + 1) = (bs ++ sgT k tc) ++ (coB tc (ta, tz) ++ (powB na ta ++ powB nz tz)) from by rw [HTX.out]; unfold txtB1; simp only [List.append_assoc])
            have hl1 := sgT_len k tc
            have hl2 : (bs ++ sgT k tc).length = bs.length + (sgT k tc).length := List.length_append
            clear HTX hst
            generalize bs ++ sgT k tc = b1 at *
            have hcc : 0 ≤ cabs tc ∧ cabs tc ≤ 1125899906842624 := by unfold cabs; split <;> omega
            obtain ⟨ca, hca⟩ : ∃ ca, ca = cabs tc := ⟨_, rfl⟩
            have HCA := Lib.hid hca
            rw [← hca] at hcc ⊢
            clear hca
            go_upto_region 16 with fail
            obtain ⟨D, hD⟩ : ∃ D, D = decide (ca ≠ 1 ∨ (ta = 0 ∧ tz = 0)) := ⟨_, rfl⟩
            have HD := Lib.hid hD
            clear hD
            have qt := HQT.out wc b1 hst1
            go_cut [11, 24, 9, 50] from 24 to 64 (fun s11 s24 s9 s50 wx => s11 = .int .i64 ca ∧ s24 = .int .i64 (k : Int) ∧ s9 = .int .i64 (k : Int) ∧ s50 = .bool D ∧ wx = wc)
            case first =>
              have x0 := qt.cell 0
              have x1 := qt.cell 1
              by_cases c1 : ca = 1
              · have z3 : (ca != 1) = false := by simp [c1]
                by_cases c2 : ta = 0
                · have z4 : (ta == 0) = true := by simp [c2]
                  by_cases c3 : tz = 0
                  · have z5 : (tz == 0) = true := by simp [c3]
                    have HE := Lib.hid (HD.out.trans (decide_eq_true (.inr ⟨c2, c3⟩)))
                    clear c1 c2 c3
                    go_wp2_with fail
                    go_meet
                    case rel => exact ⟨rfl, rfl, rfl, by rw [HE.out], rfl⟩
                  · have z5 : (tz == 0) = false := by simp [c3]
                    have HE := Lib.hid (HD.out.trans (decide_eq_false (fun h => h.elim (fun h => h c1) (fun h => c3 h.2))))
                    clear c1 c2 c3
                    go_wp2_with fail
                    go_meet
                    case rel => exact ⟨rfl, rfl, rfl, by rw [HE.out], rfl⟩
                · have z4 : (ta == 0) = false := by simp [c2]
                  have HE := Lib.hid (HD.out.trans (decide_eq_false (fun h => h.elim (fun h => h c1) (fun h => c2 h.1))))
                  clear c1 c2
                  go_wp2_with fail
                  go_meet
                  case rel => exact ⟨rfl, rfl, rfl, by rw [HE.out], rfl⟩
              · have z3 : (ca != 1) = true := by simp [c1]
                have HE := Lib.hid (HD.out.trans (decide_eq_true (.inl c1)))
                clear c1
                go_wp2_with fail
                go_meet
                case rel => exact ⟨rfl, rfl, rfl, by rw [HE.out], rfl⟩
            case rest =>
              obtain ⟨rfl, rfl, rfl, rfl, rfl⟩ := hcut
              have HC2 := Lib.hid (show coB tc (ta, tz) = if D = true then Lib.itoa ca else [] from by
                rw [HD.out, HCA.out]; unfold coB
                simp only
                by_cases c1 : cabs tc = 1 ∧ ¬ (ta = 0 ∧ tz = 0)
                · rw [if_pos c1, if_neg]
                  intro h
                  have := of_decide_eq_true h
                  rcases this with h | h
                  · exact h c1.1
                  · exact c1.2 h
                · rw [if_neg c1, if_pos]
                  refine decide_eq_true ?_
                  by_cases c2 : cabs tc = 1
                  · by_cases c3 : ta = 0 ∧ tz = 0
                    · exact .inr c3
                    · exact absurd ⟨c2, c3⟩ c1
                  · exact .inl c2)
              clear qt
              go_upto_if 50 with fail
              go_cut [24] from 24 to 64 (fun s24 wx => s24 = .int .i64 (k : Int) ∧ BxSt w w5 (b1 ++ coB tc (ta, tz)) wx)
              case first =>
                cases D with
                | false =>
                  go_wp2_with fail
                  go_meet
                  case rel => exact ⟨rfl, by rw [HC2.out, if_neg (by simp), List.append_nil]; exact hst1⟩
                | true =>
                  have HI := Lib.hid (hst1.itoa ht ca (by omega) (by omega))
                  have hil := Lib.itoa_length_le ca (by omega) (by omega)
                  have HC3 := Lib.hid (HC2.out.trans (if_pos rfl))
                  clear HC2
                  go_wp2_with fail
                  refine HI.out.mono ?_
                  rintro e w6 ⟨rfl, h6⟩
                  have HS := Lib.hid (h6.str (by omega) (Lib.itoa ca) (by omega))
                  go_wp2_with fail
                  refine HS.out.mono ?_
                  rintro e w7 ⟨⟨q, rfl⟩, h7⟩
                  go_wp2_with fail
                  go_meet
                  case rel => exact ⟨rfl, by rw [HC3.out]; exact h7⟩
              case rest =>
                obtain ⟨rfl, hst2⟩ := hcut
                have hl3 := coB_len (c := tc) (e := (ta, tz)) hco
                have hl4 : (b1 ++ coB tc (ta, tz)).length = b1.length + (coB tc (ta, tz)).length := List.length_append
                have HTX2 := Lib.hid (show txtBU na nz l (k + 1) = ((b1 ++ coB tc (ta, tz)) ++ powB na ta) ++ powB nz tz from by rw [HTX1.out]; simp only [List.append_assoc])
                clear HTX1 hst1 HC2
                generalize b1 ++ coB tc (ta, tz) = b2 at *
                have x0 := (HQT.out wc b2 hst2).cell 0
                have HP1 := Lib.hid (pow_any hst2 (by omega) na hn ta hea ht)
                have hl5 := powB_len hn hea
                have hl6 : (b2 ++ powB na ta).length = b2.length + (powB na ta).length := List.length_append
                go_wp2_with fail
                refine HP1.out.mono ?_
                rintro e w6 ⟨rfl, h6⟩
                have x1 := (HQT.out w6 _ h6).cell 1
                have HP2 := Lib.hid (pow_any h6 (by omega) nz hz tz hez ht)
                clear HP1 hst2 h6 x0
                go_wp2_with fail
                refine HP2.out.mono ?_
                rintro e w7 ⟨rfl, h7⟩
                have H7 := Lib.hid h7
                have HE := Lib.hid HTX2.out
                clear HP2 x1 h7 HTX2
                go_wp2_with fail
                go_roundg (l.length - (k + 1))
                case measure => omega
                case rel => exact ⟨k + 1, by omega, rfl, by go_num, by rw [HE.out]; exact H7.out.ib, H7.out.bel, H7.out.sz⟩
        · have z2 : ¬ ((k : Int) < (l.length : Int)) := by omega
          obtain rfl : k = l.length := by omega
          have HS := Lib.hid (Tryz.Builder_String_any (w.heap.size + 1) (w.heap.size + 1) (txtBU na nz l l.length) wr hib (by omega))
          clear hib
          go_wp2_with fail
          refine HS.out.mono ?_
          rintro e w6 ⟨rfl, h6⟩
          go_wp2_with fail
          go_ret
          exact ⟨by rw [HT2.out]; rfl, hbr.trans (h6.mono (by omega))⟩
end Go.Proofs.YtnmidhlghhephaaGreatDoor
