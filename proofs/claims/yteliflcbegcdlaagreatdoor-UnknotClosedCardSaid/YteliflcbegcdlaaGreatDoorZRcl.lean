/- The reference's exchange. -/
/- Facts on memory for regions that draw their order: growth, and which rows lie apart. -/
/- The reference's columns, kind 1. -/
import Derived.Test.YteliflcbegcdlaaGreatDoorZAdd
import Derived.Test.YteliflcbegcdlaaGreatDoorZGrow
import Derived.Test.YteliflcbegcdlaaGreatDoorZAps
import Derived.Deep.RegionHeld3
import Derived.IntWalk
import Derived.Test.YteliflcbegcdlaaGreatDoorZCyc
namespace Go.Proofs.YteliflcbegcdlaaGreatDoor
open Go.RowKit
set_option linter.unusedVariables false
/-- what holds in the first region of exchange, whatever has come up -/
structure ExI (B : Nat) (w4 : World) (vx vo : Value) (b : Nat) (X O : List Int) (D : Nat → Bool) (x : Nat → Value) (w : World) : Prop where
  bel : Below w4.heap.size w4 w
  f0 : D 0 = true → ∃ g, x 0 = .slice (some ⟨g, 0, none⟩) 0 0
  f1 : D 1 = true → x 1 = .pointer (some ⟨b, 0, none⟩)
  f2 : D 2 = true → x 2 = vx
  f3 : D 3 = true → OwnI 3 w4.heap.size w (x 3) X
  f4 : D 4 = true → ∃ g, x 4 = .slice (some ⟨g, 0, none⟩) 0 0
  f5 : D 5 = true → x 5 = .pointer (some ⟨b, 1, none⟩)
  f6 : D 6 = true → x 6 = vo
  f7 : D 7 = true → OwnI 3 w4.heap.size w (x 7) O
  f8 : D 8 = true → x 8 = .agg #[x 3, x 7]
  f9 : D 9 = true → ∃ g, x 9 = .pointer (some ⟨g, 0, none⟩) ∧ w4.heap.size ≤ g ∧ (D 10 = false → Arr w g 24 [.slice none 0 0, .slice none 0 0]) ∧ (D 10 = true → Arr w g 24 [x 3, x 7])
  f37 : D 3 = true → D 7 = true → (x 3).ownBlock ≠ (x 7).ownBlock
set_option maxRecDepth 100000 in
set_option maxHeartbeats 4000000 in
theorem exchange_any (vx vo : Value) (X O : List Int) (a : Nat) (w : World) (hX : Ints w vx X) (hO : Ints w vo O) (hl : X.length ≤ 1000) (hlen : X.length = O.length) (ha : a + 1 < X.length) :
    Calls Tryz.prog 84 #[.agg #[vx, vo], .int .i64 a] w fun e w' => ∃ v, e = .returned v ∧ OwnG w.heap.size w' v (swapL X a) (swapL O a) ∧ Below w.heap.size w w' := by
  obtain ⟨i0, hi0, hz0, hz1, hz2⟩ := info_parts info_int8
  have HL := Lib.hid hlen
  clear hlen
  have hX0 := hX
  have hO0 := hO
  obtain ⟨A, c, rfl, hc, hh⟩ := hX
  obtain ⟨A', c', rfl, hc', hh'⟩ := hO
  clear hh hh'
  go_enter Tryz.func84, Tryz.ntmps84
  go_upto_region 1 with fail
  have hW : Arr ((w.alloc (.cells #[.slice A X.length c, .slice A' O.length c'] 24)).alloc (.cells #[.slice none 0 0, .slice none 0 0] 24)) w.heap.size 24 [.slice A X.length c, .slice A' O.length c'] ∧ Arr ((w.alloc (.cells #[.slice A X.length c, .slice A' O.length c'] 24)).alloc (.cells #[.slice none 0 0, .slice none 0 0] 24)) (w.heap.size + 1) 24 [.slice none 0 0, .slice none 0 0] ∧ Below w.heap.size w ((w.alloc (.cells #[.slice A X.length c, .slice A' O.length c'] 24)).alloc (.cells #[.slice none 0 0, .slice none 0 0] 24)) :=
    ⟨(Arr.new _ _ [_, _]).alloc _, Arr.newAt (w.alloc _) _ [_, _] _ (by simp), ((Below.refl _ _).alloc (Nat.le_refl _) _).alloc (by simp) _⟩
  generalize ((w.alloc (.cells #[.slice A X.length c, .slice A' O.length c'] 24)).alloc (.cells #[.slice none 0 0, .slice none 0 0] 24)) = w4 at hW ⊢
  obtain ⟨p0, p1, hbw⟩ := hW
  have y0 := p0.cell 0
  have y1 := p0.cell 1
  have l1 := p1.lt
  go_cut [5, 9, 13] (fun s5 s9 s13 wx => ∃ g, s5 = .pointer (some ⟨g, 0, none⟩) ∧ Arr wx g 24 [s9, s13] ∧ w4.heap.size ≤ g ∧ OwnI 3 w4.heap.size wx s9 X ∧ OwnI 3 w4.heap.size wx s13 O ∧ s9.ownBlock ≠ s13.ownBlock ∧ Below w4.heap.size w4 wx)
  case first =>
    refine wp_region_factsU (by kernel_rfl) (by kernel_rfl) (by kernel_rfl) (by kernel_rfl) (by kernel_rfl) (ExI 0 w4 (.slice A X.length c) (.slice A' O.length c') w.heap.size X O) ?_ ⟨?_, ?_, ?_, ?_, ?_, ?_, ?_, ?_, ?_, ?_, ?_, trivial⟩ ?_
    · exact fun x => ⟨(Below.refl _ _).drew, by simp, by simp, by simp, by simp, by simp, by simp, by simp, by simp, by simp, by simp, by simp⟩
    · intro D x w1 b hI hD hdep hcl hb
      refine wp_of_run (.slice (some ⟨w1.heap.size, 0, none⟩) 0 0) (w' := w1.alloc (.cells #[] 3)) ?_ ?_
      · clear hb hI hdep hcl
        go_simp
      · exact ⟨hI.bel.trans (((Below.refl _ _).alloc (Nat.le_refl _) _).mono hI.bel.size), (fun _ => ⟨_, upd_same _ _ _⟩), (by have h9 := hI.f1; simpa [upd] using h9), (by have h9 := hI.f2; simpa [upd] using h9), (by have h9 := hI.f3; simp only [upd_ne _ _ (show (3 : Nat) ≠ 0 by decide)]; exact fun h => (h9 h).below ((Below.refl _ _).alloc (Nat.le_refl _) _) (Nat.le_refl _)), (by have h9 := hI.f4; simpa [upd] using h9), (by have h9 := hI.f5; simpa [upd] using h9), (by have h9 := hI.f6; simpa [upd] using h9), (by have h9 := hI.f7; simp only [upd_ne _ _ (show (7 : Nat) ≠ 0 by decide)]; exact fun h => (h9 h).below ((Below.refl _ _).alloc (Nat.le_refl _) _) (Nat.le_refl _)), (by have h9 := hI.f8; simpa [upd] using h9), (by have h9 := hI.f9; have e (j) (h : j ≠ 0) := upd_ne D true h; have e' (j) (h : j ≠ 0) (v) := upd_ne x v h; simp only [e 9 (by decide), e 10 (by decide), e' 9 (by decide), e' 3 (by decide), e' 7 (by decide)]; intro h; obtain ⟨g, h1, h2, h3, h4⟩ := h9 h; exact ⟨g, h1, h2, fun h => (h3 h).below ((Below.refl _ _).alloc (Nat.le_refl _) _) (h3 h).lt, fun h => (h4 h).below ((Below.refl _ _).alloc (Nat.le_refl _) _) (h4 h).lt⟩), (by have h9 := hI.f37; simpa [upd] using h9)⟩
    · intro D x w1 b hI hD hdep hcl hb
      have e2 : b.tmps[2]?.getD undef = .pointer (some ⟨w.heap.size, 0, none⟩) := hb 2
      refine wp_of_run (.pointer (some ⟨w.heap.size, 0, none⟩)) (w' := w1) ?_ ?_
      · clear hb hI hdep hcl
        go_simp
      · exact ⟨hI.bel, (by have h9 := hI.f0; simpa [upd] using h9), (fun _ => upd_same _ _ _), (by have h9 := hI.f2; simpa [upd] using h9), (by have h9 := hI.f3; simpa [upd] using h9), (by have h9 := hI.f4; simpa [upd] using h9), (by have h9 := hI.f5; simpa [upd] using h9), (by have h9 := hI.f6; simpa [upd] using h9), (by have h9 := hI.f7; simpa [upd] using h9), (by have h9 := hI.f8; simpa [upd] using h9), (by have h9 := hI.f9; simpa [upd] using h9), (by have h9 := hI.f37; simpa [upd] using h9)⟩
    · intro D x w1 b hI hD hdep hcl hb
      have e2 : b.tmps[7]?.getD undef = .pointer (some ⟨w.heap.size, 0, none⟩) := (hb 7).trans (hI.f1 (hdep 1 (by decide)))
      have ec := (hI.bel.cell (p := ⟨w.heap.size, 0, none⟩) p0.lt).trans y0
      refine wp_of_run (.slice A X.length c) (w' := w1) ?_ ?_
      · clear hb hI hdep hcl
        go_simp
      · exact ⟨hI.bel, (by have h9 := hI.f0; simpa [upd] using h9), (by have h9 := hI.f1; simpa [upd] using h9), (fun _ => upd_same _ _ _), (by have h9 := hI.f3; simpa [upd] using h9), (by have h9 := hI.f4; simpa [upd] using h9), (by have h9 := hI.f5; simpa [upd] using h9), (by have h9 := hI.f6; simpa [upd] using h9), (by have h9 := hI.f7; simpa [upd] using h9), (by have h9 := hI.f8; simpa [upd] using h9), (by have h9 := hI.f9; simpa [upd] using h9), (by have h9 := hI.f37; simpa [upd] using h9)⟩
    · intro D x w1 b hI hD hdep hcl hb
      obtain ⟨g, hg⟩ := hI.f0 (hdep 0 (by decide))
      have e1 : b.tmps[6]?.getD undef = .slice (some ⟨g, 0, none⟩) 0 0 := (hb 6).trans hg
      have e2 := (hb 8).trans (hI.f2 (hdep 2 (by decide)))
      have hne3 : 0 < X.length := by have := HL.out; omega
      have hle : X.length ≤ 1000000000 := by have := HL.out; omega
      refine wp_growI rfl (.tmp 6) (.tmp 8) 22 rfl Tryz.underlying22 hi0 hz0 hz1 hz2 g (by simpa [Act.eval] using e1) (by simpa [Act.eval] using e2) (hX0.below (hbw.trans (hI.bel.mono hbw.size))) hne3 hle ?_
      intro v' w' hown hb'
      refine StepPost.mk' ?_
      exact ⟨hI.bel.trans (hb'.mono hI.bel.size), (by have h9 := hI.f0; simpa [upd] using h9), (by have h9 := hI.f1; simpa [upd] using h9), (by have h9 := hI.f2; simpa [upd] using h9), (fun _ => by rw [upd_same]; exact hown.mono hI.bel.size), (by have h9 := hI.f4; simpa [upd] using h9), (by have h9 := hI.f5; simpa [upd] using h9), (by have h9 := hI.f6; simpa [upd] using h9), (by have h9 := hI.f7; simp only [upd_ne _ _ (show (7 : Nat) ≠ 3 by decide)]; exact fun h => (h9 h).below hb' (Nat.le_refl _)), (fun h => absurd (hcl 8 (by simpa [upd] using h) 3 (by decide)) (by simp [hD])), (by have h9 := hI.f9; simp only [upd_ne _ _ (show (9 : Nat) ≠ 3 by decide), upd_ne _ _ (show (10 : Nat) ≠ 3 by decide)]; intro h; obtain ⟨g, h1, h2, h3, h4⟩ := h9 h; exact ⟨g, h1, h2, fun h => (h3 h).below hb' (h3 h).lt, fun h => absurd (hcl 8 (hcl 10 h 8 (by decide)) 3 (by decide)) (by simp [hD])⟩), (by intro h; have ho := hI.f7; simp only [upd_same, upd_ne _ _ (show (7 : Nat) ≠ 3 by decide)]; intro h'; exact ownI_ne (ho (by simpa [upd] using h')) hown hne3)⟩
    · intro D x w1 b hI hD hdep hcl hb
      refine wp_of_run (.slice (some ⟨w1.heap.size, 0, none⟩) 0 0) (w' := w1.alloc (.cells #[] 3)) ?_ ?_
      · clear hb hI hdep hcl
        go_simp
      · exact ⟨hI.bel.trans (((Below.refl _ _).alloc (Nat.le_refl _) _).mono hI.bel.size), (by have h9 := hI.f0; simpa [upd] using h9), (by have h9 := hI.f1; simpa [upd] using h9), (by have h9 := hI.f2; simpa [upd] using h9), (by have h9 := hI.f3; simp only [upd_ne _ _ (show (3 : Nat) ≠ 4 by decide)]; exact fun h => (h9 h).below ((Below.refl _ _).alloc (Nat.le_refl _) _) (Nat.le_refl _)), (fun _ => ⟨_, upd_same _ _ _⟩), (by have h9 := hI.f5; simpa [upd] using h9), (by have h9 := hI.f6; simpa [upd] using h9), (by have h9 := hI.f7; simp only [upd_ne _ _ (show (7 : Nat) ≠ 4 by decide)]; exact fun h => (h9 h).below ((Below.refl _ _).alloc (Nat.le_refl _) _) (Nat.le_refl _)), (by have h9 := hI.f8; simpa [upd] using h9), (by have h9 := hI.f9; have e (j) (h : j ≠ 4) := upd_ne D true h; have e' (j) (h : j ≠ 4) (v) := upd_ne x v h; simp only [e 9 (by decide), e 10 (by decide), e' 9 (by decide), e' 3 (by decide), e' 7 (by decide)]; intro h; obtain ⟨g, h1, h2, h3, h4⟩ := h9 h; exact ⟨g, h1, h2, fun h => (h3 h).below ((Below.refl _ _).alloc (Nat.le_refl _) _) (h3 h).lt, fun h => (h4 h).below ((Below.refl _ _).alloc (Nat.le_refl _) _) (h4 h).lt⟩), (by have h9 := hI.f37; simpa [upd] using h9)⟩
    · intro D x w1 b hI hD hdep hcl hb
      have e2 : b.tmps[2]?.getD undef = .pointer (some ⟨w.heap.size, 0, none⟩) := hb 2
      refine wp_of_run (.pointer (some ⟨w.heap.size, 1, none⟩)) (w' := w1) ?_ ?_
      · clear hb hI hdep hcl
        go_simp
      · exact ⟨hI.bel, (by have h9 := hI.f0; simpa [upd] using h9), (by have h9 := hI.f1; simpa [upd] using h9), (by have h9 := hI.f2; simpa [upd] using h9), (by have h9 := hI.f3; simpa [upd] using h9), (by have h9 := hI.f4; simpa [upd] using h9), (fun _ => upd_same _ _ _), (by have h9 := hI.f6; simpa [upd] using h9), (by have h9 := hI.f7; simpa [upd] using h9), (by have h9 := hI.f8; simpa [upd] using h9), (by have h9 := hI.f9; simpa [upd] using h9), (by have h9 := hI.f37; simpa [upd] using h9)⟩
    · intro D x w1 b hI hD hdep hcl hb
      have e2 : b.tmps[11]?.getD undef = .pointer (some ⟨w.heap.size, 1, none⟩) := (hb 11).trans (hI.f5 (hdep 5 (by decide)))
      have ec := (hI.bel.cell (p := ⟨w.heap.size, 1, none⟩) p0.lt).trans y1
      refine wp_of_run (.slice A' O.length c') (w' := w1) ?_ ?_
      · clear hb hI hdep hcl
        go_simp
      · exact ⟨hI.bel, (by have h9 := hI.f0; simpa [upd] using h9), (by have h9 := hI.f1; simpa [upd] using h9), (by have h9 := hI.f2; simpa [upd] using h9), (by have h9 := hI.f3; simpa [upd] using h9), (by have h9 := hI.f4; simpa [upd] using h9), (by have h9 := hI.f5; simpa [upd] using h9), (fun _ => upd_same _ _ _), (by have h9 := hI.f7; simpa [upd] using h9), (by have h9 := hI.f8; simpa [upd] using h9), (by have h9 := hI.f9; simpa [upd] using h9), (by have h9 := hI.f37; simpa [upd] using h9)⟩
    · intro D x w1 b hI hD hdep hcl hb
      obtain ⟨g, hg⟩ := hI.f4 (hdep 4 (by decide))
      have e1 : b.tmps[10]?.getD undef = .slice (some ⟨g, 0, none⟩) 0 0 := (hb 10).trans hg
      have e2 := (hb 12).trans (hI.f6 (hdep 6 (by decide)))
      have hne7 : 0 < O.length := by have := HL.out; omega
      have hle : O.length ≤ 1000000000 := by have := HL.out; omega
      refine wp_growI rfl (.tmp 10) (.tmp 12) 22 rfl Tryz.underlying22 hi0 hz0 hz1 hz2 g (by simpa [Act.eval] using e1) (by simpa [Act.eval] using e2) (hO0.below (hbw.trans (hI.bel.mono hbw.size))) hne7 hle ?_
      intro v' w' hown hb'
      refine StepPost.mk' ?_
      exact ⟨hI.bel.trans (hb'.mono hI.bel.size), (by have h9 := hI.f0; simpa [upd] using h9), (by have h9 := hI.f1; simpa [upd] using h9), (by have h9 := hI.f2; simpa [upd] using h9), (by have h9 := hI.f3; simp only [upd_ne _ _ (show (3 : Nat) ≠ 7 by decide)]; exact fun h => (h9 h).below hb' (Nat.le_refl _)), (by have h9 := hI.f4; simpa [upd] using h9), (by have h9 := hI.f5; simpa [upd] using h9), (by have h9 := hI.f6; simpa [upd] using h9), (fun _ => by rw [upd_same]; exact hown.mono hI.bel.size), (fun h => absurd (hcl 8 (by simpa [upd] using h) 7 (by decide)) (by simp [hD])), (by have h9 := hI.f9; simp only [upd_ne _ _ (show (9 : Nat) ≠ 7 by decide), upd_ne _ _ (show (10 : Nat) ≠ 7 by decide)]; intro h; obtain ⟨g, h1, h2, h3, h4⟩ := h9 h; exact ⟨g, h1, h2, fun h => (h3 h).below hb' (h3 h).lt, fun h => absurd (hcl 8 (hcl 10 h 8 (by decide)) 7 (by decide)) (by simp [hD])⟩), (by intro h; have ho := hI.f3; simp only [upd_same, upd_ne _ _ (show (3 : Nat) ≠ 7 by decide)]; intro h'; exact (ownI_ne (ho (by simpa [upd] using h)) hown hne7).symm)⟩
    · intro D x w1 b hI hD hdep hcl hb
      have e1 : b.tmps[9]?.getD undef = x 3 := hb 9
      have e2 : b.tmps[13]?.getD undef = x 7 := hb 13
      refine wp_of_run (.agg #[x 3, x 7]) (w' := w1) ?_ ?_
      · obtain ⟨C0, m0, h0⟩ := (hI.f3 (hdep 3 (by decide))).form
        obtain ⟨C1, m1, h1⟩ := (hI.f7 (hdep 7 (by decide))).form
        rw [h0] at e1 ⊢
        rw [h1] at e2 ⊢
        clear hb hI hdep hcl h0 h1
        go_simp
      · exact ⟨hI.bel, (by have h9 := hI.f0; simpa [upd] using h9), (by have h9 := hI.f1; simpa [upd] using h9), (by have h9 := hI.f2; simpa [upd] using h9), (by have h9 := hI.f3; simpa [upd] using h9), (by have h9 := hI.f4; simpa [upd] using h9), (by have h9 := hI.f5; simpa [upd] using h9), (by have h9 := hI.f6; simpa [upd] using h9), (by have h9 := hI.f7; simpa [upd] using h9), (fun _ => by simp [upd]), (by have h9 := hI.f9; simpa [upd] using h9), (by have h9 := hI.f37; simpa [upd] using h9)⟩
    · intro D x w1 b hI hD hdep hcl hb
      refine wp_of_run (.pointer (some ⟨w1.heap.size, 0, none⟩)) (w' := w1.alloc (.cells #[.slice none 0 0, .slice none 0 0] 24)) ?_ ?_
      · clear hb hI hdep hcl
        go_simp
      · exact ⟨hI.bel.trans (((Below.refl _ _).alloc (Nat.le_refl _) _).mono hI.bel.size), (by have h9 := hI.f0; simpa [upd] using h9), (by have h9 := hI.f1; simpa [upd] using h9), (by have h9 := hI.f2; simpa [upd] using h9), (by have h9 := hI.f3; simp only [upd_ne _ _ (show (3 : Nat) ≠ 9 by decide)]; exact fun h => (h9 h).below ((Below.refl _ _).alloc (Nat.le_refl _) _) (Nat.le_refl _)), (by have h9 := hI.f4; simpa [upd] using h9), (by have h9 := hI.f5; simpa [upd] using h9), (by have h9 := hI.f6; simpa [upd] using h9), (by have h9 := hI.f7; simp only [upd_ne _ _ (show (7 : Nat) ≠ 9 by decide)]; exact fun h => (h9 h).below ((Below.refl _ _).alloc (Nat.le_refl _) _) (Nat.le_refl _)), (by have h9 := hI.f8; simpa [upd] using h9), (fun _ => ⟨_, upd_same _ _ _, hI.bel.size, fun _ => Arr.new _ _ [_, _], fun h => absurd (hcl 10 (by simpa [upd] using h) 9 (by decide)) (by simp [hD])⟩), (by have h9 := hI.f37; simpa [upd] using h9)⟩
    · intro D x w1 b hI hD hdep hcl hb
      obtain ⟨g, hg, hgb, harr, _⟩ := hI.f9 (hdep 9 (by decide))
      have ha := harr hD
      have e1 : b.tmps[5]?.getD undef = .pointer (some ⟨g, 0, none⟩) := (hb 5).trans hg
      have e2 : b.tmps[14]?.getD undef = .agg #[x 3, x 7] := (hb 14).trans (hI.f8 (hdep 8 (by decide)))
      have d3 := hcl 8 (hdep 8 (by decide)) 3 (by decide)
      have d7 := hcl 8 (hdep 8 (by decide)) 7 (by decide)
      obtain ⟨C0, m0, h0⟩ := (hI.f3 d3).form
      obtain ⟨C1, m1, h1⟩ := (hI.f7 d7).form
      have q0 := ha.cell 0
      have q1 := ha.cell 1
      have q2 := ha.frozen 0
      have q3 := ha.frozen 1
      have hne : ∀ (v : Value) (xs : List Int), OwnI 3 w4.heap.size w1 v xs → v.ownBlock ≠ some g := fun v xs h he => ownI_arr_ne h ha (by decide) he
      refine wp_of_skip (w' := (w1.setCell ⟨g, 0, none⟩ (x 3)).setCell ⟨g, 1, none⟩ (x 7)) ?_ ?_
      · rw [h0, h1] at e2 ⊢
        clear hb hI hdep hcl h0 h1 hne ha
        go_simp
      · have ar := (ha.set 0 (x 3)).set 1 (x 7)
        have o3 := (((hI.f3 d3).far (p := ⟨g, 0, none⟩) (hne _ _ (hI.f3 d3)) (x 3)).far (p := ⟨g, 1, none⟩) (hne _ _ (hI.f3 d3)) (x 7))
        have o7 := (((hI.f7 d7).far (p := ⟨g, 0, none⟩) (hne _ _ (hI.f7 d7)) (x 3)).far (p := ⟨g, 1, none⟩) (hne _ _ (hI.f7 d7)) (x 7))
        have bl := bset2 (r := g) hI.bel hgb (i := 0) (j := 1) (u := x 3) (v := x 7)
        exact ⟨bl, (by have h9 := hI.f0; simpa [upd] using h9), (by have h9 := hI.f1; simpa [upd] using h9), (by have h9 := hI.f2; simpa [upd] using h9), (fun _ => by simpa [upd] using o3), (by have h9 := hI.f4; simpa [upd] using h9), (by have h9 := hI.f5; simpa [upd] using h9), (by have h9 := hI.f6; simpa [upd] using h9), (fun _ => by simpa [upd] using o7), (by have h9 := hI.f8; simpa [upd] using h9), (fun _ => ⟨g, by simpa [upd] using hg, hgb, fun h => by simp [upd] at h, fun _ => by simpa [upd] using ar⟩), (by have h9 := hI.f37; simpa [upd] using h9)⟩
    · intro D x w1 hI hD
      have d3 := hD 3 (by decide)
      have d7 := hD 7 (by decide)
      obtain ⟨g, hg, hgb, _, harr⟩ := hI.f9 (hD 9 (by decide))
      simp only [putAll, dstOf, Act.put, List.map_cons, List.map_nil, List.setIfInBounds_toArray, List.set_cons_succ, List.set_cons_zero, Nat.reduceAdd]
      go_wp2_with fail
      go_meet
      exact ⟨g, hg, harr (hD 10 (by decide)), hgb, hI.f3 d3, hI.f7 d7, hI.f37 d3 d7, hI.bel⟩
  case rest =>
    obtain ⟨g, rfl, hA, hgb, h9, h13, hne, hbc⟩ := hcut
    obtain ⟨b1, o1, rfl, hlt1, c1⟩ := hX0.at_ (show a < X.length by omega)
    obtain ⟨b1', o1', e1', hlt1', c1'⟩ := hX0.at_ ha
    obtain ⟨rfl, rfl⟩ : b1 = b1' ∧ o1 = o1' := by simpa using e1'
    clear e1' hlt1'
    have haO : a + 1 < O.length := by have := HL.out; omega
    obtain ⟨b2, o2, rfl, hlt2, c2⟩ := hO0.at_ (show a < O.length by omega)
    obtain ⟨b2', o2', e2', hlt2', c2'⟩ := hO0.at_ haO
    obtain ⟨rfl, rfl⟩ : b2 = b2' ∧ o2 = o2' := by simpa using e2'
    clear e2' hlt2'
    have hw := hbw.trans (hbc.mono hbw.size)
    have hlO : 0 < O.length := by omega
    obtain ⟨gx, mx, rfl, gx1, gx2⟩ := h9.form1 (by omega)
    obtain ⟨go, mo, rfl, go1, go2⟩ := h13.form1 hlO
    have n1 : gx ≠ go := fun h => hne (by simp [Value.ownBlock, h])
    have n2 : gx ≠ g := fun h => ownI_arr_ne h9 hA (by decide) (by simp [Value.ownBlock, h])
    have n3 : go ≠ g := fun h => ownI_arr_ne h13 hA (by decide) (by simp [Value.ownBlock, h])
    clear hne
    have bl1 := p0.lt
    have gz := hA.lt
    have hwz := hbw.size
    have q0 := p0.below hbc p0.lt
    have q1 := p1.below hbc p1.lt
    clear p0 p1 y0 y1 hbc hbw
    have sw (l : List Int) (h : a + 1 < l.length) : (l.set a l[a + 1]).set (a + 1) (l[a]) = swapL l a := by simp [swapL, List.getD_eq_getElem?_getD, h, show a < l.length from by omega]
    have SW := Lib.hid sw
    clear sw
    go_wp2_with fail
    go_cut [5] (fun s5 wx => s5 = .pointer (some ⟨g, 0, none⟩) ∧ Arr wx g 24 [.slice (some ⟨gx, 0, none⟩) X.length mx, .slice (some ⟨go, 0, none⟩) O.length mo] ∧ OwnI 3 w4.heap.size wx (.slice (some ⟨gx, 0, none⟩) X.length mx) (swapL X a) ∧ OwnI 3 w4.heap.size wx (.slice (some ⟨go, 0, none⟩) O.length mo) O ∧ Arr wx w.heap.size 24 [.slice (some ⟨b1, o1, none⟩) X.length c, .slice (some ⟨b2, o2, none⟩) O.length c'] ∧ Arr wx (w.heap.size + 1) 24 [.slice none 0 0, .slice none 0 0] ∧ Below w.heap.size w wx)
    case first =>
      have r0 := hA.cell 0
      have y0 := q0.cell 0
      have z1 := (hw.cell (p := ⟨b1, o1 + a, none⟩) hlt1).trans c1
      have z1' := (hw.cell (p := ⟨b1, o1 + (a + 1), none⟩) hlt1).trans c1'
      obtain ⟨ka1, ka2⟩ := h9.at_ (show a < X.length by omega)
      obtain ⟨kb1, kb2⟩ := h9.at_ (show a + 1 < X.length by omega)
      have KS0 := Lib.hid (show wc.drew.cell? ⟨w.heap.size, 0, none⟩ = some (.slice (some ⟨b1, o1, none⟩) X.length c) ∧ wc.drew.cell? ⟨g, 0, none⟩ = some (.slice (some ⟨gx, 0, none⟩) X.length mx) ∧ wc.drew.cell? ⟨b1, o1 + a, none⟩ = some (.int .i64 X[a]) ∧ wc.drew.cell? ⟨b1, o1 + (a + 1), none⟩ = some (.int .i64 X[a + 1]) from ⟨y0, r0, z1, z1'⟩)
      have KS := Lib.hid (fun (W : World) (j : Nat) (u : Value) (hS : W.cell? ⟨w.heap.size, 0, none⟩ = some (.slice (some ⟨b1, o1, none⟩) X.length c) ∧ W.cell? ⟨g, 0, none⟩ = some (.slice (some ⟨gx, 0, none⟩) X.length mx) ∧ W.cell? ⟨b1, o1 + a, none⟩ = some (.int .i64 X[a]) ∧ W.cell? ⟨b1, o1 + (a + 1), none⟩ = some (.int .i64 X[a + 1])) => (⟨(cell_far (by show w.heap.size ≠ gx; omega) u).trans hS.1, (cell_far (by show g ≠ gx; omega) u).trans hS.2.1, (cell_far (by show b1 ≠ gx; omega) u).trans hS.2.2.1, (cell_far (by show b1 ≠ gx; omega) u).trans hS.2.2.2⟩ : (W.setCell ⟨gx, j, none⟩ u).cell? ⟨w.heap.size, 0, none⟩ = some (.slice (some ⟨b1, o1, none⟩) X.length c) ∧ (W.setCell ⟨gx, j, none⟩ u).cell? ⟨g, 0, none⟩ = some (.slice (some ⟨gx, 0, none⟩) X.length mx) ∧ (W.setCell ⟨gx, j, none⟩ u).cell? ⟨b1, o1 + a, none⟩ = some (.int .i64 X[a]) ∧ (W.setCell ⟨gx, j, none⟩ u).cell? ⟨b1, o1 + (a + 1), none⟩ = some (.int .i64 X[a + 1])))
      have j0 : (0 : Int) ≤ (a : Int) := by omega
      have j1 : (a : Int) < (X.length : Int) := by omega
      have j2 : (0 : Int) ≤ (a : Int) + 1 := by omega
      have j3 : (a : Int) + 1 < (X.length : Int) := by omega
      have j4 : ((a : Int) + 1).toNat = a + 1 := by omega
      have j5 : IntKind.i64.wrap ((a : Int) + 1) = (a : Int) + 1 := IntWalk.i64_in _ (by omega)
      go_wp2_with fail
      go_region_held3 (fun w' => w'.cell? ⟨w.heap.size, 0, none⟩ = some (.slice (some ⟨b1, o1, none⟩) X.length c) ∧ w'.cell? ⟨g, 0, none⟩ = some (.slice (some ⟨gx, 0, none⟩) X.length mx) ∧ w'.cell? ⟨b1, o1 + a, none⟩ = some (.int .i64 X[a]) ∧ w'.cell? ⟨b1, o1 + (a + 1), none⟩ = some (.int .i64 X[a + 1])) (first | exact KS0.out | exact KS.out _ _ _ KS0.out | exact KS.out _ _ _ (KS.out _ _ _ KS0.out)) (fail)
      go_wp2_with fail
      go_meet
      have sx := SW.out X ha
      refine ⟨rfl, (hA.far (p := ⟨gx, a, none⟩) (Ne.symm n2) _).far (p := ⟨gx, a + 1, none⟩) (Ne.symm n2) _, ?_, (h13.far (p := ⟨gx, a, none⟩) (by simp [Value.ownBlock]; omega) _).far (p := ⟨gx, a + 1, none⟩) (by simp [Value.ownBlock]; omega) _, (q0.far (p := ⟨gx, a, none⟩) (by show w.heap.size ≠ gx; omega) _).far (p := ⟨gx, a + 1, none⟩) (by show w.heap.size ≠ gx; omega) _, (q1.far (p := ⟨gx, a, none⟩) (by show w.heap.size + 1 ≠ gx; omega) _).far (p := ⟨gx, a + 1, none⟩) (by show w.heap.size + 1 ≠ gx; omega) _, (bset2 (r := gx) hw (by omega)).drew⟩
      rw [← sx]
      exact (h9.set a _).set (a + 1) _
    case rest =>
      clear hA h9 h13 q0 q1 hw gx2 go2 gz
      obtain ⟨rfl, hA, h9, h13, q0, q1, hw⟩ := hcut
      have gz := hA.lt
      go_wp2_with fail
      go_cut [5] (fun s5 wx => s5 = .pointer (some ⟨g, 0, none⟩) ∧ Arr wx g 24 [.slice (some ⟨gx, 0, none⟩) X.length mx, .slice (some ⟨go, 0, none⟩) O.length mo] ∧ OwnI 3 w4.heap.size wx (.slice (some ⟨gx, 0, none⟩) X.length mx) (swapL X a) ∧ OwnI 3 w4.heap.size wx (.slice (some ⟨go, 0, none⟩) O.length mo) (swapL O a) ∧ Arr wx (w.heap.size + 1) 24 [.slice none 0 0, .slice none 0 0] ∧ Below w.heap.size w wx)
      case first =>
        have r0 := hA.cell 1
        have y0 := q0.cell 1
        have z1 := (hw.cell (p := ⟨b2, o2 + a, none⟩) hlt2).trans c2
        have z1' := (hw.cell (p := ⟨b2, o2 + (a + 1), none⟩) hlt2).trans c2'
        obtain ⟨ka1, ka2⟩ := h13.at_ (show a < O.length by omega)
        obtain ⟨kb2, kb2⟩ := h13.at_ (show a + 1 < O.length by omega)
        have KS0 := Lib.hid (show wc.drew.cell? ⟨w.heap.size, 1, none⟩ = some (.slice (some ⟨b2, o2, none⟩) O.length c') ∧ wc.drew.cell? ⟨g, 1, none⟩ = some (.slice (some ⟨go, 0, none⟩) O.length mo) ∧ wc.drew.cell? ⟨b2, o2 + a, none⟩ = some (.int .i64 O[a]) ∧ wc.drew.cell? ⟨b2, o2 + (a + 1), none⟩ = some (.int .i64 O[a + 1]) from ⟨y0, r0, z1, z1'⟩)
        have KS := Lib.hid (fun (W : World) (j : Nat) (u : Value) (hS : W.cell? ⟨w.heap.size, 1, none⟩ = some (.slice (some ⟨b2, o2, none⟩) O.length c') ∧ W.cell? ⟨g, 1, none⟩ = some (.slice (some ⟨go, 0, none⟩) O.length mo) ∧ W.cell? ⟨b2, o2 + a, none⟩ = some (.int .i64 O[a]) ∧ W.cell? ⟨b2, o2 + (a + 1), none⟩ = some (.int .i64 O[a + 1])) => (⟨(cell_far (by show w.heap.size ≠ go; omega) u).trans hS.1, (cell_far (by show g ≠ go; omega) u).trans hS.2.1, (cell_far (by show b2 ≠ go; omega) u).trans hS.2.2.1, (cell_far (by show b2 ≠ go; omega) u).trans hS.2.2.2⟩ : (W.setCell ⟨go, j, none⟩ u).cell? ⟨w.heap.size, 1, none⟩ = some (.slice (some ⟨b2, o2, none⟩) O.length c') ∧ (W.setCell ⟨go, j, none⟩ u).cell? ⟨g, 1, none⟩ = some (.slice (some ⟨go, 0, none⟩) O.length mo) ∧ (W.setCell ⟨go, j, none⟩ u).cell? ⟨b2, o2 + a, none⟩ = some (.int .i64 O[a]) ∧ (W.setCell ⟨go, j, none⟩ u).cell? ⟨b2, o2 + (a + 1), none⟩ = some (.int .i64 O[a + 1])))
        have j0 : (0 : Int) ≤ (a : Int) := by omega
        have j1 : (a : Int) < (O.length : Int) := by omega
        have j2 : (0 : Int) ≤ (a : Int) + 1 := by omega
        have j3 : (a : Int) + 1 < (O.length : Int) := by omega
        have j4 : ((a : Int) + 1).toNat = a + 1 := by omega
        have j5 : IntKind.i64.wrap ((a : Int) + 1) = (a : Int) + 1 := IntWalk.i64_in _ (by omega)
        go_wp2_with fail
        go_region_held3 (fun w' => w'.cell? ⟨w.heap.size, 1, none⟩ = some (.slice (some ⟨b2, o2, none⟩) O.length c') ∧ w'.cell? ⟨g, 1, none⟩ = some (.slice (some ⟨go, 0, none⟩) O.length mo) ∧ w'.cell? ⟨b2, o2 + a, none⟩ = some (.int .i64 O[a]) ∧ w'.cell? ⟨b2, o2 + (a + 1), none⟩ = some (.int .i64 O[a + 1])) (first | exact KS0.out | exact KS.out _ _ _ KS0.out | exact KS.out _ _ _ (KS.out _ _ _ KS0.out)) (fail)
        go_wp2_with fail
        go_meet
        have sx := SW.out O haO
        refine ⟨rfl, (hA.far (p := ⟨go, a, none⟩) (Ne.symm n3) _).far (p := ⟨go, a + 1, none⟩) (Ne.symm n3) _, (h9.far (p := ⟨go, a, none⟩) (by simp [Value.ownBlock]; omega) _).far (p := ⟨go, a + 1, none⟩) (by simp [Value.ownBlock]; omega) _, ?_, (q1.far (p := ⟨go, a, none⟩) (by show w.heap.size + 1 ≠ go; omega) _).far (p := ⟨go, a + 1, none⟩) (by show w.heap.size + 1 ≠ go; omega) _, (bset2 (r := go) hw (by omega)).drew⟩
        rw [← sx]
        exact (h13.set a _).set (a + 1) _
      case rest =>
        clear hA h9 h13 q0 q1 hw gz SW
        obtain ⟨rfl, hA, h9, h13, q1, hw⟩ := hcut
        have r0 := hA.cell 0
        have r1 := hA.cell 1
        have s0 := q1.cell 0
        have s1 := q1.cell 1
        have s2 := q1.frozen 0
        have s3 := q1.frozen 1
        have hres := Lib.hid ((q1.set 0 (.slice (some ⟨gx, 0, none⟩) X.length mx)).set 1 (.slice (some ⟨go, 0, none⟩) O.length mo))
        go_wp2_with fail
        refine bodyPost_ret (v := .agg #[.slice (some ⟨gx, 0, none⟩) X.length mx, .slice (some ⟨go, 0, none⟩) O.length mo]) (results_c Tryz.results84 _ _ (w.heap.size + 1) 24 _ _ rfl hres.out Tryz.underlying24 rfl info_grid) rfl ?_
        exact ⟨_, rfl, ⟨_, _, _, _, _, _, rfl, (h9.far2 (r := w.heap.size + 1) l1).mono hwz, (h13.far2 (r := w.heap.size + 1) l1).mono hwz⟩, bset2 (r := w.heap.size + 1) hw (by omega)⟩
end Go.Proofs.YteliflcbegcdlaaGreatDoor

namespace Go.Proofs.YteliflcbegcdlaaGreatDoor
open Go.RowKit
set_option linter.unusedVariables false
/-- new memory, and writes to block z alone -/
structure Gro (B : Nat) (w w' : World) (z : Option Nat) : Prop where
  bel : Below B w w'
  keep : ∀ k, k < w.heap.size → z ≠ some k → w'.heap[k]? = w.heap[k]?
theorem Gro.size {B : Nat} {w w' : World} {z : Option Nat} (g : Gro B w w' z) : w.heap.size ≤ w'.heap.size := g.bel.size
theorem Gro.of_below {w w' : World} (h : Below w.heap.size w w') : Gro w.heap.size w w' none := ⟨h, fun k hk _ => h.block k hk⟩
theorem Gro.alloc (w : World) (o : Obj) : Gro w.heap.size w (w.alloc o) none := Gro.of_below ((Below.refl _ _).alloc (Nat.le_refl _) _)
theorem Gro.mono {B C : Nat} {w w' : World} {z : Option Nat} (g : Gro B w w' z) (h : C ≤ B) : Gro C w w' z := ⟨g.bel.mono h, g.keep⟩
theorem Arr.gro {B b : Nat} {w w' : World} {z : Option Nat} {t : TypeId} {cs : List Value} (h : Arr w b t cs) (g : Gro B w w' z) (hz : z ≠ some b) : Arr w' b t cs := (g.keep b h.lt hz).trans h
theorem OwnI.gro {B base : Nat} {e : TypeId} {w w' : World} {v : Value} {xs : List Int} {z : Option Nat} (h : OwnI e base w v xs) (g : Gro B w w' z) (hz : ∀ k, v.ownBlock = some k → z ≠ some k) : OwnI e base w' v xs := by
  refine ⟨h.1, ?_⟩
  rcases h.2 with h0 | ⟨b, cap, cur, rfl, hg, hh, r⟩
  · exact .inl h0
  · refine .inr ⟨b, cap, cur, rfl, hg, ?_, r⟩
    have hlt : b < w.heap.size := by
      rcases Nat.lt_or_ge b w.heap.size with hlt | hge
      · exact hlt
      · rw [Array.getElem?_eq_none hge] at hh; cases hh
    rw [g.keep b hlt (hz b rfl)]; exact hh
theorem OwnI.lt {base : Nat} {e : TypeId} {w : World} {v : Value} {xs : List Int} (h : OwnI e base w v xs) : ∀ k, v.ownBlock = some k → base ≤ k ∧ k < w.heap.size := by
  intro k hk
  rcases h.2 with ⟨rfl, h0⟩ | ⟨b, cap, cur, rfl, hg, hh, r⟩
  · simp [Value.ownBlock] at hk
  · simp [Value.ownBlock] at hk
    subst hk
    rcases Nat.lt_or_ge b w.heap.size with hlt | hge
    · exact ⟨hg, hlt⟩
    · rw [Array.getElem?_eq_none hge] at hh; cases hh
theorem OwnI.intsF {base : Nat} {e : TypeId} {w : World} {v : Value} {xs : List Int} (h : OwnI e base w v xs) : IntsF base w v xs := by
  intro W hW
  refine OwnI.ints (e := e) (base := base) ⟨h.1, ?_⟩
  rcases h.2 with h0 | ⟨b, cap, cur, rfl, hg, hh, r⟩
  · exact .inl h0
  · refine .inr ⟨b, cap, cur, rfl, hg, ?_, r⟩
    rw [hW b hg (h.lt b rfl).2]; exact hh
section
variable {P : Program} {w : World} {e : TypeId} {base : Nat} {v : Value} {xs : List Int}
theorem wp_appG {o : Oper} {a : Act} {K : Act → World → Prop} {Q : Exit → Act → World → Prop} (s x : Operand) (t : TypeId) (ho : o.op = .call { callee := .builtin .append, args := #[s, x], argTypes := #[t, t] })
    {i : TypeInfo} (ht : P.underlying t = some (.slice e)) (hi : P.info? e = some i) (hz : i.zero = some (.int .i64 0)) (hs : i.size = 1) (hby : i.bytes = 8)
    (hv : a.eval s = v) (h : OwnI e base w v xs) {ad : Addr} {c : Nat} {ys : List Int} (hx : a.eval x = .slice (some ad) ys.length c) (hu : Ints w (.slice (some ad) ys.length c) ys) (hlen : xs.length + ys.length ≤ 1000000000) (hbase : base ≤ w.heap.size)
    (hK : ∀ v' w', OwnI e base w' v' (xs ++ ys) → Gro base w w' v.ownBlock → (v'.ownBlock = v.ownBlock ∨ v'.ownBlock = some w.heap.size) → K (a.put o.dst v') w') : o.wp P a w K Q := by
  obtain ⟨A, c', he, hc, hx'⟩ := hu
  injection he with e1 e2 e3
  subst e1
  have hcells : ∀ j q, (ys.map (Value.int .i64))[j]? = some q → w.cell? (ad.add j) = some q := by
    intro j q hq
    rw [List.getElem?_map] at hq
    cases hy : ys[j]? with
    | none => rw [hy] at hq; cases hq
    | some y =>
      rw [hy] at hq
      injection hq with hq
      obtain ⟨b, o, hA, hcell⟩ := hx' j y hy
      injection hA with hA
      subst hA
      rw [← hq]
      have : (⟨b, o, none⟩ : Addr).add j = ⟨b, o + j, none⟩ := by unfold Addr.add; split <;> simp_all
      rw [this]; exact hcell
  obtain ⟨v', w', hrun, h2, h3, _, h5⟩ := run_append_own_at (P := P) w base t o.type e i (.int .i64 0) 1 8 ht hi hz hs hby rfl (by decide) v xs.length (xs.map (Value.int .i64)) h ad ys.length c (ys.map (Value.int .i64)) (by simp) hcells
    (by intro q hq; obtain ⟨y, _, rfl⟩ := List.mem_map.1 hq; rfl) (by unfold maxLen; omega) (by omega) hbase
  unfold Oper.wp execOp
  simp only [ho, resolve, invoke, builtin, Sem.run_bind, Sem.run_pure, Result.andThen_ok, List.map_toArray, List.map_cons, List.map_nil, hv, hx, hrun]
  refine hK v' w' ?_ ⟨(Below.refl _ _).grown h3 hbase h.block, fun k hk hne => h3.block k hk (fun e => hne e.symm)⟩ h5
  unfold OwnI
  rw [List.length_append, List.map_append]
  exact h2
end
/-- the rows of these operations are there -/
def ltF (L : List Nat) (D : Nat → Bool) (x : Nat → Value) (w : World) : Prop := ∀ p ∈ L, D p = true → ∀ k, (x p).ownBlock = some k → k < w.heap.size
/-- the rows of the first operations lie apart from those of the second ones -/
def crF (L M : List Nat) (D : Nat → Bool) (x : Nat → Value) : Prop := ∀ p ∈ L, ∀ q ∈ M, D p = true → D q = true → ∀ k, (x p).ownBlock = some k → (x q).ownBlock ≠ some k
section
variable {L M : List Nat} {D : Nat → Bool} {x : Nat → Value} {w w' : World} {i : Nat} {v : Value}
theorem ltF.upd (h : ltF L D x w) (hs : w.heap.size ≤ w'.heap.size) (hv : ∀ k, v.ownBlock = some k → k < w'.heap.size) : ltF L (upd D i true) (upd x i v) w' := by
  intro p hp hd k hk
  by_cases e : p = i
  · subst e; rw [upd_same] at hk; exact hv k hk
  · rw [upd_ne _ _ e] at hk hd
    exact Nat.lt_of_lt_of_le (h p hp hd k hk) hs
theorem ltF.skip (h : ltF L D x w) (hs : w.heap.size ≤ w'.heap.size) (hi : i ∉ L) : ltF L (Go.Proofs.YteliflcbegcdlaaGreatDoor.upd D i true) (Go.Proofs.YteliflcbegcdlaaGreatDoor.upd x i v) w' := by
  intro p hp hd k hk
  have e : p ≠ i := fun e => hi (e ▸ hp)
  rw [upd_ne _ _ e] at hk hd
  exact Nat.lt_of_lt_of_le (h p hp hd k hk) hs
theorem crF.skip (h : crF L M D x) (hi : i ∉ L) (hj : i ∉ M) : crF L M (upd D i true) (upd x i v) := by
  intro p hp q hq hd hd' k hk
  have e : p ≠ i := fun e => hi (e ▸ hp)
  have e' : q ≠ i := fun e => hj (e ▸ hq)
  rw [upd_ne _ _ e] at hk hd
  rw [upd_ne _ _ e'] at hd' ⊢
  exact h p hp q hq hd hd' k hk
theorem crF.left (h : crF L M D x) (hl : ltF M D x w) (hi : i ∉ M) (hv : ∀ k, v.ownBlock = some k → w.heap.size ≤ k ∨ ∃ p ∈ L, D p = true ∧ (x p).ownBlock = some k) : crF L M (upd D i true) (upd x i v) := by
  intro p hp q hq hd hd' k hk
  have e' : q ≠ i := fun e => hi (e ▸ hq)
  rw [upd_ne _ _ e'] at hd' ⊢
  by_cases e : p = i
  · subst e
    rw [upd_same] at hk
    rcases hv k hk with hv | ⟨p', hp', hd2, hk2⟩
    · intro hq2
      have := hl q hq hd' k hq2
      omega
    · exact h p' hp' q hq hd2 hd' k hk2
  · rw [upd_ne _ _ e] at hk hd
    exact h p hp q hq hd hd' k hk
theorem crF.right (h : crF L M D x) (hl : ltF L D x w) (hi : i ∉ L) (hv : ∀ k, v.ownBlock = some k → w.heap.size ≤ k ∨ ∃ p ∈ M, D p = true ∧ (x p).ownBlock = some k) : crF L M (upd D i true) (upd x i v) := by
  intro p hp q hq hd hd' k hk
  have e : p ≠ i := fun e => hi (e ▸ hp)
  rw [upd_ne _ _ e] at hd hk
  by_cases e' : q = i
  · subst e'
    rw [upd_same]
    intro hk'
    rcases hv k hk' with hv | ⟨q', hq', hd2, hk2⟩
    · have := hl p hp hd k hk
      omega
    · exact h p hp q' hq' hd hd2 k hk hk2
  · rw [upd_ne _ _ e'] at hd' ⊢
    exact h p hp q hq hd hd' k hk
end
end Go.Proofs.YteliflcbegcdlaaGreatDoor

namespace Go.Proofs.YteliflcbegcdlaaGreatDoor
open Go.RowKit
set_option linter.unusedVariables false
theorem rotL_split (X : List Int) (h : 0 < X.length) : X.drop 1 ++ [X[0]] = rotL X := by
  cases X with
  | nil => simp at h
  | cons x X => simp [rotL]
/-- what holds in the region of the translation, whatever has come up -/
structure RcI (N : Nat) (w4 : World) (vx vo tx to_ : Value) (b1 o1 b2 o2 : Nat) (x0 o0 : Int) (X O : List Int) (D : Nat → Bool) (x : Nat → Value) (w : World) : Prop where
  bel : Below (N + 2) w4 w
  siz : w4.heap.size ≤ w.heap.size
  f0 : D 0 = true → ∃ g, x 0 = .slice (some ⟨g, 0, none⟩) 0 0
  f1 : D 1 = true → x 1 = .pointer (some ⟨N, 0, none⟩)
  f2 : D 2 = true → x 2 = vx
  f3 : D 3 = true → x 3 = tx
  f4 : D 4 = true → D 10 = false → OwnI 3 w4.heap.size w (x 4) (X.drop 1)
  f5 : D 5 = true → x 5 = .pointer (some ⟨N, 0, none⟩)
  f6 : D 6 = true → x 6 = vx
  f7 : D 7 = true → x 7 = .pointer (some ⟨b1, o1, none⟩)
  f8 : D 8 = true → x 8 = .int .i64 x0
  f9 : D 9 = true → D 10 = false → ∃ b, x 9 = .slice (some ⟨b, 0, none⟩) 1 1 ∧ Arr w b 3 [.int .i64 x0]
  f10 : D 10 = true → OwnI 3 w4.heap.size w (x 10) (rotL X)
  f11 : D 11 = true → ∃ g, x 11 = .slice (some ⟨g, 0, none⟩) 0 0
  f12 : D 12 = true → x 12 = .pointer (some ⟨N, 1, none⟩)
  f13 : D 13 = true → x 13 = vo
  f14 : D 14 = true → x 14 = to_
  f15 : D 15 = true → D 21 = false → OwnI 3 w4.heap.size w (x 15) (O.drop 1)
  f16 : D 16 = true → x 16 = .pointer (some ⟨N, 1, none⟩)
  f17 : D 17 = true → x 17 = vo
  f18 : D 18 = true → x 18 = .pointer (some ⟨b2, o2, none⟩)
  f19 : D 19 = true → x 19 = .int .i64 o0
  f20 : D 20 = true → D 21 = false → ∃ b, x 20 = .slice (some ⟨b, 0, none⟩) 1 1 ∧ Arr w b 3 [.int .i64 o0]
  f21 : D 21 = true → OwnI 3 w4.heap.size w (x 21) (rotL O)
  f22 : D 22 = true → x 22 = .agg #[x 10, x 21]
  res : (D 23 = false → Arr w (N + 2) 24 [.slice none 0 0, .slice none 0 0]) ∧ (D 23 = true → Arr w (N + 2) 24 [x 10, x 21])
  f24 : D 24 = true → x 24 = .int .i64 0
  lt : ltF [4, 9, 10, 15, 20, 21] D x w
  cr : crF [4, 9, 10] [15, 20, 21] D x
set_option maxRecDepth 100000 in
set_option maxHeartbeats 4000000 in
theorem refCols1 (vx vo : Value) (X O : List Int) (rows : Bool) (a v : Int) (w : World) (hX : Ints w vx X) (hO : Ints w vo O) (hv : Vd X O) (ha0 : 0 ≤ a) (ha1 : a < 1) (hv0 : 0 ≤ v) (hv1 : v < 1) :
    Calls Tryz.prog 66 #[.agg #[vx, vo], .agg #[.int .i64 1, .bool rows, .int .i64 a, .int .i64 v]] w fun e w' => ∃ g, e = .returned (.tuple #[g, .int .i64 0]) ∧ OwnG w.heap.size w' g (rotL X) (rotL O) ∧ Below w.heap.size w w' := by
  have hX0 := hX
  have hO0 := hO
  obtain ⟨A, c, rfl, hc, hh⟩ := hX
  obtain ⟨A', c', rfl, hc', hh'⟩ := hO
  clear hh hh'
  have h2 := hv.two
  have h40 := hv.most
  go_enter Tryz.func66, Tryz.ntmps66
  go_upto_region 6 with fail
  have hW : Arr (((((w.alloc (.cells #[.slice A X.length c, .slice A' O.length c'] 24)).alloc (.cells #[.int .i64 1, .bool rows, .int .i64 a, .int .i64 v] 85)).alloc (.cells #[.slice none 0 0, .slice none 0 0] 24)).alloc (.cells #[.int .i64 1, .int .i64 ((X.length : Int) - 1), .int .i64 (X.length : Int), .int .i64 ((X.length : Int) + 1)] 3)).alloc (.cells #[.int .i64 1, .int .i64 1, .int .i64 1, .int .i64 (2 * (X.length : Int))] 3)) w.heap.size 24 [.slice A X.length c, .slice A' O.length c'] ∧ Arr (((((w.alloc (.cells #[.slice A X.length c, .slice A' O.length c'] 24)).alloc (.cells #[.int .i64 1, .bool rows, .int .i64 a, .int .i64 v] 85)).alloc (.cells #[.slice none 0 0, .slice none 0 0] 24)).alloc (.cells #[.int .i64 1, .int .i64 ((X.length : Int) - 1), .int .i64 (X.length : Int), .int .i64 ((X.length : Int) + 1)] 3)).alloc (.cells #[.int .i64 1, .int .i64 1, .int .i64 1, .int .i64 (2 * (X.length : Int))] 3)) (w.heap.size + 1) 85 [.int .i64 1, .bool rows, .int .i64 a, .int .i64 v] ∧ Arr (((((w.alloc (.cells #[.slice A X.length c, .slice A' O.length c'] 24)).alloc (.cells #[.int .i64 1, .bool rows, .int .i64 a, .int .i64 v] 85)).alloc (.cells #[.slice none 0 0, .slice none 0 0] 24)).alloc (.cells #[.int .i64 1, .int .i64 ((X.length : Int) - 1), .int .i64 (X.length : Int), .int .i64 ((X.length : Int) + 1)] 3)).alloc (.cells #[.int .i64 1, .int .i64 1, .int .i64 1, .int .i64 (2 * (X.length : Int))] 3)) (w.heap.size + 2) 24 [.slice none 0 0, .slice none 0 0] ∧ Arr (((((w.alloc (.cells #[.slice A X.length c, .slice A' O.length c'] 24)).alloc (.cells #[.int .i64 1, .bool rows, .int .i64 a, .int .i64 v] 85)).alloc (.cells #[.slice none 0 0, .slice none 0 0] 24)).alloc (.cells #[.int .i64 1, .int .i64 ((X.length : Int) - 1), .int .i64 (X.length : Int), .int .i64 ((X.length : Int) + 1)] 3)).alloc (.cells #[.int .i64 1, .int .i64 1, .int .i64 1, .int .i64 (2 * (X.length : Int))] 3)) (w.heap.size + 3) 3 [.int .i64 1, .int .i64 ((X.length : Int) - 1), .int .i64 (X.length : Int), .int .i64 ((X.length : Int) + 1)] ∧ Arr (((((w.alloc (.cells #[.slice A X.length c, .slice A' O.length c'] 24)).alloc (.cells #[.int .i64 1, .bool rows, .int .i64 a, .int .i64 v] 85)).alloc (.cells #[.slice none 0 0, .slice none 0 0] 24)).alloc (.cells #[.int .i64 1, .int .i64 ((X.length : Int) - 1), .int .i64 (X.length : Int), .int .i64 ((X.length : Int) + 1)] 3)).alloc (.cells #[.int .i64 1, .int .i64 1, .int .i64 1, .int .i64 (2 * (X.length : Int))] 3)) (w.heap.size + 4) 3 [.int .i64 1, .int .i64 1, .int .i64 1, .int .i64 (2 * (X.length : Int))] ∧ Below w.heap.size w (((((w.alloc (.cells #[.slice A X.length c, .slice A' O.length c'] 24)).alloc (.cells #[.int .i64 1, .bool rows, .int .i64 a, .int .i64 v] 85)).alloc (.cells #[.slice none 0 0, .slice none 0 0] 24)).alloc (.cells #[.int .i64 1, .int .i64 ((X.length : Int) - 1), .int .i64 (X.length : Int), .int .i64 ((X.length : Int) + 1)] 3)).alloc (.cells #[.int .i64 1, .int .i64 1, .int .i64 1, .int .i64 (2 * (X.length : Int))] 3)) :=
    ⟨((((Arr.new _ _ [_, _]).alloc _).alloc _).alloc _).alloc _, (((Arr.newAt _ _ [_, _, _, _] _ (by simp)).alloc _).alloc _).alloc _, ((Arr.newAt _ _ [_, _] _ (by simp)).alloc _).alloc _, (Arr.newAt _ _ [_, _, _, _] _ (by simp)).alloc _, Arr.newAt _ _ [_, _, _, _] _ (by simp), by repeat (first | exact Below.refl _ _ | refine Below.alloc ?_ (by simp <;> omega) _)⟩
  generalize (((((w.alloc (.cells #[.slice A X.length c, .slice A' O.length c'] 24)).alloc (.cells #[.int .i64 1, .bool rows, .int .i64 a, .int .i64 v] 85)).alloc (.cells #[.slice none 0 0, .slice none 0 0] 24)).alloc (.cells #[.int .i64 1, .int .i64 ((X.length : Int) - 1), .int .i64 (X.length : Int), .int .i64 ((X.length : Int) + 1)] 3)).alloc (.cells #[.int .i64 1, .int .i64 1, .int .i64 1, .int .i64 (2 * (X.length : Int))] 3)) = w4 at hW ⊢
  obtain ⟨p0, p1, p2, p3, p4, hbw⟩ := hW
  have y0 := p0.cell 0
  have y1 := p0.cell 1
  have m0 := p1.cell 0
  have m2 := p1.cell 2
  have m3 := p1.cell 3
  have P0 := p3.cell 0
  have V0 := p4.cell 0
  have t1 : decide (a < 0) = false := by simp; omega
  have t2 : decide (1 ≤ a) = false := by simp; omega
  have t3 : decide (v < 0) = false := by simp; omega
  have t4 : decide (1 ≤ v) = false := by simp; omega
  go_quiet (fail)
  go_wp2_with fail
  clear m0 m2 m3 P0 V0 t1 t2 t3 t4 y0 y1
  have hW : Arr (w4.drewN nq) w.heap.size 24 [.slice A X.length c, .slice A' O.length c'] ∧ Arr (w4.drewN nq) (w.heap.size + 2) 24 [.slice none 0 0, .slice none 0 0] ∧ Below w.heap.size w (w4.drewN nq) ∧ w.heap.size + 5 ≤ (w4.drewN nq).heap.size := ⟨p0.drewN _, p2.drewN _, bdrewN hbw _, p4.lt⟩
  generalize w4.drewN nq = w5 at hW ⊢
  clear p0 p1 p2 p3 p4 hbw
  obtain ⟨p0, p2, hbw, hs5⟩ := hW
  have HLL := Lib.hid hv.len
  have lO : 2 ≤ O.length := by have := HLL.out; omega
  have lO' : O.length ≤ 40 := by have := HLL.out; omega
  obtain ⟨b1, o1, rfl, hb1, hc1⟩ := hX0.at_ (show 0 < X.length by omega)
  obtain ⟨b2, o2, rfl, hb2, hc2⟩ := hO0.at_ (show 0 < O.length by omega)
  rw [Nat.add_zero] at hc1 hc2
  have ERX := Lib.hid (rotL_split X (by omega))
  have ERO := Lib.hid (rotL_split O (by omega))
  generalize X[0] = x0 at *
  generalize O[0] = o0 at *
  have hcX := Lib.hid hc1
  have hcO := Lib.hid hc2
  have H4 := Lib.hid (fun (b' o' : Nat) (h : b' < w.heap.size) => hbw.cell (p := ⟨b', o', none⟩) h)
  have y0 := p0.cell 0
  have y1 := p0.cell 1
  obtain ⟨i0, hi0, hz0, hz1, hz2⟩ := info_parts info_int8
  have hX := hX0
  have hO := hO0
  clear hc1 hc2 hv hX0 hO0 ha0 ha1 hv0 hv1 p0
  go_cut [5] (fun s5 wx => s5 = .int .i64 0 ∧ ∃ A0 n0 c0 A1 n1 c1, Arr wx (w.heap.size + 2) 24 [.slice A0 n0 c0, .slice A1 n1 c1] ∧ OwnI 3 w.heap.size wx (.slice A0 n0 c0) (rotL X) ∧ OwnI 3 w.heap.size wx (.slice A1 n1 c1) (rotL O) ∧ Below w.heap.size w wx)
  case first =>
    refine wp_region_factsU (by kernel_rfl) (by kernel_rfl) (by kernel_rfl) (by kernel_rfl) (by kernel_rfl) (RcI w.heap.size w5 (.slice (some ⟨b1, o1, none⟩) X.length c) (.slice (some ⟨b2, o2, none⟩) O.length c') (.slice (some ⟨b1, o1 + 1, none⟩) (X.length - 1) (c - 1)) (.slice (some ⟨b2, o2 + 1, none⟩) (O.length - 1) (c' - 1)) b1 o1 b2 o2 x0 o0 X O) ?_ ⟨?_, ?_, ?_, ?_, ?_, ?_, ?_, ?_, ?_, ?_, ?_, ?_, ?_, ?_, ?_, ?_, ?_, ?_, ?_, ?_, ?_, ?_, ?_, ?_, ?_, trivial⟩ ?_
    · exact fun x => ⟨(Below.refl _ _).drew, Nat.le_refl _, by simp, by simp, by simp, by simp, by simp, by simp, by simp, by simp, by simp, by simp, by simp, by simp, by simp, by simp, by simp, by simp, by simp, by simp, by simp, by simp, by simp, by simp, by simp, ⟨fun _ => p2, by simp⟩, by simp, by simp [ltF], by simp [crF]⟩
    · intro D x w1 b hI hD hdep hcl hb
      refine wp_of_run (.slice (some ⟨w1.heap.size, 0, none⟩) 0 0) (w' := w1.alloc (.cells #[] 3)) ?_ ?_
      · clear hb hI hdep hcl hX hO hcX hcO H4 ERX ERO
        go_simp
      · have hg := Gro.alloc w1 (.cells #[] 3)
        exact ⟨hI.bel.trans (hg.bel.mono (by have := hI.siz; omega)), Nat.le_trans hI.siz hg.size, (fun _ => ⟨_, upd_same _ _ _⟩), (by have h9 := hI.f1; simpa [upd] using h9), (by have h9 := hI.f2; simpa [upd] using h9), (by have h9 := hI.f3; simpa [upd] using h9), (by have h9 := hI.f4; simp only [upd_ne _ _ (show (4 : Nat) ≠ 0 by decide), upd_ne _ _ (show (10 : Nat) ≠ 0 by decide)]; exact fun h h' => (h9 h h').gro hg (fun k _ => by simp)), (by have h9 := hI.f5; simpa [upd] using h9), (by have h9 := hI.f6; simpa [upd] using h9), (by have h9 := hI.f7; simpa [upd] using h9), (by have h9 := hI.f8; simpa [upd] using h9), (by have h9 := hI.f9; simp only [upd_ne _ _ (show (9 : Nat) ≠ 0 by decide), upd_ne _ _ (show (10 : Nat) ≠ 0 by decide)]; intro h h'; obtain ⟨b, e1, e2⟩ := h9 h h'; exact ⟨b, e1, e2.gro hg (by simp)⟩), (by have h9 := hI.f10; simp only [upd_ne _ _ (show (10 : Nat) ≠ 0 by decide)]; exact fun h => (h9 h).gro hg (fun k _ => by simp)), (by have h9 := hI.f11; simpa [upd] using h9), (by have h9 := hI.f12; simpa [upd] using h9), (by have h9 := hI.f13; simpa [upd] using h9), (by have h9 := hI.f14; simpa [upd] using h9), (by have h9 := hI.f15; simp only [upd_ne _ _ (show (15 : Nat) ≠ 0 by decide), upd_ne _ _ (show (21 : Nat) ≠ 0 by decide)]; exact fun h h' => (h9 h h').gro hg (fun k _ => by simp)), (by have h9 := hI.f16; simpa [upd] using h9), (by have h9 := hI.f17; simpa [upd] using h9), (by have h9 := hI.f18; simpa [upd] using h9), (by have h9 := hI.f19; simpa [upd] using h9), (by have h9 := hI.f20; simp only [upd_ne _ _ (show (20 : Nat) ≠ 0 by decide), upd_ne _ _ (show (21 : Nat) ≠ 0 by decide)]; intro h h'; obtain ⟨b, e1, e2⟩ := h9 h h'; exact ⟨b, e1, e2.gro hg (by simp)⟩), (by have h9 := hI.f21; simp only [upd_ne _ _ (show (21 : Nat) ≠ 0 by decide)]; exact fun h => (h9 h).gro hg (fun k _ => by simp)), (by have h9 := hI.f22; simpa [upd] using h9), (by have h9 := hI.res; simp only [upd_ne _ _ (show (10 : Nat) ≠ 0 by decide), upd_ne _ _ (show (21 : Nat) ≠ 0 by decide), upd_ne _ _ (show (23 : Nat) ≠ 0 by decide)]; exact ⟨fun h => (h9.1 h).gro hg (by simp), fun h => (h9.2 h).gro hg (by simp)⟩), (by have h9 := hI.f24; simpa [upd] using h9), hI.lt.skip hg.size (by decide), hI.cr.skip (by decide) (by decide)⟩
    · intro D x w1 b hI hD hdep hcl hb
      have e2 : b.tmps[2]?.getD undef = .pointer (some ⟨w.heap.size, 0, none⟩) := hb 2
      refine wp_of_run (.pointer (some ⟨w.heap.size, 0, none⟩)) (w' := w1) ?_ ?_
      · clear hb hI hdep hcl hX hO hcX hcO H4 ERX ERO
        go_simp
      · exact ⟨hI.bel, hI.siz, (by have h9 := hI.f0; simpa [upd] using h9), (fun _ => upd_same _ _ _), (by have h9 := hI.f2; simpa [upd] using h9), (by have h9 := hI.f3; simpa [upd] using h9), (by have h9 := hI.f4; simpa [upd] using h9), (by have h9 := hI.f5; simpa [upd] using h9), (by have h9 := hI.f6; simpa [upd] using h9), (by have h9 := hI.f7; simpa [upd] using h9), (by have h9 := hI.f8; simpa [upd] using h9), (by have h9 := hI.f9; simpa [upd] using h9), (by have h9 := hI.f10; simpa [upd] using h9), (by have h9 := hI.f11; simpa [upd] using h9), (by have h9 := hI.f12; simpa [upd] using h9), (by have h9 := hI.f13; simpa [upd] using h9), (by have h9 := hI.f14; simpa [upd] using h9), (by have h9 := hI.f15; simpa [upd] using h9), (by have h9 := hI.f16; simpa [upd] using h9), (by have h9 := hI.f17; simpa [upd] using h9), (by have h9 := hI.f18; simpa [upd] using h9), (by have h9 := hI.f19; simpa [upd] using h9), (by have h9 := hI.f20; simpa [upd] using h9), (by have h9 := hI.f21; simpa [upd] using h9), (by have h9 := hI.f22; simpa [upd] using h9), (by have h9 := hI.res; simpa [upd] using h9), (by have h9 := hI.f24; simpa [upd] using h9), hI.lt.skip (Nat.le_refl _) (by decide), hI.cr.skip (by decide) (by decide)⟩
    · intro D x w1 b hI hD hdep hcl hb
      have e2 : b.tmps[66]?.getD undef = .pointer (some ⟨w.heap.size, 0, none⟩) := (hb 66).trans (hI.f1 (hdep 1 (by decide)))
      have ec := (hI.bel.cell (p := ⟨w.heap.size, 0, none⟩) (by show w.heap.size < w.heap.size + 2; omega)).trans y0
      refine wp_of_run (.slice (some ⟨b1, o1, none⟩) X.length c) (w' := w1) ?_ ?_
      · clear hb hI hdep hcl hX hO hcX hcO H4 ERX ERO
        go_simp
      · exact ⟨hI.bel, hI.siz, (by have h9 := hI.f0; simpa [upd] using h9), (by have h9 := hI.f1; simpa [upd] using h9), (fun _ => upd_same _ _ _), (by have h9 := hI.f3; simpa [upd] using h9), (by have h9 := hI.f4; simpa [upd] using h9), (by have h9 := hI.f5; simpa [upd] using h9), (by have h9 := hI.f6; simpa [upd] using h9), (by have h9 := hI.f7; simpa [upd] using h9), (by have h9 := hI.f8; simpa [upd] using h9), (by have h9 := hI.f9; simpa [upd] using h9), (by have h9 := hI.f10; simpa [upd] using h9), (by have h9 := hI.f11; simpa [upd] using h9), (by have h9 := hI.f12; simpa [upd] using h9), (by have h9 := hI.f13; simpa [upd] using h9), (by have h9 := hI.f14; simpa [upd] using h9), (by have h9 := hI.f15; simpa [upd] using h9), (by have h9 := hI.f16; simpa [upd] using h9), (by have h9 := hI.f17; simpa [upd] using h9), (by have h9 := hI.f18; simpa [upd] using h9), (by have h9 := hI.f19; simpa [upd] using h9), (by have h9 := hI.f20; simpa [upd] using h9), (by have h9 := hI.f21; simpa [upd] using h9), (by have h9 := hI.f22; simpa [upd] using h9), (by have h9 := hI.res; simpa [upd] using h9), (by have h9 := hI.f24; simpa [upd] using h9), hI.lt.skip (Nat.le_refl _) (by decide), hI.cr.skip (by decide) (by decide)⟩
    · intro D x w1 b hI hD hdep hcl hb
      have e2 : b.tmps[67]?.getD undef = .slice (some ⟨b1, o1, none⟩) X.length c := (hb 67).trans (hI.f2 (hdep 2 (by decide)))
      have q1 : (c == 1) = false := by simp; omega
      have q2 : (1 : Int) ≤ (X.length : Int) := by omega
      have q3 : (X.length : Int) ≤ (c : Int) := by omega
      have q4 : (c : Nat) ≠ 1 := by omega
      refine wp_of_run (.slice (some ⟨b1, o1 + 1, none⟩) (X.length - 1) (c - 1)) (w' := w1) ?_ ?_
      · clear hb hI hdep hcl hX hO hcX hcO H4 ERX ERO
        go_simp
      · exact ⟨hI.bel, hI.siz, (by have h9 := hI.f0; simpa [upd] using h9), (by have h9 := hI.f1; simpa [upd] using h9), (by have h9 := hI.f2; simpa [upd] using h9), (fun _ => upd_same _ _ _), (by have h9 := hI.f4; simpa [upd] using h9), (by have h9 := hI.f5; simpa [upd] using h9), (by have h9 := hI.f6; simpa [upd] using h9), (by have h9 := hI.f7; simpa [upd] using h9), (by have h9 := hI.f8; simpa [upd] using h9), (by have h9 := hI.f9; simpa [upd] using h9), (by have h9 := hI.f10; simpa [upd] using h9), (by have h9 := hI.f11; simpa [upd] using h9), (by have h9 := hI.f12; simpa [upd] using h9), (by have h9 := hI.f13; simpa [upd] using h9), (by have h9 := hI.f14; simpa [upd] using h9), (by have h9 := hI.f15; simpa [upd] using h9), (by have h9 := hI.f16; simpa [upd] using h9), (by have h9 := hI.f17; simpa [upd] using h9), (by have h9 := hI.f18; simpa [upd] using h9), (by have h9 := hI.f19; simpa [upd] using h9), (by have h9 := hI.f20; simpa [upd] using h9), (by have h9 := hI.f21; simpa [upd] using h9), (by have h9 := hI.f22; simpa [upd] using h9), (by have h9 := hI.res; simpa [upd] using h9), (by have h9 := hI.f24; simpa [upd] using h9), hI.lt.skip (Nat.le_refl _) (by decide), hI.cr.skip (by decide) (by decide)⟩
    · intro D x w1 b hI hD hdep hcl hb
      obtain ⟨g, hg⟩ := hI.f0 (hdep 0 (by decide))
      have e1 : b.tmps[65]?.getD undef = .slice (some ⟨g, 0, none⟩) 0 0 := (hb 65).trans hg
      have e2 := (hb 68).trans (hI.f3 (hdep 3 (by decide)))
      have hT : Ints w1 (.slice (some ⟨b1, o1 + 1, none⟩) (X.length - 1) (c - 1)) (X.drop 1) := by
        have h1 := hX.keep (w' := w1) (fun b' o' hlt => (hI.bel.cell (p := ⟨b', o', none⟩) (by show b' < w.heap.size + 2; omega)).trans (H4.out b' o' hlt))
        have := h1.sub (lo := 1) (hi := X.length) (by omega) (Nat.le_refl _) (c - 1) (by omega) (some ⟨b1, o1 + 1, none⟩) (fun _ => by simp [Addr.add])
        rwa [List.take_length] at this
      refine wp_growI rfl (.tmp 65) (.tmp 68) 22 rfl Tryz.underlying22 hi0 hz0 hz1 hz2 g (by simpa [Act.eval] using e1) (by simpa [Act.eval] using e2) hT (by simp; omega) (by simp; omega) ?_
      intro v' w' hown hb'
      refine StepPost.mk' ?_
      have hg' := Gro.of_below hb'
      exact ⟨hI.bel.trans (hg'.bel.mono (by have := hI.siz; omega)), Nat.le_trans hI.siz hg'.size, (by have h9 := hI.f0; simpa [upd] using h9), (by have h9 := hI.f1; simpa [upd] using h9), (by have h9 := hI.f2; simpa [upd] using h9), (by have h9 := hI.f3; simpa [upd] using h9), (fun _ _ => by rw [upd_same]; exact hown.mono hI.siz), (by have h9 := hI.f5; simpa [upd] using h9), (by have h9 := hI.f6; simpa [upd] using h9), (by have h9 := hI.f7; simpa [upd] using h9), (by have h9 := hI.f8; simpa [upd] using h9), (by have h9 := hI.f9; simp only [upd_ne _ _ (show (9 : Nat) ≠ 4 by decide), upd_ne _ _ (show (10 : Nat) ≠ 4 by decide)]; intro h h'; obtain ⟨b, e1, e2⟩ := h9 h h'; exact ⟨b, e1, e2.gro hg' (by simp)⟩), (by have h9 := hI.f10; simp only [upd_ne _ _ (show (10 : Nat) ≠ 4 by decide)]; exact fun h => (h9 h).gro hg' (fun k _ => by simp)), (by have h9 := hI.f11; simpa [upd] using h9), (by have h9 := hI.f12; simpa [upd] using h9), (by have h9 := hI.f13; simpa [upd] using h9), (by have h9 := hI.f14; simpa [upd] using h9), (by have h9 := hI.f15; simp only [upd_ne _ _ (show (15 : Nat) ≠ 4 by decide), upd_ne _ _ (show (21 : Nat) ≠ 4 by decide)]; exact fun h h' => (h9 h h').gro hg' (fun k _ => by simp)), (by have h9 := hI.f16; simpa [upd] using h9), (by have h9 := hI.f17; simpa [upd] using h9), (by have h9 := hI.f18; simpa [upd] using h9), (by have h9 := hI.f19; simpa [upd] using h9), (by have h9 := hI.f20; simp only [upd_ne _ _ (show (20 : Nat) ≠ 4 by decide), upd_ne _ _ (show (21 : Nat) ≠ 4 by decide)]; intro h h'; obtain ⟨b, e1, e2⟩ := h9 h h'; exact ⟨b, e1, e2.gro hg' (by simp)⟩), (by have h9 := hI.f21; simp only [upd_ne _ _ (show (21 : Nat) ≠ 4 by decide)]; exact fun h => (h9 h).gro hg' (fun k _ => by simp)), (by have h9 := hI.f22; simpa [upd] using h9), (by have h9 := hI.res; simp only [upd_ne _ _ (show (10 : Nat) ≠ 4 by decide), upd_ne _ _ (show (21 : Nat) ≠ 4 by decide), upd_ne _ _ (show (23 : Nat) ≠ 4 by decide)]; exact ⟨fun h => (h9.1 h).gro hg' (by simp), fun h => (h9.2 h).gro hg' (by simp)⟩), (by have h9 := hI.f24; simpa [upd] using h9), hI.lt.upd hg'.size (fun k hk => (hown.lt k hk).2), hI.cr.left (w := w1) (fun p hp => hI.lt p (by revert hp; simp; omega)) (by decide) (fun k hk => .inl (hown.lt k hk).1)⟩
    · intro D x w1 b hI hD hdep hcl hb
      have e2 : b.tmps[2]?.getD undef = .pointer (some ⟨w.heap.size, 0, none⟩) := hb 2
      refine wp_of_run (.pointer (some ⟨w.heap.size, 0, none⟩)) (w' := w1) ?_ ?_
      · clear hb hI hdep hcl hX hO hcX hcO H4 ERX ERO
        go_simp
      · exact ⟨hI.bel, hI.siz, (by have h9 := hI.f0; simpa [upd] using h9), (by have h9 := hI.f1; simpa [upd] using h9), (by have h9 := hI.f2; simpa [upd] using h9), (by have h9 := hI.f3; simpa [upd] using h9), (by have h9 := hI.f4; simpa [upd] using h9), (fun _ => upd_same _ _ _), (by have h9 := hI.f6; simpa [upd] using h9), (by have h9 := hI.f7; simpa [upd] using h9), (by have h9 := hI.f8; simpa [upd] using h9), (by have h9 := hI.f9; simpa [upd] using h9), (by have h9 := hI.f10; simpa [upd] using h9), (by have h9 := hI.f11; simpa [upd] using h9), (by have h9 := hI.f12; simpa [upd] using h9), (by have h9 := hI.f13; simpa [upd] using h9), (by have h9 := hI.f14; simpa [upd] using h9), (by have h9 := hI.f15; simpa [upd] using h9), (by have h9 := hI.f16; simpa [upd] using h9), (by have h9 := hI.f17; simpa [upd] using h9), (by have h9 := hI.f18; simpa [upd] using h9), (by have h9 := hI.f19; simpa [upd] using h9), (by have h9 := hI.f20; simpa [upd] using h9), (by have h9 := hI.f21; simpa [upd] using h9), (by have h9 := hI.f22; simpa [upd] using h9), (by have h9 := hI.res; simpa [upd] using h9), (by have h9 := hI.f24; simpa [upd] using h9), hI.lt.skip (Nat.le_refl _) (by decide), hI.cr.skip (by decide) (by decide)⟩
    · intro D x w1 b hI hD hdep hcl hb
      have e2 : b.tmps[70]?.getD undef = .pointer (some ⟨w.heap.size, 0, none⟩) := (hb 70).trans (hI.f5 (hdep 5 (by decide)))
      have ec := (hI.bel.cell (p := ⟨w.heap.size, 0, none⟩) (by show w.heap.size < w.heap.size + 2; omega)).trans y0
      refine wp_of_run (.slice (some ⟨b1, o1, none⟩) X.length c) (w' := w1) ?_ ?_
      · clear hb hI hdep hcl hX hO hcX hcO H4 ERX ERO
        go_simp
      · exact ⟨hI.bel, hI.siz, (by have h9 := hI.f0; simpa [upd] using h9), (by have h9 := hI.f1; simpa [upd] using h9), (by have h9 := hI.f2; simpa [upd] using h9), (by have h9 := hI.f3; simpa [upd] using h9), (by have h9 := hI.f4; simpa [upd] using h9), (by have h9 := hI.f5; simpa [upd] using h9), (fun _ => upd_same _ _ _), (by have h9 := hI.f7; simpa [upd] using h9), (by have h9 := hI.f8; simpa [upd] using h9), (by have h9 := hI.f9; simpa [upd] using h9), (by have h9 := hI.f10; simpa [upd] using h9), (by have h9 := hI.f11; simpa [upd] using h9), (by have h9 := hI.f12; simpa [upd] using h9), (by have h9 := hI.f13; simpa [upd] using h9), (by have h9 := hI.f14; simpa [upd] using h9), (by have h9 := hI.f15; simpa [upd] using h9), (by have h9 := hI.f16; simpa [upd] using h9), (by have h9 := hI.f17; simpa [upd] using h9), (by have h9 := hI.f18; simpa [upd] using h9), (by have h9 := hI.f19; simpa [upd] using h9), (by have h9 := hI.f20; simpa [upd] using h9), (by have h9 := hI.f21; simpa [upd] using h9), (by have h9 := hI.f22; simpa [upd] using h9), (by have h9 := hI.res; simpa [upd] using h9), (by have h9 := hI.f24; simpa [upd] using h9), hI.lt.skip (Nat.le_refl _) (by decide), hI.cr.skip (by decide) (by decide)⟩
    · intro D x w1 b hI hD hdep hcl hb
      have e2 : b.tmps[71]?.getD undef = .slice (some ⟨b1, o1, none⟩) X.length c := (hb 71).trans (hI.f6 (hdep 6 (by decide)))
      have q2 : (0 : Int) < (X.length : Int) := by omega
      have q3 : 0 < X.length := by omega
      refine wp_of_run (.pointer (some ⟨b1, o1, none⟩)) (w' := w1) ?_ ?_
      · clear hb hI hdep hcl hX hO hcX hcO H4 ERX ERO
        go_simp
      · exact ⟨hI.bel, hI.siz, (by have h9 := hI.f0; simpa [upd] using h9), (by have h9 := hI.f1; simpa [upd] using h9), (by have h9 := hI.f2; simpa [upd] using h9), (by have h9 := hI.f3; simpa [upd] using h9), (by have h9 := hI.f4; simpa [upd] using h9), (by have h9 := hI.f5; simpa [upd] using h9), (by have h9 := hI.f6; simpa [upd] using h9), (fun _ => upd_same _ _ _), (by have h9 := hI.f8; simpa [upd] using h9), (by have h9 := hI.f9; simpa [upd] using h9), (by have h9 := hI.f10; simpa [upd] using h9), (by have h9 := hI.f11; simpa [upd] using h9), (by have h9 := hI.f12; simpa [upd] using h9), (by have h9 := hI.f13; simpa [upd] using h9), (by have h9 := hI.f14; simpa [upd] using h9), (by have h9 := hI.f15; simpa [upd] using h9), (by have h9 := hI.f16; simpa [upd] using h9), (by have h9 := hI.f17; simpa [upd] using h9), (by have h9 := hI.f18; simpa [upd] using h9), (by have h9 := hI.f19; simpa [upd] using h9), (by have h9 := hI.f20; simpa [upd] using h9), (by have h9 := hI.f21; simpa [upd] using h9), (by have h9 := hI.f22; simpa [upd] using h9), (by have h9 := hI.res; simpa [upd] using h9), (by have h9 := hI.f24; simpa [upd] using h9), hI.lt.skip (Nat.le_refl _) (by decide), hI.cr.skip (by decide) (by decide)⟩
    · intro D x w1 b hI hD hdep hcl hb
      have e2 : b.tmps[72]?.getD undef = .pointer (some ⟨b1, o1, none⟩) := (hb 72).trans (hI.f7 (hdep 7 (by decide)))
      have ec := ((hI.bel.cell (p := ⟨b1, o1, none⟩) (by show b1 < w.heap.size + 2; omega)).trans (H4.out b1 o1 (by omega))).trans hcX.out
      refine wp_of_run (.int .i64 x0) (w' := w1) ?_ ?_
      · clear hb hI hdep hcl hX hO hcX hcO H4 ERX ERO
        go_simp
      · exact ⟨hI.bel, hI.siz, (by have h9 := hI.f0; simpa [upd] using h9), (by have h9 := hI.f1; simpa [upd] using h9), (by have h9 := hI.f2; simpa [upd] using h9), (by have h9 := hI.f3; simpa [upd] using h9), (by have h9 := hI.f4; simpa [upd] using h9), (by have h9 := hI.f5; simpa [upd] using h9), (by have h9 := hI.f6; simpa [upd] using h9), (by have h9 := hI.f7; simpa [upd] using h9), (fun _ => upd_same _ _ _), (by have h9 := hI.f9; simpa [upd] using h9), (by have h9 := hI.f10; simpa [upd] using h9), (by have h9 := hI.f11; simpa [upd] using h9), (by have h9 := hI.f12; simpa [upd] using h9), (by have h9 := hI.f13; simpa [upd] using h9), (by have h9 := hI.f14; simpa [upd] using h9), (by have h9 := hI.f15; simpa [upd] using h9), (by have h9 := hI.f16; simpa [upd] using h9), (by have h9 := hI.f17; simpa [upd] using h9), (by have h9 := hI.f18; simpa [upd] using h9), (by have h9 := hI.f19; simpa [upd] using h9), (by have h9 := hI.f20; simpa [upd] using h9), (by have h9 := hI.f21; simpa [upd] using h9), (by have h9 := hI.f22; simpa [upd] using h9), (by have h9 := hI.res; simpa [upd] using h9), (by have h9 := hI.f24; simpa [upd] using h9), hI.lt.skip (Nat.le_refl _) (by decide), hI.cr.skip (by decide) (by decide)⟩
    · intro D x w1 b hI hD hdep hcl hb
      have e2 : b.tmps[73]?.getD undef = .int .i64 x0 := (hb 73).trans (hI.f8 (hdep 8 (by decide)))
      refine wp_of_run (.slice (some ⟨w1.heap.size, 0, none⟩) 1 1) (w' := w1.alloc (.cells #[.int .i64 x0] 3)) ?_ ?_
      · clear hb hI hdep hcl hX hO hcX hcO H4 ERX ERO
        go_simp
      · have hg := Gro.alloc w1 (.cells #[.int .i64 x0] 3)
        exact ⟨hI.bel.trans (hg.bel.mono (by have := hI.siz; omega)), Nat.le_trans hI.siz hg.size, (by have h9 := hI.f0; simpa [upd] using h9), (by have h9 := hI.f1; simpa [upd] using h9), (by have h9 := hI.f2; simpa [upd] using h9), (by have h9 := hI.f3; simpa [upd] using h9), (by have h9 := hI.f4; simp only [upd_ne _ _ (show (4 : Nat) ≠ 9 by decide), upd_ne _ _ (show (10 : Nat) ≠ 9 by decide)]; exact fun h h' => (h9 h h').gro hg (fun k _ => by simp)), (by have h9 := hI.f5; simpa [upd] using h9), (by have h9 := hI.f6; simpa [upd] using h9), (by have h9 := hI.f7; simpa [upd] using h9), (by have h9 := hI.f8; simpa [upd] using h9), (fun _ _ => ⟨_, upd_same _ _ _, Arr.new w1 3 [.int .i64 x0]⟩), (by have h9 := hI.f10; simp only [upd_ne _ _ (show (10 : Nat) ≠ 9 by decide)]; exact fun h => (h9 h).gro hg (fun k _ => by simp)), (by have h9 := hI.f11; simpa [upd] using h9), (by have h9 := hI.f12; simpa [upd] using h9), (by have h9 := hI.f13; simpa [upd] using h9), (by have h9 := hI.f14; simpa [upd] using h9), (by have h9 := hI.f15; simp only [upd_ne _ _ (show (15 : Nat) ≠ 9 by decide), upd_ne _ _ (show (21 : Nat) ≠ 9 by decide)]; exact fun h h' => (h9 h h').gro hg (fun k _ => by simp)), (by have h9 := hI.f16; simpa [upd] using h9), (by have h9 := hI.f17; simpa [upd] using h9), (by have h9 := hI.f18; simpa [upd] using h9), (by have h9 := hI.f19; simpa [upd] using h9), (by have h9 := hI.f20; simp only [upd_ne _ _ (show (20 : Nat) ≠ 9 by decide), upd_ne _ _ (show (21 : Nat) ≠ 9 by decide)]; intro h h'; obtain ⟨b, e1, e2⟩ := h9 h h'; exact ⟨b, e1, e2.gro hg (by simp)⟩), (by have h9 := hI.f21; simp only [upd_ne _ _ (show (21 : Nat) ≠ 9 by decide)]; exact fun h => (h9 h).gro hg (fun k _ => by simp)), (by have h9 := hI.f22; simpa [upd] using h9), (by have h9 := hI.res; simp only [upd_ne _ _ (show (10 : Nat) ≠ 9 by decide), upd_ne _ _ (show (21 : Nat) ≠ 9 by decide), upd_ne _ _ (show (23 : Nat) ≠ 9 by decide)]; exact ⟨fun h => (h9.1 h).gro hg (by simp), fun h => (h9.2 h).gro hg (by simp)⟩), (by have h9 := hI.f24; simpa [upd] using h9), hI.lt.upd hg.size (fun k hk => by simp [Value.ownBlock] at hk; simp; omega), hI.cr.left (w := w1) (fun p hp => hI.lt p (by revert hp; simp; omega)) (by decide) (fun k hk => .inl (by simp [Value.ownBlock] at hk; omega))⟩
    · intro D x w1 b hI hD hdep hcl hb
      have dz : D 4 = true := hdep 4 (by decide)
      have h4' := hI.f4 dz hD
      obtain ⟨b9, e9, a9⟩ := hI.f9 (hdep 9 (by decide)) hD
      have e1 : b.tmps[69]?.getD undef = x 4 := hb 69
      have e2 : b.tmps[74]?.getD undef = .slice (some ⟨b9, 0, none⟩) 1 1 := (hb 74).trans e9
      refine wp_appG (.tmp 69) (.tmp 74) 22 rfl Tryz.underlying22 hi0 hz0 hz1 hz2 (by simpa [Act.eval] using e1) h4' (ys := [x0]) (by simpa [Act.eval] using e2) (Ints.of_arr (xs := [x0]) a9) (by simp; omega) hI.siz ?_
      intro v' w' hown hg' hbk
      refine StepPost.mk' ?_
      have hzN : (x 4).ownBlock ≠ some (w.heap.size + 2) := fun h => by have := (h4'.lt _ h).1; omega
      have er : X.drop 1 ++ [x0] = rotL X := ERX.out
      exact ⟨hI.bel.trans (hg'.bel.mono (by have := hI.siz; omega)), Nat.le_trans hI.siz hg'.size, (by have h9 := hI.f0; simpa [upd] using h9), (by have h9 := hI.f1; simpa [upd] using h9), (by have h9 := hI.f2; simpa [upd] using h9), (by have h9 := hI.f3; simpa [upd] using h9), (fun _ h => by simp [upd] at h), (by have h9 := hI.f5; simpa [upd] using h9), (by have h9 := hI.f6; simpa [upd] using h9), (by have h9 := hI.f7; simpa [upd] using h9), (by have h9 := hI.f8; simpa [upd] using h9), (fun _ h => by simp [upd] at h), (fun _ => by rw [upd_same, ← er]; exact hown), (by have h9 := hI.f11; simpa [upd] using h9), (by have h9 := hI.f12; simpa [upd] using h9), (by have h9 := hI.f13; simpa [upd] using h9), (by have h9 := hI.f14; simpa [upd] using h9), (by have h9 := hI.f15; simp only [upd_ne _ _ (show (15 : Nat) ≠ 10 by decide), upd_ne _ _ (show (21 : Nat) ≠ 10 by decide)]; exact fun h h' => (h9 h h').gro hg' (fun k hk hk' => hI.cr 4 (by decide) 15 (by decide) dz h k hk' hk)), (by have h9 := hI.f16; simpa [upd] using h9), (by have h9 := hI.f17; simpa [upd] using h9), (by have h9 := hI.f18; simpa [upd] using h9), (by have h9 := hI.f19; simpa [upd] using h9), (by have h9 := hI.f20; simp only [upd_ne _ _ (show (20 : Nat) ≠ 10 by decide), upd_ne _ _ (show (21 : Nat) ≠ 10 by decide)]; intro h h'; obtain ⟨b, e1, e2⟩ := h9 h h'; exact ⟨b, e1, e2.gro hg' ((fun k hk hk' => hI.cr 4 (by decide) 20 (by decide) dz h k hk' hk) b (by rw [e1]; rfl))⟩), (by have h9 := hI.f21; simp only [upd_ne _ _ (show (21 : Nat) ≠ 10 by decide)]; exact fun h => (h9 h).gro hg' (fun k hk hk' => hI.cr 4 (by decide) 21 (by decide) dz h k hk' hk)), (fun h => absurd (hcl 22 (by simpa [upd] using h) 10 (by decide)) (by simp [hD])), (by have h9 := hI.res; simp only [upd_ne _ _ (show (21 : Nat) ≠ 10 by decide), upd_ne _ _ (show (23 : Nat) ≠ 10 by decide)]; exact ⟨fun h => (h9.1 h).gro hg' hzN, fun h => absurd (hcl 22 (hcl 23 h 22 (by decide)) 10 (by decide)) (by simp [hD])⟩), (by have h9 := hI.f24; simpa [upd] using h9), hI.lt.upd hg'.size (fun k hk => (hown.lt k hk).2), hI.cr.left (w := w1) (fun p hp => hI.lt p (by revert hp; simp; omega)) (by decide) (fun k hk => by rcases hbk with h | h; exact .inr ⟨4, by decide, dz, h ▸ hk⟩; exact .inl (by rw [h] at hk; injection hk with hk; omega))⟩
    · intro D x w1 b hI hD hdep hcl hb
      refine wp_of_run (.slice (some ⟨w1.heap.size, 0, none⟩) 0 0) (w' := w1.alloc (.cells #[] 3)) ?_ ?_
      · clear hb hI hdep hcl hX hO hcX hcO H4 ERX ERO
        go_simp
      · have hg := Gro.alloc w1 (.cells #[] 3)
        exact ⟨hI.bel.trans (hg.bel.mono (by have := hI.siz; omega)), Nat.le_trans hI.siz hg.size, (by have h9 := hI.f0; simpa [upd] using h9), (by have h9 := hI.f1; simpa [upd] using h9), (by have h9 := hI.f2; simpa [upd] using h9), (by have h9 := hI.f3; simpa [upd] using h9), (by have h9 := hI.f4; simp only [upd_ne _ _ (show (4 : Nat) ≠ 11 by decide), upd_ne _ _ (show (10 : Nat) ≠ 11 by decide)]; exact fun h h' => (h9 h h').gro hg (fun k _ => by simp)), (by have h9 := hI.f5; simpa [upd] using h9), (by have h9 := hI.f6; simpa [upd] using h9), (by have h9 := hI.f7; simpa [upd] using h9), (by have h9 := hI.f8; simpa [upd] using h9), (by have h9 := hI.f9; simp only [upd_ne _ _ (show (9 : Nat) ≠ 11 by decide), upd_ne _ _ (show (10 : Nat) ≠ 11 by decide)]; intro h h'; obtain ⟨b, e1, e2⟩ := h9 h h'; exact ⟨b, e1, e2.gro hg (by simp)⟩), (by have h9 := hI.f10; simp only [upd_ne _ _ (show (10 : Nat) ≠ 11 by decide)]; exact fun h => (h9 h).gro hg (fun k _ => by simp)), (fun _ => ⟨_, upd_same _ _ _⟩), (by have h9 := hI.f12; simpa [upd] using h9), (by have h9 := hI.f13; simpa [upd] using h9), (by have h9 := hI.f14; simpa [upd] using h9), (by have h9 := hI.f15; simp only [upd_ne _ _ (show (15 : Nat) ≠ 11 by decide), upd_ne _ _ (show (21 : Nat) ≠ 11 by decide)]; exact fun h h' => (h9 h h').gro hg (fun k _ => by simp)), (by have h9 := hI.f16; simpa [upd] using h9), (by have h9 := hI.f17; simpa [upd] using h9), (by have h9 := hI.f18; simpa [upd] using h9), (by have h9 := hI.f19; simpa [upd] using h9), (by have h9 := hI.f20; simp only [upd_ne _ _ (show (20 : Nat) ≠ 11 by decide), upd_ne _ _ (show (21 : Nat) ≠ 11 by decide)]; intro h h'; obtain ⟨b, e1, e2⟩ := h9 h h'; exact ⟨b, e1, e2.gro hg (by simp)⟩), (by have h9 := hI.f21; simp only [upd_ne _ _ (show (21 : Nat) ≠ 11 by decide)]; exact fun h => (h9 h).gro hg (fun k _ => by simp)), (by have h9 := hI.f22; simpa [upd] using h9), (by have h9 := hI.res; simp only [upd_ne _ _ (show (10 : Nat) ≠ 11 by decide), upd_ne _ _ (show (21 : Nat) ≠ 11 by decide), upd_ne _ _ (show (23 : Nat) ≠ 11 by decide)]; exact ⟨fun h => (h9.1 h).gro hg (by simp), fun h => (h9.2 h).gro hg (by simp)⟩), (by have h9 := hI.f24; simpa [upd] using h9), hI.lt.skip hg.size (by decide), hI.cr.skip (by decide) (by decide)⟩
    · intro D x w1 b hI hD hdep hcl hb
      have e2 : b.tmps[2]?.getD undef = .pointer (some ⟨w.heap.size, 0, none⟩) := hb 2
      refine wp_of_run (.pointer (some ⟨w.heap.size, 1, none⟩)) (w' := w1) ?_ ?_
      · clear hb hI hdep hcl hX hO hcX hcO H4 ERX ERO
        go_simp
      · exact ⟨hI.bel, hI.siz, (by have h9 := hI.f0; simpa [upd] using h9), (by have h9 := hI.f1; simpa [upd] using h9), (by have h9 := hI.f2; simpa [upd] using h9), (by have h9 := hI.f3; simpa [upd] using h9), (by have h9 := hI.f4; simpa [upd] using h9), (by have h9 := hI.f5; simpa [upd] using h9), (by have h9 := hI.f6; simpa [upd] using h9), (by have h9 := hI.f7; simpa [upd] using h9), (by have h9 := hI.f8; simpa [upd] using h9), (by have h9 := hI.f9; simpa [upd] using h9), (by have h9 := hI.f10; simpa [upd] using h9), (by have h9 := hI.f11; simpa [upd] using h9), (fun _ => upd_same _ _ _), (by have h9 := hI.f13; simpa [upd] using h9), (by have h9 := hI.f14; simpa [upd] using h9), (by have h9 := hI.f15; simpa [upd] using h9), (by have h9 := hI.f16; simpa [upd] using h9), (by have h9 := hI.f17; simpa [upd] using h9), (by have h9 := hI.f18; simpa [upd] using h9), (by have h9 := hI.f19; simpa [upd] using h9), (by have h9 := hI.f20; simpa [upd] using h9), (by have h9 := hI.f21; simpa [upd] using h9), (by have h9 := hI.f22; simpa [upd] using h9), (by have h9 := hI.res; simpa [upd] using h9), (by have h9 := hI.f24; simpa [upd] using h9), hI.lt.skip (Nat.le_refl _) (by decide), hI.cr.skip (by decide) (by decide)⟩
    · intro D x w1 b hI hD hdep hcl hb
      have e2 : b.tmps[77]?.getD undef = .pointer (some ⟨w.heap.size, 1, none⟩) := (hb 77).trans (hI.f12 (hdep 12 (by decide)))
      have ec := (hI.bel.cell (p := ⟨w.heap.size, 1, none⟩) (by show w.heap.size < w.heap.size + 2; omega)).trans y1
      refine wp_of_run (.slice (some ⟨b2, o2, none⟩) O.length c') (w' := w1) ?_ ?_
      · clear hb hI hdep hcl hX hO hcX hcO H4 ERX ERO
        go_simp
      · exact ⟨hI.bel, hI.siz, (by have h9 := hI.f0; simpa [upd] using h9), (by have h9 := hI.f1; simpa [upd] using h9), (by have h9 := hI.f2; simpa [upd] using h9), (by have h9 := hI.f3; simpa [upd] using h9), (by have h9 := hI.f4; simpa [upd] using h9), (by have h9 := hI.f5; simpa [upd] using h9), (by have h9 := hI.f6; simpa [upd] using h9), (by have h9 := hI.f7; simpa [upd] using h9), (by have h9 := hI.f8; simpa [upd] using h9), (by have h9 := hI.f9; simpa [upd] using h9), (by have h9 := hI.f10; simpa [upd] using h9), (by have h9 := hI.f11; simpa [upd] using h9), (by have h9 := hI.f12; simpa [upd] using h9), (fun _ => upd_same _ _ _), (by have h9 := hI.f14; simpa [upd] using h9), (by have h9 := hI.f15; simpa [upd] using h9), (by have h9 := hI.f16; simpa [upd] using h9), (by have h9 := hI.f17; simpa [upd] using h9), (by have h9 := hI.f18; simpa [upd] using h9), (by have h9 := hI.f19; simpa [upd] using h9), (by have h9 := hI.f20; simpa [upd] using h9), (by have h9 := hI.f21; simpa [upd] using h9), (by have h9 := hI.f22; simpa [upd] using h9), (by have h9 := hI.res; simpa [upd] using h9), (by have h9 := hI.f24; simpa [upd] using h9), hI.lt.skip (Nat.le_refl _) (by decide), hI.cr.skip (by decide) (by decide)⟩
    · intro D x w1 b hI hD hdep hcl hb
      have e2 : b.tmps[78]?.getD undef = .slice (some ⟨b2, o2, none⟩) O.length c' := (hb 78).trans (hI.f13 (hdep 13 (by decide)))
      have q1 : (c' == 1) = false := by simp; omega
      have q2 : (1 : Int) ≤ (O.length : Int) := by omega
      have q3 : (O.length : Int) ≤ (c' : Int) := by omega
      have q4 : (c' : Nat) ≠ 1 := by omega
      refine wp_of_run (.slice (some ⟨b2, o2 + 1, none⟩) (O.length - 1) (c' - 1)) (w' := w1) ?_ ?_
      · clear hb hI hdep hcl hX hO hcX hcO H4 ERX ERO
        go_simp
      · exact ⟨hI.bel, hI.siz, (by have h9 := hI.f0; simpa [upd] using h9), (by have h9 := hI.f1; simpa [upd] using h9), (by have h9 := hI.f2; simpa [upd] using h9), (by have h9 := hI.f3; simpa [upd] using h9), (by have h9 := hI.f4; simpa [upd] using h9), (by have h9 := hI.f5; simpa [upd] using h9), (by have h9 := hI.f6; simpa [upd] using h9), (by have h9 := hI.f7; simpa [upd] using h9), (by have h9 := hI.f8; simpa [upd] using h9), (by have h9 := hI.f9; simpa [upd] using h9), (by have h9 := hI.f10; simpa [upd] using h9), (by have h9 := hI.f11; simpa [upd] using h9), (by have h9 := hI.f12; simpa [upd] using h9), (by have h9 := hI.f13; simpa [upd] using h9), (fun _ => upd_same _ _ _), (by have h9 := hI.f15; simpa [upd] using h9), (by have h9 := hI.f16; simpa [upd] using h9), (by have h9 := hI.f17; simpa [upd] using h9), (by have h9 := hI.f18; simpa [upd] using h9), (by have h9 := hI.f19; simpa [upd] using h9), (by have h9 := hI.f20; simpa [upd] using h9), (by have h9 := hI.f21; simpa [upd] using h9), (by have h9 := hI.f22; simpa [upd] using h9), (by have h9 := hI.res; simpa [upd] using h9), (by have h9 := hI.f24; simpa [upd] using h9), hI.lt.skip (Nat.le_refl _) (by decide), hI.cr.skip (by decide) (by decide)⟩
    · intro D x w1 b hI hD hdep hcl hb
      obtain ⟨g, hg⟩ := hI.f11 (hdep 11 (by decide))
      have e1 : b.tmps[76]?.getD undef = .slice (some ⟨g, 0, none⟩) 0 0 := (hb 76).trans hg
      have e2 := (hb 79).trans (hI.f14 (hdep 14 (by decide)))
      have hT : Ints w1 (.slice (some ⟨b2, o2 + 1, none⟩) (O.length - 1) (c' - 1)) (O.drop 1) := by
        have h1 := hO.keep (w' := w1) (fun b' o' hlt => (hI.bel.cell (p := ⟨b', o', none⟩) (by show b' < w.heap.size + 2; omega)).trans (H4.out b' o' hlt))
        have := h1.sub (lo := 1) (hi := O.length) (by omega) (Nat.le_refl _) (c' - 1) (by omega) (some ⟨b2, o2 + 1, none⟩) (fun _ => by simp [Addr.add])
        rwa [List.take_length] at this
      refine wp_growI rfl (.tmp 76) (.tmp 79) 22 rfl Tryz.underlying22 hi0 hz0 hz1 hz2 g (by simpa [Act.eval] using e1) (by simpa [Act.eval] using e2) hT (by simp; omega) (by simp; omega) ?_
      intro v' w' hown hb'
      refine StepPost.mk' ?_
      have hg' := Gro.of_below hb'
      exact ⟨hI.bel.trans (hg'.bel.mono (by have := hI.siz; omega)), Nat.le_trans hI.siz hg'.size, (by have h9 := hI.f0; simpa [upd] using h9), (by have h9 := hI.f1; simpa [upd] using h9), (by have h9 := hI.f2; simpa [upd] using h9), (by have h9 := hI.f3; simpa [upd] using h9), (by have h9 := hI.f4; simp only [upd_ne _ _ (show (4 : Nat) ≠ 15 by decide), upd_ne _ _ (show (10 : Nat) ≠ 15 by decide)]; exact fun h h' => (h9 h h').gro hg' (fun k _ => by simp)), (by have h9 := hI.f5; simpa [upd] using h9), (by have h9 := hI.f6; simpa [upd] using h9), (by have h9 := hI.f7; simpa [upd] using h9), (by have h9 := hI.f8; simpa [upd] using h9), (by have h9 := hI.f9; simp only [upd_ne _ _ (show (9 : Nat) ≠ 15 by decide), upd_ne _ _ (show (10 : Nat) ≠ 15 by decide)]; intro h h'; obtain ⟨b, e1, e2⟩ := h9 h h'; exact ⟨b, e1, e2.gro hg' (by simp)⟩), (by have h9 := hI.f10; simp only [upd_ne _ _ (show (10 : Nat) ≠ 15 by decide)]; exact fun h => (h9 h).gro hg' (fun k _ => by simp)), (by have h9 := hI.f11; simpa [upd] using h9), (by have h9 := hI.f12; simpa [upd] using h9), (by have h9 := hI.f13; simpa [upd] using h9), (by have h9 := hI.f14; simpa [upd] using h9), (fun _ _ => by rw [upd_same]; exact hown.mono hI.siz), (by have h9 := hI.f16; simpa [upd] using h9), (by have h9 := hI.f17; simpa [upd] using h9), (by have h9 := hI.f18; simpa [upd] using h9), (by have h9 := hI.f19; simpa [upd] using h9), (by have h9 := hI.f20; simp only [upd_ne _ _ (show (20 : Nat) ≠ 15 by decide), upd_ne _ _ (show (21 : Nat) ≠ 15 by decide)]; intro h h'; obtain ⟨b, e1, e2⟩ := h9 h h'; exact ⟨b, e1, e2.gro hg' (by simp)⟩), (by have h9 := hI.f21; simp only [upd_ne _ _ (show (21 : Nat) ≠ 15 by decide)]; exact fun h => (h9 h).gro hg' (fun k _ => by simp)), (by have h9 := hI.f22; simpa [upd] using h9), (by have h9 := hI.res; simp only [upd_ne _ _ (show (10 : Nat) ≠ 15 by decide), upd_ne _ _ (show (21 : Nat) ≠ 15 by decide), upd_ne _ _ (show (23 : Nat) ≠ 15 by decide)]; exact ⟨fun h => (h9.1 h).gro hg' (by simp), fun h => (h9.2 h).gro hg' (by simp)⟩), (by have h9 := hI.f24; simpa [upd] using h9), hI.lt.upd hg'.size (fun k hk => (hown.lt k hk).2), hI.cr.right (w := w1) (fun p hp => hI.lt p (by revert hp; simp; omega)) (by decide) (fun k hk => .inl (hown.lt k hk).1)⟩
    · intro D x w1 b hI hD hdep hcl hb
      have e2 : b.tmps[2]?.getD undef = .pointer (some ⟨w.heap.size, 0, none⟩) := hb 2
      refine wp_of_run (.pointer (some ⟨w.heap.size, 1, none⟩)) (w' := w1) ?_ ?_
      · clear hb hI hdep hcl hX hO hcX hcO H4 ERX ERO
        go_simp
      · exact ⟨hI.bel, hI.siz, (by have h9 := hI.f0; simpa [upd] using h9), (by have h9 := hI.f1; simpa [upd] using h9), (by have h9 := hI.f2; simpa [upd] using h9), (by have h9 := hI.f3; simpa [upd] using h9), (by have h9 := hI.f4; simpa [upd] using h9), (by have h9 := hI.f5; simpa [upd] using h9), (by have h9 := hI.f6; simpa [upd] using h9), (by have h9 := hI.f7; simpa [upd] using h9), (by have h9 := hI.f8; simpa [upd] using h9), (by have h9 := hI.f9; simpa [upd] using h9), (by have h9 := hI.f10; simpa [upd] using h9), (by have h9 := hI.f11; simpa [upd] using h9), (by have h9 := hI.f12; simpa [upd] using h9), (by have h9 := hI.f13; simpa [upd] using h9), (by have h9 := hI.f14; simpa [upd] using h9), (by have h9 := hI.f15; simpa [upd] using h9), (fun _ => upd_same _ _ _), (by have h9 := hI.f17; simpa [upd] using h9), (by have h9 := hI.f18; simpa [upd] using h9), (by have h9 := hI.f19; simpa [upd] using h9), (by have h9 := hI.f20; simpa [upd] using h9), (by have h9 := hI.f21; simpa [upd] using h9), (by have h9 := hI.f22; simpa [upd] using h9), (by have h9 := hI.res; simpa [upd] using h9), (by have h9 := hI.f24; simpa [upd] using h9), hI.lt.skip (Nat.le_refl _) (by decide), hI.cr.skip (by decide) (by decide)⟩
    · intro D x w1 b hI hD hdep hcl hb
      have e2 : b.tmps[81]?.getD undef = .pointer (some ⟨w.heap.size, 1, none⟩) := (hb 81).trans (hI.f16 (hdep 16 (by decide)))
      have ec := (hI.bel.cell (p := ⟨w.heap.size, 1, none⟩) (by show w.heap.size < w.heap.size + 2; omega)).trans y1
      refine wp_of_run (.slice (some ⟨b2, o2, none⟩) O.length c') (w' := w1) ?_ ?_
      · clear hb hI hdep hcl hX hO hcX hcO H4 ERX ERO
        go_simp
      · exact ⟨hI.bel, hI.siz, (by have h9 := hI.f0; simpa [upd] using h9), (by have h9 := hI.f1; simpa [upd] using h9), (by have h9 := hI.f2; simpa [upd] using h9), (by have h9 := hI.f3; simpa [upd] using h9), (by have h9 := hI.f4; simpa [upd] using h9), (by have h9 := hI.f5; simpa [upd] using h9), (by have h9 := hI.f6; simpa [upd] using h9), (by have h9 := hI.f7; simpa [upd] using h9), (by have h9 := hI.f8; simpa [upd] using h9), (by have h9 := hI.f9; simpa [upd] using h9), (by have h9 := hI.f10; simpa [upd] using h9), (by have h9 := hI.f11; simpa [upd] using h9), (by have h9 := hI.f12; simpa [upd] using h9), (by have h9 := hI.f13; simpa [upd] using h9), (by have h9 := hI.f14; simpa [upd] using h9), (by have h9 := hI.f15; simpa [upd] using h9), (by have h9 := hI.f16; simpa [upd] using h9), (fun _ => upd_same _ _ _), (by have h9 := hI.f18; simpa [upd] using h9), (by have h9 := hI.f19; simpa [upd] using h9), (by have h9 := hI.f20; simpa [upd] using h9), (by have h9 := hI.f21; simpa [upd] using h9), (by have h9 := hI.f22; simpa [upd] using h9), (by have h9 := hI.res; simpa [upd] using h9), (by have h9 := hI.f24; simpa [upd] using h9), hI.lt.skip (Nat.le_refl _) (by decide), hI.cr.skip (by decide) (by decide)⟩
    · intro D x w1 b hI hD hdep hcl hb
      have e2 : b.tmps[82]?.getD undef = .slice (some ⟨b2, o2, none⟩) O.length c' := (hb 82).trans (hI.f17 (hdep 17 (by decide)))
      have q2 : (0 : Int) < (O.length : Int) := by omega
      have q3 : 0 < O.length := by omega
      refine wp_of_run (.pointer (some ⟨b2, o2, none⟩)) (w' := w1) ?_ ?_
      · clear hb hI hdep hcl hX hO hcX hcO H4 ERX ERO
        go_simp
      · exact ⟨hI.bel, hI.siz, (by have h9 := hI.f0; simpa [upd] using h9), (by have h9 := hI.f1; simpa [upd] using h9), (by have h9 := hI.f2; simpa [upd] using h9), (by have h9 := hI.f3; simpa [upd] using h9), (by have h9 := hI.f4; simpa [upd] using h9), (by have h9 := hI.f5; simpa [upd] using h9), (by have h9 := hI.f6; simpa [upd] using h9), (by have h9 := hI.f7; simpa [upd] using h9), (by have h9 := hI.f8; simpa [upd] using h9), (by have h9 := hI.f9; simpa [upd] using h9), (by have h9 := hI.f10; simpa [upd] using h9), (by have h9 := hI.f11; simpa [upd] using h9), (by have h9 := hI.f12; simpa [upd] using h9), (by have h9 := hI.f13; simpa [upd] using h9), (by have h9 := hI.f14; simpa [upd] using h9), (by have h9 := hI.f15; simpa [upd] using h9), (by have h9 := hI.f16; simpa [upd] using h9), (by have h9 := hI.f17; simpa [upd] using h9), (fun _ => upd_same _ _ _), (by have h9 := hI.f19; simpa [upd] using h9), (by have h9 := hI.f20; simpa [upd] using h9), (by have h9 := hI.f21; simpa [upd] using h9), (by have h9 := hI.f22; simpa [upd] using h9), (by have h9 := hI.res; simpa [upd] using h9), (by have h9 := hI.f24; simpa [upd] using h9), hI.lt.skip (Nat.le_refl _) (by decide), hI.cr.skip (by decide) (by decide)⟩
    · intro D x w1 b hI hD hdep hcl hb
      have e2 : b.tmps[83]?.getD undef = .pointer (some ⟨b2, o2, none⟩) := (hb 83).trans (hI.f18 (hdep 18 (by decide)))
      have ec := ((hI.bel.cell (p := ⟨b2, o2, none⟩) (by show b2 < w.heap.size + 2; omega)).trans (H4.out b2 o2 (by omega))).trans hcO.out
      refine wp_of_run (.int .i64 o0) (w' := w1) ?_ ?_
      · clear hb hI hdep hcl hX hO hcX hcO H4 ERX ERO
        go_simp
      · exact ⟨hI.bel, hI.siz, (by have h9 := hI.f0; simpa [upd] using h9), (by have h9 := hI.f1; simpa [upd] using h9), (by have h9 := hI.f2; simpa [upd] using h9), (by have h9 := hI.f3; simpa [upd] using h9), (by have h9 := hI.f4; simpa [upd] using h9), (by have h9 := hI.f5; simpa [upd] using h9), (by have h9 := hI.f6; simpa [upd] using h9), (by have h9 := hI.f7; simpa [upd] using h9), (by have h9 := hI.f8; simpa [upd] using h9), (by have h9 := hI.f9; simpa [upd] using h9), (by have h9 := hI.f10; simpa [upd] using h9), (by have h9 := hI.f11; simpa [upd] using h9), (by have h9 := hI.f12; simpa [upd] using h9), (by have h9 := hI.f13; simpa [upd] using h9), (by have h9 := hI.f14; simpa [upd] using h9), (by have h9 := hI.f15; simpa [upd] using h9), (by have h9 := hI.f16; simpa [upd] using h9), (by have h9 := hI.f17; simpa [upd] using h9), (by have h9 := hI.f18; simpa [upd] using h9), (fun _ => upd_same _ _ _), (by have h9 := hI.f20; simpa [upd] using h9), (by have h9 := hI.f21; simpa [upd] using h9), (by have h9 := hI.f22; simpa [upd] using h9), (by have h9 := hI.res; simpa [upd] using h9), (by have h9 := hI.f24; simpa [upd] using h9), hI.lt.skip (Nat.le_refl _) (by decide), hI.cr.skip (by decide) (by decide)⟩
    · intro D x w1 b hI hD hdep hcl hb
      have e2 : b.tmps[84]?.getD undef = .int .i64 o0 := (hb 84).trans (hI.f19 (hdep 19 (by decide)))
      refine wp_of_run (.slice (some ⟨w1.heap.size, 0, none⟩) 1 1) (w' := w1.alloc (.cells #[.int .i64 o0] 3)) ?_ ?_
      · clear hb hI hdep hcl hX hO hcX hcO H4 ERX ERO
        go_simp
      · have hg := Gro.alloc w1 (.cells #[.int .i64 o0] 3)
        exact ⟨hI.bel.trans (hg.bel.mono (by have := hI.siz; omega)), Nat.le_trans hI.siz hg.size, (by have h9 := hI.f0; simpa [upd] using h9), (by have h9 := hI.f1; simpa [upd] using h9), (by have h9 := hI.f2; simpa [upd] using h9), (by have h9 := hI.f3; simpa [upd] using h9), (by have h9 := hI.f4; simp only [upd_ne _ _ (show (4 : Nat) ≠ 20 by decide), upd_ne _ _ (show (10 : Nat) ≠ 20 by decide)]; exact fun h h' => (h9 h h').gro hg (fun k _ => by simp)), (by have h9 := hI.f5; simpa [upd] using h9), (by have h9 := hI.f6; simpa [upd] using h9), (by have h9 := hI.f7; simpa [upd] using h9), (by have h9 := hI.f8; simpa [upd] using h9), (by have h9 := hI.f9; simp only [upd_ne _ _ (show (9 : Nat) ≠ 20 by decide), upd_ne _ _ (show (10 : Nat) ≠ 20 by decide)]; intro h h'; obtain ⟨b, e1, e2⟩ := h9 h h'; exact ⟨b, e1, e2.gro hg (by simp)⟩), (by have h9 := hI.f10; simp only [upd_ne _ _ (show (10 : Nat) ≠ 20 by decide)]; exact fun h => (h9 h).gro hg (fun k _ => by simp)), (by have h9 := hI.f11; simpa [upd] using h9), (by have h9 := hI.f12; simpa [upd] using h9), (by have h9 := hI.f13; simpa [upd] using h9), (by have h9 := hI.f14; simpa [upd] using h9), (by have h9 := hI.f15; simp only [upd_ne _ _ (show (15 : Nat) ≠ 20 by decide), upd_ne _ _ (show (21 : Nat) ≠ 20 by decide)]; exact fun h h' => (h9 h h').gro hg (fun k _ => by simp)), (by have h9 := hI.f16; simpa [upd] using h9), (by have h9 := hI.f17; simpa [upd] using h9), (by have h9 := hI.f18; simpa [upd] using h9), (by have h9 := hI.f19; simpa [upd] using h9), (fun _ _ => ⟨_, upd_same _ _ _, Arr.new w1 3 [.int .i64 o0]⟩), (by have h9 := hI.f21; simp only [upd_ne _ _ (show (21 : Nat) ≠ 20 by decide)]; exact fun h => (h9 h).gro hg (fun k _ => by simp)), (by have h9 := hI.f22; simpa [upd] using h9), (by have h9 := hI.res; simp only [upd_ne _ _ (show (10 : Nat) ≠ 20 by decide), upd_ne _ _ (show (21 : Nat) ≠ 20 by decide), upd_ne _ _ (show (23 : Nat) ≠ 20 by decide)]; exact ⟨fun h => (h9.1 h).gro hg (by simp), fun h => (h9.2 h).gro hg (by simp)⟩), (by have h9 := hI.f24; simpa [upd] using h9), hI.lt.upd hg.size (fun k hk => by simp [Value.ownBlock] at hk; simp; omega), hI.cr.right (w := w1) (fun p hp => hI.lt p (by revert hp; simp; omega)) (by decide) (fun k hk => .inl (by simp [Value.ownBlock] at hk; omega))⟩
    · intro D x w1 b hI hD hdep hcl hb
      have dz : D 15 = true := hdep 15 (by decide)
      have h4' := hI.f15 dz hD
      obtain ⟨b9, e9, a9⟩ := hI.f20 (hdep 20 (by decide)) hD
      have e1 : b.tmps[80]?.getD undef = x 15 := hb 80
      have e2 : b.tmps[85]?.getD undef = .slice (some ⟨b9, 0, none⟩) 1 1 := (hb 85).trans e9
      refine wp_appG (.tmp 80) (.tmp 85) 22 rfl Tryz.underlying22 hi0 hz0 hz1 hz2 (by simpa [Act.eval] using e1) h4' (ys := [o0]) (by simpa [Act.eval] using e2) (Ints.of_arr (xs := [o0]) a9) (by simp; omega) hI.siz ?_
      intro v' w' hown hg' hbk
      refine StepPost.mk' ?_
      have hzN : (x 15).ownBlock ≠ some (w.heap.size + 2) := fun h => by have := (h4'.lt _ h).1; omega
      have er : O.drop 1 ++ [o0] = rotL O := ERO.out
      exact ⟨hI.bel.trans (hg'.bel.mono (by have := hI.siz; omega)), Nat.le_trans hI.siz hg'.size, (by have h9 := hI.f0; simpa [upd] using h9), (by have h9 := hI.f1; simpa [upd] using h9), (by have h9 := hI.f2; simpa [upd] using h9), (by have h9 := hI.f3; simpa [upd] using h9), (by have h9 := hI.f4; simp only [upd_ne _ _ (show (4 : Nat) ≠ 21 by decide), upd_ne _ _ (show (10 : Nat) ≠ 21 by decide)]; exact fun h h' => (h9 h h').gro hg' (fun k hk => hI.cr 4 (by decide) 15 (by decide) h dz k hk)), (by have h9 := hI.f5; simpa [upd] using h9), (by have h9 := hI.f6; simpa [upd] using h9), (by have h9 := hI.f7; simpa [upd] using h9), (by have h9 := hI.f8; simpa [upd] using h9), (by have h9 := hI.f9; simp only [upd_ne _ _ (show (9 : Nat) ≠ 21 by decide), upd_ne _ _ (show (10 : Nat) ≠ 21 by decide)]; intro h h'; obtain ⟨b, e1, e2⟩ := h9 h h'; exact ⟨b, e1, e2.gro hg' ((fun k hk => hI.cr 9 (by decide) 15 (by decide) h dz k hk) b (by rw [e1]; rfl))⟩), (by have h9 := hI.f10; simp only [upd_ne _ _ (show (10 : Nat) ≠ 21 by decide)]; exact fun h => (h9 h).gro hg' (fun k hk => hI.cr 10 (by decide) 15 (by decide) h dz k hk)), (by have h9 := hI.f11; simpa [upd] using h9), (by have h9 := hI.f12; simpa [upd] using h9), (by have h9 := hI.f13; simpa [upd] using h9), (by have h9 := hI.f14; simpa [upd] using h9), (fun _ h => by simp [upd] at h), (by have h9 := hI.f16; simpa [upd] using h9), (by have h9 := hI.f17; simpa [upd] using h9), (by have h9 := hI.f18; simpa [upd] using h9), (by have h9 := hI.f19; simpa [upd] using h9), (fun _ h => by simp [upd] at h), (fun _ => by rw [upd_same, ← er]; exact hown), (fun h => absurd (hcl 22 (by simpa [upd] using h) 21 (by decide)) (by simp [hD])), (by have h9 := hI.res; simp only [upd_ne _ _ (show (10 : Nat) ≠ 21 by decide), upd_ne _ _ (show (23 : Nat) ≠ 21 by decide)]; exact ⟨fun h => (h9.1 h).gro hg' hzN, fun h => absurd (hcl 22 (hcl 23 h 22 (by decide)) 21 (by decide)) (by simp [hD])⟩), (by have h9 := hI.f24; simpa [upd] using h9), hI.lt.upd hg'.size (fun k hk => (hown.lt k hk).2), hI.cr.right (w := w1) (fun p hp => hI.lt p (by revert hp; simp; omega)) (by decide) (fun k hk => by rcases hbk with h | h; exact .inr ⟨15, by decide, dz, h ▸ hk⟩; exact .inl (by rw [h] at hk; injection hk with hk; omega))⟩
    · intro D x w1 b hI hD hdep hcl hb
      have e1 : b.tmps[75]?.getD undef = x 10 := hb 75
      have e2 : b.tmps[86]?.getD undef = x 21 := hb 86
      refine wp_of_run (.agg #[x 10, x 21]) (w' := w1) ?_ ?_
      · obtain ⟨C0, m0, h0⟩ := (hI.f10 (hdep 10 (by decide))).form
        obtain ⟨C1, m1, h1⟩ := (hI.f21 (hdep 21 (by decide))).form
        rw [h0] at e1 ⊢
        rw [h1] at e2 ⊢
        clear h0 h1
        clear hb hI hdep hcl hX hO hcX hcO H4 ERX ERO
        go_simp
      · exact ⟨hI.bel, hI.siz, (by have h9 := hI.f0; simpa [upd] using h9), (by have h9 := hI.f1; simpa [upd] using h9), (by have h9 := hI.f2; simpa [upd] using h9), (by have h9 := hI.f3; simpa [upd] using h9), (by have h9 := hI.f4; simpa [upd] using h9), (by have h9 := hI.f5; simpa [upd] using h9), (by have h9 := hI.f6; simpa [upd] using h9), (by have h9 := hI.f7; simpa [upd] using h9), (by have h9 := hI.f8; simpa [upd] using h9), (by have h9 := hI.f9; simpa [upd] using h9), (by have h9 := hI.f10; simpa [upd] using h9), (by have h9 := hI.f11; simpa [upd] using h9), (by have h9 := hI.f12; simpa [upd] using h9), (by have h9 := hI.f13; simpa [upd] using h9), (by have h9 := hI.f14; simpa [upd] using h9), (by have h9 := hI.f15; simpa [upd] using h9), (by have h9 := hI.f16; simpa [upd] using h9), (by have h9 := hI.f17; simpa [upd] using h9), (by have h9 := hI.f18; simpa [upd] using h9), (by have h9 := hI.f19; simpa [upd] using h9), (by have h9 := hI.f20; simpa [upd] using h9), (by have h9 := hI.f21; simpa [upd] using h9), (fun _ => by simp [upd]), (by have h9 := hI.res; simpa [upd] using h9), (by have h9 := hI.f24; simpa [upd] using h9), hI.lt.skip (Nat.le_refl _) (by decide), hI.cr.skip (by decide) (by decide)⟩
    · intro D x w1 b hI hD hdep hcl hb
      have ha := hI.res.1 hD
      have e1 : b.tmps[4]?.getD undef = .pointer (some ⟨w.heap.size + 2, 0, none⟩) := hb 4
      have e2 : b.tmps[87]?.getD undef = .agg #[x 10, x 21] := (hb 87).trans (hI.f22 (hdep 22 (by decide)))
      have d3 := hcl 22 (hdep 22 (by decide)) 10 (by decide)
      have d7 := hcl 22 (hdep 22 (by decide)) 21 (by decide)
      obtain ⟨C0, m0, h0⟩ := (hI.f10 d3).form
      obtain ⟨C1, m1, h1⟩ := (hI.f21 d7).form
      have q0 := ha.cell 0
      have q1 := ha.cell 1
      have q2 := ha.frozen 0
      have q3 := ha.frozen 1
      refine wp_of_skip (w' := (w1.setCell ⟨w.heap.size + 2, 0, none⟩ (x 10)).setCell ⟨w.heap.size + 2, 1, none⟩ (x 21)) ?_ ?_
      · rw [h0, h1] at e2 ⊢
        clear h0 h1 ha
        clear hb hI hdep hcl hX hO hcX hcO H4 ERX ERO
        go_simp
      · have ar := (ha.set 0 (x 10)).set 1 (x 21)
        have hg : Gro (w.heap.size + 2) w1 ((w1.setCell ⟨w.heap.size + 2, 0, none⟩ (x 10)).setCell ⟨w.heap.size + 2, 1, none⟩ (x 21)) (some (w.heap.size + 2)) :=
          ⟨bset2 (r := w.heap.size + 2) (Below.refl _ _) (Nat.le_refl _), fun k hk hne => heap_set2 w1 (w.heap.size + 2) 0 1 k _ _ (fun e => hne (by rw [e]))⟩
        have hk {v : Value} {xs : List Int} (h : OwnI 3 w5.heap.size w1 v xs) : ∀ k, v.ownBlock = some k → some (w.heap.size + 2) ≠ some k := fun k hk e => by injection e with e; have := (h.lt k hk).1; omega
        exact ⟨hI.bel.trans hg.bel, Nat.le_trans hI.siz hg.size, (by have h9 := hI.f0; simpa [upd] using h9), (by have h9 := hI.f1; simpa [upd] using h9), (by have h9 := hI.f2; simpa [upd] using h9), (by have h9 := hI.f3; simpa [upd] using h9), (by have h9 := hI.f4; simp only [upd_ne _ _ (show (4 : Nat) ≠ 23 by decide), upd_ne _ _ (show (10 : Nat) ≠ 23 by decide)]; exact fun h h' => (h9 h h').gro hg (hk (h9 h h'))), (by have h9 := hI.f5; simpa [upd] using h9), (by have h9 := hI.f6; simpa [upd] using h9), (by have h9 := hI.f7; simpa [upd] using h9), (by have h9 := hI.f8; simpa [upd] using h9), (by simp only [upd_ne _ _ (show (9 : Nat) ≠ 23 by decide), upd_ne _ _ (show (10 : Nat) ≠ 23 by decide)]; intro h h'; rw [d3] at h'; cases h'), (by have h9 := hI.f10; simp only [upd_ne _ _ (show (10 : Nat) ≠ 23 by decide)]; exact fun h => (h9 h).gro hg (hk (h9 h))), (by have h9 := hI.f11; simpa [upd] using h9), (by have h9 := hI.f12; simpa [upd] using h9), (by have h9 := hI.f13; simpa [upd] using h9), (by have h9 := hI.f14; simpa [upd] using h9), (by have h9 := hI.f15; simp only [upd_ne _ _ (show (15 : Nat) ≠ 23 by decide), upd_ne _ _ (show (21 : Nat) ≠ 23 by decide)]; exact fun h h' => (h9 h h').gro hg (hk (h9 h h'))), (by have h9 := hI.f16; simpa [upd] using h9), (by have h9 := hI.f17; simpa [upd] using h9), (by have h9 := hI.f18; simpa [upd] using h9), (by have h9 := hI.f19; simpa [upd] using h9), (by simp only [upd_ne _ _ (show (20 : Nat) ≠ 23 by decide), upd_ne _ _ (show (21 : Nat) ≠ 23 by decide)]; intro h h'; rw [d7] at h'; cases h'), (by have h9 := hI.f21; simp only [upd_ne _ _ (show (21 : Nat) ≠ 23 by decide)]; exact fun h => (h9 h).gro hg (hk (h9 h))), (by have h9 := hI.f22; simpa [upd] using h9), ⟨fun h => by simp [upd] at h, fun _ => by simpa [upd] using ar⟩, (by have h9 := hI.f24; simpa [upd] using h9), hI.lt.skip hg.size (by decide), hI.cr.skip (by decide) (by decide)⟩
    · intro D x w1 b hI hD hdep hcl hb
      refine wp_of_run (.int .i64 0) (w' := w1) ?_ ?_
      · clear hb hI hdep hcl hX hO hcX hcO H4 ERX ERO
        go_simp
      · exact ⟨hI.bel, hI.siz, (by have h9 := hI.f0; simpa [upd] using h9), (by have h9 := hI.f1; simpa [upd] using h9), (by have h9 := hI.f2; simpa [upd] using h9), (by have h9 := hI.f3; simpa [upd] using h9), (by have h9 := hI.f4; simpa [upd] using h9), (by have h9 := hI.f5; simpa [upd] using h9), (by have h9 := hI.f6; simpa [upd] using h9), (by have h9 := hI.f7; simpa [upd] using h9), (by have h9 := hI.f8; simpa [upd] using h9), (by have h9 := hI.f9; simpa [upd] using h9), (by have h9 := hI.f10; simpa [upd] using h9), (by have h9 := hI.f11; simpa [upd] using h9), (by have h9 := hI.f12; simpa [upd] using h9), (by have h9 := hI.f13; simpa [upd] using h9), (by have h9 := hI.f14; simpa [upd] using h9), (by have h9 := hI.f15; simpa [upd] using h9), (by have h9 := hI.f16; simpa [upd] using h9), (by have h9 := hI.f17; simpa [upd] using h9), (by have h9 := hI.f18; simpa [upd] using h9), (by have h9 := hI.f19; simpa [upd] using h9), (by have h9 := hI.f20; simpa [upd] using h9), (by have h9 := hI.f21; simpa [upd] using h9), (by have h9 := hI.f22; simpa [upd] using h9), (by have h9 := hI.res; simpa [upd] using h9), (fun _ => upd_same _ _ _), hI.lt.skip (Nat.le_refl _) (by decide), hI.cr.skip (by decide) (by decide)⟩
    · intro D x w1 hI hD
      have d10 := hI.f10 (hD 10 (by decide))
      have d21 := hI.f21 (hD 21 (by decide))
      have e24 := hI.f24 (hD 24 (by decide))
      have rs := hI.res.2 (hD 23 (by decide))
      obtain ⟨C0, m0, h0⟩ := d10.form
      obtain ⟨C1, m1, h1⟩ := d21.form
      simp only [putAll, dstOf, Act.put, List.map_cons, List.map_nil, List.setIfInBounds_toArray, List.set_cons_succ, List.set_cons_zero, Nat.reduceAdd]
      rw [e24]
      rw [h0] at d10 rs
      rw [h1] at d21 rs
      have bb := hbw.trans (hI.bel.mono (by omega))
      clear h0 h1 hI
      go_wp2_with fail
      go_meet
      exact ⟨rfl, _, _, _, _, _, _, rs, d10.mono (by omega), d21.mono (by omega), bb⟩
  case rest =>
    obtain ⟨rfl, A0, n0, c0, A1, n1, c1, rs, o1, o2, bb⟩ := hcut
    go_wp2_with fail
    refine bodyPost_ret (v := .tuple #[.agg #[.slice A0 n0 c0, .slice A1 n1 c1], .int .i64 0]) (results_ct Tryz.results66 _ _ (w.heap.size + 2) 24 _ _ rfl rs Tryz.underlying24 rfl info_grid) rfl ?_
    exact ⟨_, rfl, ⟨_, _, _, _, _, _, rfl, o1, o2⟩, bb⟩
end Go.Proofs.YteliflcbegcdlaaGreatDoor
