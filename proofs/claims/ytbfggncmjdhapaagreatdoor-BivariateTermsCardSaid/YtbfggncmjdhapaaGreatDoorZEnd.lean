/- unravellaw13.awake. -/
/- The end of a region that draws its order, where one slot alone is read afterwards. -/
import Derived.Test.YtbfggncmjdhapaaGreatDoorZPhm
import Derived.Test.YtbfggncmjdhapaaGreatDoorZPhx
namespace Go.Proofs.YtbfggncmjdhapaaGreatDoor
open Go.RowKit
set_option linter.unusedVariables false

def awP : List T2 := [((0, 2), -1), ((2, 0), 1)]
def awS : List T1 := setL (LAu 1 1) (LZp [(0, 1), (1, -1)]) awP
theorem awP_can : Can2 awP := ⟨by unfold awP Srt2; simp [kb], by unfold awP; simp⟩
theorem awP_lim : Lim2 awP := ⟨by unfold awP; simp, by unfold awP; simp, by unfold awP; simp⟩
theorem awS_cf (e : Int) : cf awS e = cf [(0, -1), (1, 2)] e := by
  have h : awS = [(0, -1), (1, 1), (1, 1), (2, -1), (2, 1)] := by decide +kernel
  rw [h]
  have key : ∀ (l : List T1) (t : T1), cf (t :: l) e = (if t.1 = e then t.2 else 0) + cf l e := fun l t => by
    rw [show t :: l = [t] ++ l from rfl, cf_append, cf_one]
  rw [key, key, key, key, key, key, key, cf_nil]
  simp only
  split <;> split <;> split <;> omega
theorem aw_text : (⟨(txtB [97] [122] (some awP)).toArray⟩ : ByteArray) = ⟨#[45, 122, 94, 50, 43, 97, 94, 50]⟩ := by decide +kernel
theorem aw_prod (e : K2) : cg2 (mulT [((1, 0), 1), ((0, 1), -1)] [((1, 0), 1), ((0, 1), 1)]) e = cg2 awP e := by
  have h : mulT [((1, 0), 1), ((0, 1), -1)] [((1, 0), 1), ((0, 1), 1)] = [((2, 0), 1), ((1, 1), 1), ((1, 1), -1), ((0, 2), -1)] := by decide +kernel
  rw [h]
  unfold awP
  simp only [cg2_cons, cg2_nil]
  split <;> split <;> split <;> omega
theorem OfQ_m12 (vc : Value) (w : World) (h : Ints w vc [-1, 2]) : Calls Tryz.prog 19 #[.int .i64 0, vc] w (QLR [(0, -1), (1, 2)] w) := by
  refine (Of_any 0 vc [-1, 2] w h (by simp) (by decide)).mono ?_
  rintro e w' ⟨v, he, hv, hb⟩
  have h2 : ofP 0 [-1, 2] = some [(0, -1), (1, 2)] := by decide +kernel
  rw [h2] at hv
  exact ⟨v, he, hb, _, hv, ⟨by unfold Srt; simp, by simp⟩, ⟨by simp, by simp⟩, fun e => rfl⟩
theorem OfP_11 (vc : Value) (w : World) (h : Ints w vc [1, -1]) : Calls Tryz.prog 19 #[.int .i64 0, vc] w fun e w' => ∃ v, e = .returned v ∧ PolyV w' v (some [(0, 1), (1, -1)]) ∧ Below w.heap.size w w' := by
  refine (Of_any 0 vc [1, -1] w h (by simp) (by decide)).mono ?_
  rintro e w' ⟨v, he, hv, hb⟩
  have h2 : ofP 0 [1, -1] = some [(0, 1), (1, -1)] := by decide +kernel
  rw [h2] at hv
  exact ⟨v, he, hv, hb⟩
theorem aw_set (vp va vz : Value) (w : World) (hp : PolyB w vp (some awP)) (ha : PolyV w va (some [(1, 1)])) (hz : PolyV w vz (some [(0, 1), (1, -1)])) : Calls Tryz.prog 20 #[vp, va, vz] w (SetR awS w) :=
  Set_list (N := 1) (ZM := 2) vp va vz awP 1 1 [(0, 1), (1, -1)] w hp ha hz (.inl rfl) (by decide) ⟨⟨by unfold Srt; simp, by simp⟩, ⟨by simp, by simp⟩⟩ (by simp) (by decide) awP_lim awP_can (by decide) (by unfold awP; simp) (by unfold awP; simp) (fun t ht => by simp at ht; rcases ht with rfl | rfl <;> simp) (by decide) (by decide) (fun i hi => by
    have : i = 0 ∨ i = 1 ∨ i = 2 := by omega
    rcases this with rfl | rfl | rfl <;> decide +kernel) (by decide +kernel) (by decide +kernel) (by decide)
set_option maxHeartbeats 4000000 in
set_option maxRecDepth 100000 in
theorem awake13 (w : World) (ht : Tb w) : Calls Tryz.prog 8 #[] w fun e w' => e = .returned (.bool true) ∧ Below w.heap.size w w' := by
  have HTB := Lib.hid ht
  clear ht
  have HO1 := Lib.hid (fun W => of_any (.slice (some ⟨W.heap.size, 0, none⟩) 2 2) [((1, 0), 1), ((0, 1), -1)] (W.alloc (.cells #[.int .i64 1, .int .i64 0, .int .i64 1, .int .i64 0, .int .i64 1, .int .i64 (-1)] 34)) (OwnA.lit (w := W) (base := W.heap.size) (e := 34) (sz := 3) (enc := tB) (xs := [((1, 0), 1), ((0, 1), -1)]) (fun x _ => rfl) (Nat.le_refl _) (by simp) (by simp)).sl (by intro t ht; simp at ht; rcases ht with rfl | rfl <;> simp) (by simp))
  have HO2 := Lib.hid (fun W => of_any (.slice (some ⟨W.heap.size, 0, none⟩) 2 2) [((1, 0), 1), ((0, 1), 1)] (W.alloc (.cells #[.int .i64 1, .int .i64 0, .int .i64 1, .int .i64 0, .int .i64 1, .int .i64 1] 34)) (OwnA.lit (w := W) (base := W.heap.size) (e := 34) (sz := 3) (enc := tB) (xs := [((1, 0), 1), ((0, 1), 1)]) (fun x _ => rfl) (Nat.le_refl _) (by simp) (by simp)).sl (by intro t ht; simp at ht; rcases ht with rfl | rfl <;> simp) (by simp))
  go_enter Tryz.func8, Tryz.ntmps8
  have H1 := Lib.hid (HO1.out w)
  go_wp2_with fail
  refine H1.out.mono ?_
  rintro e w2 ⟨v1, r1, rfl, hv1, ho1, hb2⟩
  have hp1 := ho1.pl (S := 2) (N := 1) (by refine ⟨by decide, ?_, by simp⟩; intro t ht; simp at ht; rcases ht with rfl | rfl <;> simp) (by decide) (by decide) hv1
  have hb2' : Below w.heap.size w w2 := ((Below.refl _ _).alloc (Nat.le_refl _) _).trans (hb2.mono (by simp))
  obtain ⟨A1, n1, c1, rfl⟩ := hp1.form
  clear hv1 ho1 hb2 H1
  have hW : ∀ W, W = w2.alloc (.cells #[.bool false, .slice A1 n1 c1] 27) → Arr W w2.heap.size 27 [.bool false, .slice A1 n1 c1] ∧ PL W (.agg #[.bool false, .slice A1 n1 c1]) [((1, 0), 1), ((0, 1), -1)] ∧ Below w.heap.size w W := by
    intro W hW
    subst hW
    exact ⟨Arr.new _ _ [_, _], hp1.below ((Below.refl _ _).alloc (Nat.le_refl _) _), hb2'.alloc hb2'.size _⟩
  go_upto_region 2 with fail
  generalize w2.alloc (.cells #[.bool false, .slice A1 n1 c1] 27) = w4 at hW ⊢
  obtain ⟨q1, p1, hb4⟩ := hW w4 rfl
  obtain ⟨B1, hB1⟩ : ∃ B, B = w2.heap.size := ⟨_, rfl⟩
  rw [← hB1] at q1 ⊢
  have H2 := Lib.hid (HO2.out w4)
  clear hW hp1 hb2' hB1 HO1 HO2
  go_wp2_with fail
  refine H2.out.mono ?_
  rintro e w5 ⟨v2, r2, rfl, hv2, ho2, hb5⟩
  have hp2 := ho2.pl (S := 2) (N := 1) (by refine ⟨by decide, ?_, by simp⟩; intro t ht; simp at ht; rcases ht with rfl | rfl <;> simp) (by decide) (by decide) hv2
  have hb5' : Below w4.heap.size w4 w5 := ((Below.refl _ _).alloc (Nat.le_refl _) _).trans (hb5.mono (by simp))
  obtain ⟨A2, n2, c2, rfl⟩ := hp2.form
  clear hv2 ho2 hb5 H2
  have hW : ∀ W, W = w5.alloc (.cells #[.bool false, .slice A2 n2 c2] 27) → Arr W B1 27 [.bool false, .slice A1 n1 c1] ∧ Arr W w5.heap.size 27 [.bool false, .slice A2 n2 c2] ∧ PL W (.agg #[.bool false, .slice A1 n1 c1]) [((1, 0), 1), ((0, 1), -1)] ∧ PL W (.agg #[.bool false, .slice A2 n2 c2]) [((1, 0), 1), ((0, 1), 1)] ∧ Below w.heap.size w W := by
    intro W hW
    subst hW
    have b1 := hb5'.alloc hb5'.size (.cells #[.bool false, .slice A2 n2 c2] 27)
    exact ⟨q1.below b1 q1.lt, Arr.new _ _ [_, _], p1.below b1, hp2.below ((Below.refl _ _).alloc (Nat.le_refl _) _), hb4.trans (b1.mono hb4.size)⟩
  go_upto_region 3 with fail
  generalize w5.alloc (.cells #[.bool false, .slice A2 n2 c2] 27) = w6 at hW ⊢
  obtain ⟨q1', q2, p1', p2, hb6⟩ := hW w6 rfl
  obtain ⟨B2, hB2⟩ : ∃ B, B = w5.heap.size := ⟨_, rfl⟩
  rw [← hB2] at q2 ⊢
  have HM := Lib.hid (MulPL (S := 2) (S2 := 2) (N := 1) (N2 := 1) (.agg #[.bool false, .slice A1 n1 c1]) (.agg #[.bool false, .slice A2 n2 c2]) _ _ w6 p1' p2 (by refine ⟨by decide, ?_, by simp⟩; intro t ht; simp at ht; rcases ht with rfl | rfl <;> simp) (by refine ⟨by decide, ?_, by simp⟩; intro t ht; simp at ht; rcases ht with rfl | rfl <;> simp) (by decide) (by decide) (by simp))
  have y0 := q1'.cell 0
  have y1 := q1'.cell 1
  have y2 := q2.cell 0
  have y3 := q2.cell 1
  clear hW q1 p1 hb4 hp2 hb5' hB2 q1' q2 p1' p2
  go_wp2_with fail
  refine HM.out.mono ?_
  rintro e w7 ⟨v3, rfl, hb7, hp3⟩
  have hpb : PolyB w7 v3 (some awP) := by
    obtain ⟨l, h1, h2, h3, h4⟩ := hp3
    have : l = awP := Can2.ext h2 awP_can fun e => by rw [h4, aw_prod]
    rw [← this]
    exact h1
  obtain ⟨A3, n3, c3, rfl⟩ := hp3.form
  have hb7' := hb6.trans (hb7.mono hb6.size)
  clear HM y0 y1 y2 y3 hp3 hb7 hb6
  have hW : ∀ W, W = w7.alloc (.cells #[.bool false, .slice A3 n3 c3] 27) → Arr W w7.heap.size 27 [.bool false, .slice A3 n3 c3] ∧ PolyB W (.agg #[.bool false, .slice A3 n3 c3]) (some awP) ∧ Below w.heap.size w W := by
    intro W hW
    subst hW
    exact ⟨Arr.new _ _ [_, _], hpb.below ((Below.refl _ _).alloc (Nat.le_refl _) _), hb7'.alloc hb7'.size _⟩
  go_upto_region 4 with fail
  generalize w7.alloc (.cells #[.bool false, .slice A3 n3 c3] 27) = w3 at hW ⊢
  obtain ⟨q3, p3, hb3⟩ := hW w3 rfl
  obtain ⟨B3, hB3⟩ : ∃ B, B = w7.heap.size := ⟨_, rfl⟩
  rw [← hB3] at q3 ⊢
  have Q3 := Lib.hid q3
  have HP3 := Lib.hid p3
  have HB3 := Lib.hid hb3
  clear hW hpb hb7' hB3 q3 p3 hb3
  refine wp_region_phim 9 (fun i => decide (i = 7) || decide (i = 10)) (by kernel_rfl) (by kernel_rfl) (by kernel_rfl) (by kernel_rfl) (by kernel_rfl) rfl (by simp) (by kernel_rfl) (fun i => ([some (.agg #[.bool false, .slice A3 n3 c3]), none, none, none, none, none, none, some (.int .i64 0), none, none, some (.int .i64 0)] : List (Option Value)).getD i none) (phiT (fun i => ([some (.agg #[.bool false, .slice A3 n3 c3]), none, none, none, none, none, none, some (.int .i64 0), none, none, some (.int .i64 0)] : List (Option Value)).getD i none) (fun i v w => (if i = 1 then (fun v w => PolyV w v (some [(1, 1)])) v w else (if i = 2 then (fun v w => Ints w v [1, -1]) v w else (if i = 3 then (fun v w => PolyV w v (some [(0, 1), (1, -1)])) v w else (if i = 4 then (fun v w => ∃ A n c, v = .tuple #[.agg #[.bool false, .slice A n c], .int .i64 0] ∧ QL w (.agg #[.bool false, .slice A n c]) awS) v w else (if i = 5 then (fun v w => ∃ A n c, v = .tuple #[.agg #[.bool false, .slice A n c], .int .i64 0] ∧ QL w (.agg #[.bool false, .slice A n c]) awS) v w else (if i = 6 then (fun v w => ∃ A n c, v = .agg #[.bool false, .slice A n c] ∧ QL w v awS) v w else (if i = 8 then (fun v w => ∃ g, v = .pointer (some ⟨g, 0, none⟩) ∧ w3.heap.size ≤ g ∧ Arr w g 38 [.bool false, .slice none 0 0]) v w else True))))))))) (fun i v w w' h hb => ?_) (fun i u v w h he => ?_) (fun x W => ∃ (g : Nat) (A : Option Addr) (n c : Nat), x 8 = .pointer (some ⟨g, 0, none⟩) ∧ w3.heap.size ≤ g ∧ Arr W g 38 [.bool false, .slice A n c] ∧ QL W (.agg #[.bool false, .slice A n c]) awS ∧ Below w3.heap.size w3 W ∧ ∃ u, x 5 = .tuple #[u, .int .i64 0]) (fun x w i v hl h => ?_) ⟨?_, ?_, ?_, ?_, ?_, ?_, ?_, ?_, ?_, ?_, ?_, trivial⟩ ?_
  · unfold phiT at h ⊢
    split
    · next u hu => rw [hu] at h; exact h
    · next hu =>
      rw [hu] at h
      simp only at h ⊢
      by_cases q1 : i = 1
      · rw [if_pos q1] at h ⊢; exact PolyV.below h hb
      · rw [if_neg q1] at h ⊢
        by_cases q2 : i = 2
        · rw [if_pos q2] at h ⊢; exact Ints.below h hb
        · rw [if_neg q2] at h ⊢
          by_cases q3 : i = 3
          · rw [if_pos q3] at h ⊢; exact PolyV.below h hb
          · rw [if_neg q3] at h ⊢
            by_cases q4 : i = 4
            · rw [if_pos q4] at h ⊢; exact (by obtain ⟨A, n, c, h1, h2⟩ := h; exact ⟨A, n, c, h1, h2.below hb⟩)
            · rw [if_neg q4] at h ⊢
              by_cases q5 : i = 5
              · rw [if_pos q5] at h ⊢; exact (by obtain ⟨A, n, c, h1, h2⟩ := h; exact ⟨A, n, c, h1, h2.below hb⟩)
              · rw [if_neg q5] at h ⊢
                by_cases q6 : i = 6
                · rw [if_pos q6] at h ⊢; exact (by obtain ⟨A, n, c, h1, h2⟩ := h; exact ⟨A, n, c, h1, h2.below hb⟩)
                · rw [if_neg q6] at h ⊢
                  by_cases q8 : i = 8
                  · rw [if_pos q8] at h ⊢; exact (by obtain ⟨g, h1, h2, h3⟩ := h; exact ⟨g, h1, h2, h3.below hb h3.lt⟩)
                  · rw [if_neg q8] at h ⊢
                    trivial
  · exact phiT_val h he
  · simp only [Bool.or_eq_true, decide_eq_true_eq, Bool.false_eq_true] at hl
    rcases hl with rfl | rfl
    · exact by simpa [upd] using h
    · exact by simpa [upd] using h
  · intro x w1 bA hold hb
    refine ⟨fun _ _ hbel hdep => ?_, fun h => absurd h (by decide), fun h => absurd h (by decide)⟩
    have e3 : bA.tmps[3]?.getD undef = .pointer (some ⟨B3, 0, none⟩) := hb 3
    have cc0 := (Q3.out.below hbel Q3.out.lt).cell 0
    have cc1 := (Q3.out.below hbel Q3.out.lt).cell 1
    refine phi_run (.agg #[.bool false, .slice A3 n3 c3]) ?_ rfl
    clear hb hdep hold
    go_simp
  · intro x w1 bA hold hb
    refine ⟨fun _ _ hbel hdep => ?_, fun h => absurd h (by decide), fun h => absurd h (by decide)⟩
    refine phi_call ?_ ((Term_any 1 1 w1 (by decide) (by decide) (by decide) (by decide) (by decide)).mono fun e w' h => (by obtain ⟨v, he, hv, hb'⟩ := h; exact ⟨v, he, hb', hv⟩))
    clear hb hdep hold
    go_simp
  · intro x w1 bA hold hb
    refine ⟨fun _ _ hbel hdep => ?_, fun h => absurd h (by decide), fun h => absurd h (by decide)⟩
    refine phi_make (.slice (some ⟨w1.heap.size, 0, none⟩) 2 2) (w1.alloc (.cells #[.int .i64 1, .int .i64 (-1)] 3)) ?_ ((Below.refl _ _).alloc (Nat.le_refl _) _) (Ints.of_arr (xs := [1, -1]) (Arr.new w1 3 [.int .i64 1, .int .i64 (-1)]))
    clear hb hdep hold
    go_simp
  · intro x w1 bA hold hb
    refine ⟨fun _ _ hbel hdep => ?_, fun h => absurd h (by decide), fun h => absurd h (by decide)⟩
    have p20 := hdep 2 (by decide)
    have e20 : bA.tmps[20]?.getD undef = x 2 := hb 20
    generalize x 2 = x20 at p20 e20
    have P20 := Lib.hid (show (fun v w => Ints w v [1, -1]) x20 w1 from p20)
    clear p20
    obtain ⟨A20, c20, e20b, -, -⟩ := id P20.out
    refine phi_call ?_ ((OfP_11 x20 w1 P20.out).mono fun e w' h => (by obtain ⟨v, he, hv, hb'⟩ := h; exact ⟨v, he, hb', hv⟩))
    clear hb hdep hold
    go_simp
  · intro x w1 bA hold hb
    refine ⟨fun _ _ hbel hdep => ?_, fun h => absurd h (by decide), fun h => absurd h (by decide)⟩
    have e18 : bA.tmps[18]?.getD undef = .agg #[.bool false, .slice A3 n3 c3] := (hb 18).trans (hdep 0 (by decide))
    have p19 := hdep 1 (by decide)
    have e19 : bA.tmps[19]?.getD undef = x 1 := hb 19
    generalize x 1 = x19 at p19 e19
    have P19 := Lib.hid (show (fun v w => PolyV w v (some [(1, 1)])) x19 w1 from p19)
    clear p19
    have p21 := hdep 3 (by decide)
    have e21 : bA.tmps[21]?.getD undef = x 3 := hb 21
    generalize x 3 = x21 at p21 e21
    have P21 := Lib.hid (show (fun v w => PolyV w v (some [(0, 1), (1, -1)])) x21 w1 from p21)
    clear p21
    refine phi_call ?_ ((aw_set (.agg #[.bool false, .slice A3 n3 c3]) x19 x21 w1 (HP3.out.below hbel) P19.out P21.out).mono fun e w' h => (by obtain ⟨A, n, c, he, hq, hb'⟩ := h; exact ⟨_, he, hb', A, n, c, rfl, hq⟩))
    clear hb hdep hold
    go_simp
  · intro x w1 bA hold hb
    refine ⟨fun _ _ hbel hdep => ?_, fun h => absurd h (by decide), fun h => absurd h (by decide)⟩
    have p22 := hdep 4 (by decide)
    have e22 : bA.tmps[22]?.getD undef = x 4 := hb 22
    generalize x 4 = x22 at p22 e22
    have P22 := Lib.hid (show (fun v w => ∃ A n c, v = .tuple #[.agg #[.bool false, .slice A n c], .int .i64 0] ∧ QL w (.agg #[.bool false, .slice A n c]) awS) x22 w1 from p22)
    clear p22
    refine phi_run (x22) ?_ (P22.out)
    clear hb hdep hold
    go_simp
  · intro x w1 bA hold hb
    refine ⟨fun _ _ hbel hdep => ?_, fun h => absurd h (by decide), fun h => absurd h (by decide)⟩
    have p17 := hdep 5 (by decide)
    have e17 : bA.tmps[17]?.getD undef = x 5 := hb 17
    generalize x 5 = x17 at p17 e17
    have P17 := Lib.hid (show (fun v w => ∃ A n c, v = .tuple #[.agg #[.bool false, .slice A n c], .int .i64 0] ∧ QL w (.agg #[.bool false, .slice A n c]) awS) x17 w1 from p17)
    clear p17
    obtain ⟨A17, n17, c17, e17b, hq17⟩ := P17.out
    have HQ17 := Lib.hid hq17
    subst e17b
    refine phi_run (.agg #[.bool false, .slice A17 n17 c17]) ?_ (⟨A17, n17, c17, rfl, HQ17.out⟩)
    clear hb hdep hold
    go_simp
  · intro x w1 bA hold hb
    refine ⟨fun h => absurd h (by decide), fun h => absurd h (by decide), fun _ hdep hlr => ⟨.int .i64 0, rfl, ?_, rfl⟩⟩
    have h17 : ∃ u, x 5 = .tuple #[u, .int .i64 0] := hlr.elim (fun h => by obtain ⟨_, _, _, _, _, _, _, _, _, u, hu⟩ := h; exact ⟨u, hu⟩) (fun h => by obtain ⟨A, n, c, h1, _⟩ := h.2 5 (by decide); exact ⟨_, h1⟩)
    obtain ⟨u, hu⟩ := h17
    have e17 : bA.tmps[17]?.getD undef = .tuple #[u, .int .i64 0] := (hb 17).trans hu
    clear hb hdep hold hlr
    go_simp
  · intro x w1 bA hold hb
    refine ⟨fun _ _ hbel hdep => ?_, fun h => absurd h (by decide), fun h => absurd h (by decide)⟩
    refine phi_make (.pointer (some ⟨w1.heap.size, 0, none⟩)) (w1.alloc (.cells #[.bool false, .slice none 0 0] 38)) ?_ ((Below.refl _ _).alloc (Nat.le_refl _) _) (⟨w1.heap.size, rfl, hbel.size, Arr.new w1 38 [.bool false, .slice none 0 0]⟩)
    clear hb hdep hold
    go_simp
  · intro x w1 bA hold hb
    refine ⟨fun _ h => absurd rfl h, fun _ hbel hdep hall => ?_, fun h => absurd h (by decide)⟩
    have p4 := hdep 8 (by decide)
    have e4 : bA.tmps[4]?.getD undef = x 8 := hb 4
    have P4 := Lib.hid (show (fun v w => ∃ g, v = .pointer (some ⟨g, 0, none⟩) ∧ w3.heap.size ≤ g ∧ Arr w g 38 [.bool false, .slice none 0 0]) (x 8) w1 from p4)
    clear p4
    have p23 := hdep 6 (by decide)
    have e23 : bA.tmps[23]?.getD undef = x 6 := hb 23
    have P23 := Lib.hid (show (fun v w => ∃ A n c, v = .agg #[.bool false, .slice A n c] ∧ QL w v awS) (x 6) w1 from p23)
    clear p23
    clear hb hdep hold
    have HX17 := Lib.hid (show ∃ u, x 5 = .tuple #[u, .int .i64 0] from by obtain ⟨A, n, c, h1, _⟩ := hall 5 (by decide) (by decide) (by decide); exact ⟨_, h1⟩)
    clear hall
    obtain ⟨g, e4b, hg, ag⟩ := P4.out
    obtain ⟨A23, n23, c23, e23b, hq23⟩ := P23.out
    rw [e4b] at e4
    rw [e23b] at e23
    have c0 := ag.cell 0
    have c1 := ag.cell 1
    have f0 := ag.frozen 0
    have f1 := ag.frozen 1
    have AG := Lib.hid ag
    have HX4 := Lib.hid e4b
    have HBL := Lib.hid hbel
    have HQ23 := Lib.hid (e23b ▸ hq23)
    clear ag e4b e23b hq23 P4 P23 hbel
    refine phl_st (R := fun x W => ∃ (g : Nat) (A : Option Addr) (n c : Nat), x 8 = .pointer (some ⟨g, 0, none⟩) ∧ w3.heap.size ≤ g ∧ Arr W g 38 [.bool false, .slice A n c] ∧ QL W (.agg #[.bool false, .slice A n c]) awS ∧ Below w3.heap.size w3 W ∧ ∃ u, x 5 = .tuple #[u, .int .i64 0]) ((w1.setCell ⟨g, 0, none⟩ (.bool false)).setCell ⟨g, 1, none⟩ (.slice A23 n23 c23)) ?_ rfl (fun v => ⟨g, A23, n23, c23, (by simpa [upd] using HX4.out), hg, (AG.out.set 0 _).set 1 _, HQ23.out.box AG.out _ _, (HBL.out.setCell (p := ⟨g, 0, none⟩) hg _).setCell (p := ⟨g, 1, none⟩) hg _, (by simpa [upd] using HX17.out)⟩) rfl
    go_simp
  · intro x w1 bA hold hb
    refine ⟨fun h => absurd h (by decide), fun h => absurd h (by decide), fun _ hdep hlr => ⟨.int .i64 0, rfl, ?_, rfl⟩⟩
    have e24 : bA.tmps[24]?.getD undef = .int .i64 0 := (hb 24).trans (hdep 7 (by decide) _ rfl)
    clear hb hdep hold
    go_simp
  intro x w1 hR hall
  have x0e : x 0 = .agg #[.bool false, .slice A3 n3 c3] := hall 0 _ (by simp) rfl
  have x7e : x 7 = .int .i64 0 := hall 7 _ (by simp) rfl
  have x10e : x 10 = .int .i64 0 := hall 10 _ (by simp) rfl
  simp only [putAll, dstOf, Act.put, List.map_cons, List.map_nil, List.setIfInBounds_toArray, List.set_cons_succ, List.set_cons_zero, Nat.reduceAdd, x0e, x7e, x10e]
  clear x0e x7e x10e hall
  obtain ⟨B4, A4, n4, c4, e8, hg4, q4, hq4, hb4, -⟩ := hR
  rw [e8]
  have Q3' := Lib.hid (Q3.out.below hb4 Q3.out.lt)
  have HP3' := Lib.hid (HP3.out.below hb4)
  have HB3' := Lib.hid (HB3.out.trans (hb4.mono HB3.out.size))
  have Q4 := Lib.hid q4
  have HQ4 := Lib.hid hq4
  clear Q3 HP3 HB3 q4 hq4 hb4 hg4 e8
  have Q3 := Lib.hid Q3'.out
  have HB3 := Lib.hid HB3'.out
  generalize w1 = w8 at *
  have HTX := Lib.hid (fun W (hb : Below w8.heap.size w8 W) => bText_any (.agg #[.bool false, .slice A3 n3 c3]) (some awP) [97] [122] W (HP3'.out.below hb) ⟨awP_can, awP_lim⟩ (by decide) (by decide) (by decide) (HTB.out.below (HB3'.out.trans (hb.mono HB3'.out.size))))
  rw [aw_text] at HTX
  have HEQ := Lib.hid awS_cf
  go_wp2_with fail
  refine wp_region_phy (fun a b => Below a.heap.size a b) (fun h k => h.trans (k.mono h.size)) ((Below.refl _ _).drew) (by kernel_rfl) (by kernel_rfl) (by kernel_rfl) (by kernel_rfl) (phiT (fun i => ([some (.agg #[.bool false, .slice A3 n3 c3]), some (.string ⟨#[45, 122, 94, 50, 43, 97, 94, 50]⟩), some (.bool true), some (.bool true), some (.int .i64 0), some (.bool true), some (.bool true), some (.bool true), some (.agg #[.bool false, .slice A4 n4 c4]), none, none, some (.bool true), some (.bool true), some (.bool true)] : List (Option Value)).getD i none) (fun i v w => (if i = 9 then (fun v w => Ints w v [-1, 2]) v w else (if i = 10 then (fun v w => QL w v [(0, -1), (1, 2)]) v w else True)))) (fun i v w w' h hb => ?_) ⟨?_, ?_, ?_, ?_, ?_, ?_, ?_, ?_, ?_, ?_, ?_, ?_, ?_, ?_, trivial⟩ ?_
  · unfold phiT at h ⊢
    split
    · next u hu => rw [hu] at h; exact h
    · next hu =>
      rw [hu] at h
      simp only at h ⊢
      by_cases q9 : i = 9
      · rw [if_pos q9] at h ⊢; exact Ints.below h hb
      · rw [if_neg q9] at h ⊢
        by_cases q10 : i = 10
        · rw [if_pos q10] at h ⊢; exact QL.below h hb
        · rw [if_neg q10] at h ⊢
          trivial
  · intro x w1 bA hT hdep hold hb
    refine .inl ⟨trivial, ?_⟩
    have e3 : bA.tmps[3]?.getD undef = .pointer (some ⟨B3, 0, none⟩) := hb 3
    have cc0 := (Q3.out.below hT Q3.out.lt).cell 0
    have cc1 := (Q3.out.below hT Q3.out.lt).cell 1
    refine phx_run (.agg #[.bool false, .slice A3 n3 c3]) ?_ (Below.refl _ _) rfl
    clear hb hdep hold
    go_simp
  · intro x w1 bA hT hdep hold hb
    refine .inl ⟨trivial, ?_⟩
    have e25 : bA.tmps[25]?.getD undef = .agg #[.bool false, .slice A3 n3 c3] := (hb 25).trans (hdep 0 (by decide))
    refine phx_call ?_ ((HTX.out w1 hT).mono fun e w' h => ⟨_, h.1, h.2, rfl⟩)
    clear hb hdep hold
    go_simp
  · intro x w1 bA hT hdep hold hb
    refine .inl ⟨trivial, ?_⟩
    have e26 : bA.tmps[26]?.getD undef = .string ⟨#[45, 122, 94, 50, 43, 97, 94, 50]⟩ := (hb 26).trans (hdep 1 (by decide))
    refine phx_run (.bool true) ?_ (Below.refl _ _) rfl
    clear hb hdep hold
    go_simp
  · intro x w1 bA hT hdep hold hb
    refine .inl ⟨trivial, ?_⟩
    have e27 : bA.tmps[27]?.getD undef = .bool true := (hb 27).trans (hdep 2 (by decide))
    refine phx_run (.bool true) ?_ (Below.refl _ _) rfl
    clear hb hdep hold
    go_simp
  · intro x w1 bA hT hdep hold hb
    refine .inl ⟨⟨28, rfl, (hb 28).trans (hdep 3 (by decide))⟩, ?_⟩
    have e5 : bA.tmps[5]?.getD undef = .int .i64 0 := hb 5
    refine phx_run (.int .i64 0) ?_ (Below.refl _ _) rfl
    clear hb hdep hold
    go_simp
  · intro x w1 bA hT hdep hold hb
    refine .inl ⟨⟨28, rfl, (hb 28).trans (hdep 3 (by decide))⟩, ?_⟩
    have e29 : bA.tmps[29]?.getD undef = .int .i64 0 := (hb 29).trans (hdep 4 (by decide))
    refine phx_run (.bool true) ?_ (Below.refl _ _) rfl
    clear hb hdep hold
    go_simp
  · intro x w1 bA hT hdep hold hb
    refine .inl ⟨trivial, ?_⟩
    have e28 : bA.tmps[28]?.getD undef = .bool true := (hb 28).trans (hdep 3 (by decide))
    have e30 : bA.tmps[30]?.getD undef = .bool true := (hb 30).trans (hdep 5 (by decide))
    refine phx_run (.bool true) ?_ (Below.refl _ _) rfl
    clear hb hdep hold
    go_simp
  · intro x w1 bA hT hdep hold hb
    refine .inl ⟨trivial, ?_⟩
    have e31 : bA.tmps[31]?.getD undef = .bool true := (hb 31).trans (hdep 6 (by decide))
    refine phx_run (.bool true) ?_ (Below.refl _ _) rfl
    clear hb hdep hold
    go_simp
  · intro x w1 bA hT hdep hold hb
    refine .inl ⟨⟨32, rfl, (hb 32).trans (hdep 7 (by decide))⟩, ?_⟩
    have e4 : bA.tmps[4]?.getD undef = .pointer (some ⟨B4, 0, none⟩) := hb 4
    have cc0 := (Q4.out.below hT Q4.out.lt).cell 0
    have cc1 := (Q4.out.below hT Q4.out.lt).cell 1
    refine phx_run (.agg #[.bool false, .slice A4 n4 c4]) ?_ (Below.refl _ _) rfl
    clear hb hdep hold
    go_simp
  · intro x w1 bA hT hdep hold hb
    refine .inl ⟨⟨32, rfl, (hb 32).trans (hdep 7 (by decide))⟩, ?_⟩
    refine phx_make (.slice (some ⟨w1.heap.size, 0, none⟩) 2 2) (w1.alloc (.cells #[.int .i64 (-1), .int .i64 2] 3)) ?_ ((Below.refl _ _).alloc (Nat.le_refl _) _) (Ints.of_arr (xs := [-1, 2]) (Arr.new w1 3 [.int .i64 (-1), .int .i64 2]))
    clear hb hdep hold
    go_simp
  · intro x w1 bA hT hdep hold hb
    refine .inl ⟨⟨32, rfl, (hb 32).trans (hdep 7 (by decide))⟩, ?_⟩
    have p34 := hdep 9 (by decide)
    have e34 : bA.tmps[34]?.getD undef = x 9 := hb 34
    generalize x 9 = x34 at *
    have P34 := Lib.hid (show (fun v w => Ints w v [-1, 2]) x34 w1 from p34)
    clear p34
    obtain ⟨A34, c34, e34b, -, -⟩ := id P34.out
    refine phx_call ?_ ((OfQ_m12 x34 w1 P34.out).mono fun e w' h => (by obtain ⟨v, he, hb', hv⟩ := h; exact ⟨v, he, hb', hv⟩))
    clear hb hdep hold
    go_simp
  · intro x w1 bA hT hdep hold hb
    refine .inl ⟨⟨32, rfl, (hb 32).trans (hdep 7 (by decide))⟩, ?_⟩
    have e33 : bA.tmps[33]?.getD undef = .agg #[.bool false, .slice A4 n4 c4] := (hb 33).trans (hdep 8 (by decide))
    have p35 := hdep 10 (by decide)
    have e35 : bA.tmps[35]?.getD undef = x 10 := hb 35
    generalize x 10 = x35 at *
    have P35 := Lib.hid (show (fun v w => QL w v [(0, -1), (1, 2)]) x35 w1 from p35)
    clear p35
    refine phx_call ?_ ((EqualQ _ x35 _ _ w1 (HQ4.out.below hT) P35.out HEQ.out).mono fun e w' h => ⟨_, h.1, h.2, rfl⟩)
    clear hb hdep hold
    go_simp
  · intro x w1 bA hT hdep hold hb
    refine .inl ⟨trivial, ?_⟩
    have e32 : bA.tmps[32]?.getD undef = .bool true := (hb 32).trans (hdep 7 (by decide))
    have e36 : bA.tmps[36]?.getD undef = .bool true := (hb 36).trans (hdep 11 (by decide))
    refine phx_run (.bool true) ?_ (Below.refl _ _) rfl
    clear hb hdep hold
    go_simp
  · intro x w1 bA hT hdep hold hb
    refine .inl ⟨trivial, ?_⟩
    have e37 : bA.tmps[37]?.getD undef = .bool true := (hb 37).trans (hdep 12 (by decide))
    refine phx_run (.bool true) ?_ (Below.refl _ _) rfl
    clear hb hdep hold
    go_simp
  intro x w1 hT hall
  have x0e : x 0 = .agg #[.bool false, .slice A3 n3 c3] := hall 0 (by decide)
  have x1e : x 1 = .string ⟨#[45, 122, 94, 50, 43, 97, 94, 50]⟩ := hall 1 (by decide)
  have x2e : x 2 = .bool true := hall 2 (by decide)
  have x3e : x 3 = .bool true := hall 3 (by decide)
  have x4e : x 4 = .int .i64 0 := hall 4 (by decide)
  have x5e : x 5 = .bool true := hall 5 (by decide)
  have x6e : x 6 = .bool true := hall 6 (by decide)
  have x7e : x 7 = .bool true := hall 7 (by decide)
  have x8e : x 8 = .agg #[.bool false, .slice A4 n4 c4] := hall 8 (by decide)
  have p34 := hall 9 (by decide)
  have p35 := hall 10 (by decide)
  have x11e : x 11 = .bool true := hall 11 (by decide)
  have x12e : x 12 = .bool true := hall 12 (by decide)
  have x13e : x 13 = .bool true := hall 13 (by decide)
  simp only [putAll, dstOf, Act.put, List.map_cons, List.map_nil, List.setIfInBounds_toArray, List.set_cons_succ, List.set_cons_zero, Nat.reduceAdd, x0e, x1e, x2e, x3e, x4e, x5e, x6e, x7e, x8e, x11e, x12e, x13e]
  clear x0e x1e x2e x3e x4e x5e x6e x7e x8e x11e x12e x13e hall
  have HBF := Lib.hid (HB3.out.trans (hT.mono HB3.out.size))
  clear hT p34 p35
  go_wp2_with fail
  go_ret
  exact ⟨rfl, HBF.out⟩
end Go.Proofs.YtbfggncmjdhapaaGreatDoor

namespace Go.Proofs.YtbfggncmjdhapaaGreatDoor
open Go.RowKit
set_option linter.unusedVariables false
theorem end_look {Q : Exit → Act → World → Prop} {ds : List (Option Tmp)} {x : Nat → Value} {a : Act} {w : World} (t k : Nat) {v : Value} (hd : apartD ds = true) (hn : inD a.tmps.size ds = true) (hk : ds.idxOf? (some t) = some k) (hv : x k = v)
    (h : ∀ T : Array Value, T[t]?.getD undef = v → Q .normal ⟨T, a.defers⟩ w) : Q .normal (putAll ds 0 x a) w := by
  have h1 := putAll_look ds 0 x a t hd hn
  rw [hk] at h1
  simp only [Nat.zero_add, Array.getD_eq_getD_getElem?] at h1
  have h2 : ∀ (ds : List (Option Tmp)) (i : Nat) (a : Act), (putAll ds i x a).defers = a.defers := by
    intro ds
    induction ds with
    | nil => intro i a; rfl
    | cons d ds ih => intro i a; rw [putAll, ih]; cases d <;> rfl
  have h3 := h2 ds 0 a
  revert h1 h3
  generalize putAll ds 0 x a = b
  intro h1 h3
  obtain ⟨T, D⟩ := b
  simp only at h1 h3
  subst h3
  exact h T (h1.trans hv)
end Go.Proofs.YtbfggncmjdhapaaGreatDoor
