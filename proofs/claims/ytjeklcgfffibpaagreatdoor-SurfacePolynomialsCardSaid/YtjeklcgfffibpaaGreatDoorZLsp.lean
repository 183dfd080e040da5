/- SurfacePolynomials: the law's walk. -/
import Derived.Test.YtjeklcgfffibpaaGreatDoorZSpa
namespace Go.Proofs.YtjeklcgfffibpaaGreatDoor
open Go.RowKit
set_option linter.unusedVariables false

set_option maxHeartbeats 8000000 in
set_option maxRecDepth 100000 in
theorem polys_law38 (v : Value) (a b c d : Int) (m : List (List Int)) (w : World) (wa : -32768 ≤ a ∧ a ≤ 32767) (wb : -32768 ≤ b ∧ b ≤ 32767) (wc : -32768 ≤ c ∧ c ≤ 32767) (wd : -32768 ≤ d ∧ d ≤ 32767) (h : MatI w v m) (hl : m.length ≤ 9223372036854775807) (hr : ∀ r ∈ m, r.length ≤ 9223372036854775807) (hz : ∀ r ∈ m, ∀ x ∈ r, -9223372036854775808 ≤ x ∧ x ≤ 9223372036854775807) (ht : Tb w) (ht6 : Tb6 w) :
    Calls Tryz.prog 4 #[.int .i16 a, .int .i16 b, .int .i16 c, .int .i16 d, v] w (LawT5 w) := by
  have HAW := Lib.hid (fun W (hb : Below w.heap.size w W) => awake38 W (ht.below hb) (ht6.below hb))
  have HT6 := Lib.hid (fun W (hb : Below w.heap.size w W) => ht6.below hb)
  have HM := Lib.hid (fun W (hb : Below w.heap.size w W) => h.below hb)
  have HR := Lib.hid hr
  obtain ⟨A, cq, rfl⟩ := h.form
  obtain ⟨n, hnn⟩ : ∃ n, n = m.length := ⟨_, rfl⟩
  rw [← hnn] at hl HM ⊢
  have HN := Lib.hid hnn
  have HMX := Lib.hid (run_max4 a b c d)
  have HMN := Lib.hid (run_min4 a b c d)
  have HMXE := Lib.hid (mx4_le (a := a) (b := b) (c := c) (d := d))
  have HMNE := Lib.hid (mn4_ge (a := a) (b := b) (c := c) (d := d))
  generalize mx4 a b c d = mx at *
  generalize mn4 a b c d = mn at *
  clear h hr hz ht ht6 hnn wa wb wc wd
  by_cases hbig : 12 < n
  · have z1 : decide ((12 : Int) < (n : Int)) = true := decide_eq_true (by omega)
    go_enter Tryz.func4, Tryz.ntmps4
    go_upto_region 2 with (go_at_call 7; refine (HAW.out w (Below.refl _ _)).mono ?_; rintro e w1 ⟨rfl, hb1⟩)
    have HB1 := Lib.hid hb1
    clear hb1
    go_wp2_with (go_at_call 7; refine (HAW.out w1 HB1.out).mono ?_; rintro e w2 ⟨rfl, hb2⟩)
    go_ret
    exact ⟨rfl, HB1.out.trans (hb2.mono HB1.out.size)⟩
  by_cases hmx : 500 < mx
  · have z1 : decide ((12 : Int) < (n : Int)) = false := decide_eq_false (by omega)
    have hrx := HMX.out
    clear HMX HMXE HMN HMNE
    go_enter Tryz.func4, Tryz.ntmps4
    go_upto_region 2 with (go_at_call 7; refine (HAW.out w (Below.refl _ _)).mono ?_; rintro e w1 ⟨rfl, hb1⟩)
    have HB1 := Lib.hid hb1
    clear hb1 hrx
    go_wp2_with (go_at_call 7; refine (HAW.out w1 HB1.out).mono ?_; rintro e w2 ⟨rfl, hb2⟩)
    go_ret
    exact ⟨rfl, HB1.out.trans (hb2.mono HB1.out.size)⟩
  by_cases hmn : mn < -500
  · have z1 : decide ((12 : Int) < (n : Int)) = false := decide_eq_false (by omega)
    have hrx := HMX.out
    have hrn := HMN.out
    clear HMX HMXE HMN HMNE
    go_enter Tryz.func4, Tryz.ntmps4
    go_upto_region 2 with (go_at_call 7; refine (HAW.out w (Below.refl _ _)).mono ?_; rintro e w1 ⟨rfl, hb1⟩)
    have HB1 := Lib.hid hb1
    clear hb1 hrx hrn
    go_wp2_with (go_at_call 7; refine (HAW.out w1 HB1.out).mono ?_; rintro e w2 ⟨rfl, hb2⟩)
    go_ret
    exact ⟨rfl, HB1.out.trans (hb2.mono HB1.out.size)⟩
  have z1 : decide ((12 : Int) < (n : Int)) = false := decide_eq_false (by omega)
  have hsa : Sm5 a := by have h1 := HMXE.out.1 (by omega); have h2 := HMNE.out.1 (by omega); unfold Sm5; omega
  have hsb : Sm5 b := by have h1 := HMXE.out.1 (by omega); have h2 := HMNE.out.1 (by omega); unfold Sm5; omega
  have hsc : Sm5 c := by have h1 := HMXE.out.1 (by omega); have h2 := HMNE.out.1 (by omega); unfold Sm5; omega
  have hsd : Sm5 d := by have h1 := HMXE.out.1 (by omega); have h2 := HMNE.out.1 (by omega); unfold Sm5; omega
  have HA := Lib.hid hsa
  have HB := Lib.hid hsb
  have HC := Lib.hid hsc
  have HD := Lib.hid hsd
  have hrx := HMX.out
  have hrn := HMN.out
  clear hsa hsb hsc hsd HMX HMXE HMN HMNE
  go_enter Tryz.func4, Tryz.ntmps4
  go_upto_region 3 with (go_at_call 7; refine (HAW.out w (Below.refl _ _)).mono ?_; rintro e w1 ⟨rfl, hb1⟩)
  have HB1 := Lib.hid hb1
  clear hb1 hrx hrn HAW hmx hmn z1
  have HL1 := Lib.hid (lim_ofL (cs := [a, -a]) (by simp) (by have := HA.out; unfold Sm5 at this; simp; omega))
  have HL2 := Lib.hid (lim_ofL (cs := cs2 a b c d) (by simp [cs2]) (cs2_bd HA.out HB.out HC.out HD.out))
  have ca : IntKind.i64.wrap a = a := IntWalk.i64_in _ (by have := HA.out; unfold Sm5 at this; omega)
  have cb : IntKind.i64.wrap b = b := IntWalk.i64_in _ (by have := HB.out; unfold Sm5 at this; omega)
  have cc : IntKind.i64.wrap c = c := IntWalk.i64_in _ (by have := HC.out; unfold Sm5 at this; omega)
  have cd : IntKind.i64.wrap d = d := IntWalk.i64_in _ (by have := HD.out; unfold Sm5 at this; omega)
  have na : IntKind.i64.wrap (-a) = -a := IntWalk.i64_in _ (by have := HA.out; unfold Sm5 at this; omega)
  have nb : IntKind.i64.wrap (-b) = -b := IntWalk.i64_in _ (by have := HB.out; unfold Sm5 at this; omega)
  have nc : IntKind.i64.wrap (-c) = -c := IntWalk.i64_in _ (by have := HC.out; unfold Sm5 at this; omega)
  have nd : IntKind.i64.wrap (-d) = -d := IntWalk.i64_in _ (by have := HD.out; unfold Sm5 at this; omega)
  have hal := ((Below.refl w1.heap.size w1).alloc (Nat.le_refl _) (.cells #[.int .i64 a] 3)).alloc (by simp) (.cells #[.slice (some ⟨w1.heap.size, 0, none⟩) 1 1] 22)
  have H1 := Lib.hid ((Alexander_any _ _ _ (mat11 a w1) (by simp) (by simp) (HT6.out _ (HB1.out.trans (hal.mono HB1.out.size)))).mono (fun e w' hd => alex_1 HA.out hd))
  have HC1 := Lib.hid hal
  clear hal
  go_wp2_with fail
  refine H1.out.mono ?_
  rintro e w2 ⟨v1, rfl, hp1, hb2⟩
  have HB2 := Lib.hid (HB1.out.trans ((HC1.out.trans (hb2.mono HC1.out.size)).mono HB1.out.size))
  obtain ⟨bp, Ap, np, cp, rfl, -, -⟩ := hp1.parts
  have hal := (Below.refl w2.heap.size w2).alloc (Nat.le_refl _) (.cells #[.bool bp, .slice Ap np cp] 39)
  have HQ1 := Lib.hid (show Arr (w2.alloc (.cells #[.bool bp, .slice Ap np cp] 39)) w2.heap.size 39 [.bool bp, .slice Ap np cp] from Arr.new w2 _ [_, _])
  have HP1 := Lib.hid (hp1.below hal)
  have HB3 := Lib.hid (HB2.out.trans (hal.mono HB2.out.size))
  clear hal hp1 hb2 H1 HC1 HB1 HB2
  go_upto_region 4 with fail
  generalize w2.alloc (.cells #[.bool bp, .slice Ap np cp] 39) = w3 at *
  generalize w2.heap.size = gp at *
  have hal := (((Below.refl w3.heap.size w3).alloc (Nat.le_refl _) (.cells #[.int .i64 a, .int .i64 b] 3)).alloc (by simp) (.cells #[.int .i64 c, .int .i64 d] 3)).alloc (by simp; omega) (.cells #[.slice (some ⟨w3.heap.size, 0, none⟩) 2 2, .slice (some ⟨w3.heap.size + 1, 0, none⟩) 2 2] 22)
  have H1 := Lib.hid ((Alexander_any _ _ _ (mat22 a b c d w3) (by simp) (by simp) (HT6.out _ (HB3.out.trans (hal.mono HB3.out.size)))).mono (fun e w' hd => alex_2 HA.out HB.out HC.out HD.out hd))
  have HC1 := Lib.hid hal
  clear hal
  go_wp2_with fail
  refine H1.out.mono ?_
  rintro e w4 ⟨v2, rfl, hp2, hb4⟩
  have hb34 := HC1.out.trans (hb4.mono HC1.out.size)
  have HB4 := Lib.hid (HB3.out.trans (hb34.mono HB3.out.size))
  obtain ⟨bq, Aq, nq, cz, rfl, -, -⟩ := hp2.parts
  have hal := (Below.refl w4.heap.size w4).alloc (Nat.le_refl _) (.cells #[.bool bq, .slice Aq nq cz] 39)
  have q1 := HQ1.out.below hb34 HQ1.out.lt
  have HQ1b := Lib.hid (q1.below hal q1.lt)
  have HP1b := Lib.hid ((HP1.out.below hb34).below hal)
  have HQ2 := Lib.hid (show Arr (w4.alloc (.cells #[.bool bq, .slice Aq nq cz] 39)) w4.heap.size 39 [.bool bq, .slice Aq nq cz] from Arr.new w4 _ [_, _])
  have HP2 := Lib.hid (hp2.below hal)
  have HB5 := Lib.hid (HB4.out.trans (hal.mono HB4.out.size))
  clear hal hp2 hb4 H1 HC1 HB3 HB4 q1 hb34 HQ1 HP1
  go_upto_region 5 with fail
  generalize w4.alloc (.cells #[.bool bq, .slice Aq nq cz] 39) = w5 at *
  generalize w4.heap.size = gq at *
  have hal := (Below.refl w5.heap.size w5).alloc (Nat.le_refl _) (.cells #[.int .i64 a, .int .i64 (-a)] 3)
  have H1 := Lib.hid (Of5 _ _ (Ints.of_arr (xs := [a, -a]) (Arr.new w5 3 [.int .i64 a, .int .i64 (-a)])) HA.out HA.out.neg)
  have HC1 := Lib.hid hal
  clear hal
  go_wp2_with fail
  refine H1.out.mono ?_
  rintro e w6 ⟨v3, rfl, hb6, hx⟩
  have hb56 := HC1.out.trans (hb6.mono HC1.out.size)
  obtain ⟨Ax, nx, cx, rfl⟩ := hx.form
  have hal := (Below.refl w6.heap.size w6).alloc (Nat.le_refl _) (.cells #[.bool false, .slice Ax nx cx] 39)
  have hb57 := hb56.trans (hal.mono hb56.size)
  have HQ1 := Lib.hid (HQ1b.out.below hb57 HQ1b.out.lt)
  have HP1 := Lib.hid (HP1b.out.below hb57)
  have HQ2b := Lib.hid (HQ2.out.below hb57 HQ2.out.lt)
  have HP2b := Lib.hid (HP2.out.below hb57)
  have HQ3 := Lib.hid (show Arr (w6.alloc (.cells #[.bool false, .slice Ax nx cx] 39)) w6.heap.size 39 [.bool false, .slice Ax nx cx] from Arr.new w6 _ [_, _])
  have HX := Lib.hid (hx.below hal)
  have HB7 := Lib.hid (HB5.out.trans (hb57.mono HB5.out.size))
  clear hal hx hb6 H1 HC1 HB5 hb56 hb57 HQ1b HP1b HQ2 HP2
  go_upto_region 6 with fail
  generalize w6.alloc (.cells #[.bool false, .slice Ax nx cx] 39) = w7 at *
  generalize w6.heap.size = gx at *
  refine wp_region_phx (fun a b => Below a.heap.size a b) (fun h k => h.trans (k.mono h.size)) ((Below.refl _ _).drew) 26 (by kernel_rfl) (by kernel_rfl) (by kernel_rfl) (by kernel_rfl) rfl (by kernel_rfl) (phiT (fun i => ([some (.agg #[.bool false, .slice Ax nx cx]), some (.int .i16 d), some (.int .i64 d), some (.int .i16 d), some (.int .i64 d), some (.int .i64 (-d)), none, none, none, some (.int .i16 b), some (.int .i64 b), some (.int .i16 c), some (.int .i64 c), some (.int .i64 (-c)), none, none, some (.int .i16 c), some (.int .i64 c), some (.int .i16 b), some (.int .i64 b), some (.int .i64 (-b)), none, none, none, none, none, some (undef)] : List (Option Value)).getD i none) (fun i v w => (if i = 6 then (fun v w => Ints w v [d, -d]) v w else (if i = 7 then (fun v w => QL w v [(0, d), (1, -d)]) v w else (if i = 8 then (fun v w => QL w v (prs [(0, a), (1, -a)] [(0, d), (1, -d)])) v w else (if i = 14 then (fun v w => Ints w v [b, -c]) v w else (if i = 15 then (fun v w => QL w v [(0, b), (1, -c)]) v w else (if i = 21 then (fun v w => Ints w v [c, -b]) v w else (if i = 22 then (fun v w => QL w v [(0, c), (1, -b)]) v w else (if i = 23 then (fun v w => QL w v (prs [(0, b), (1, -c)] [(0, c), (1, -b)])) v w else (if i = 24 then (fun v w => QL w v (yL a b c d)) v w else (if i = 25 then (fun v w => ∃ g, v = .pointer (some ⟨g, 0, none⟩) ∧ w7.heap.size ≤ g ∧ Arr w g 39 [.bool false, .slice none 0 0]) v w else True)))))))))))) (fun i v w w' h hb => ?_) (fun x W => ∃ (g : Nat) (A : Option Addr) (n c_ : Nat), x 25 = .pointer (some ⟨g, 0, none⟩) ∧ Arr W g 39 [.bool false, .slice A n c_] ∧ QL W (.agg #[.bool false, .slice A n c_]) (yL a b c d) ∧ Below w7.heap.size w7 W) ⟨?_, ?_, ?_, ?_, ?_, ?_, ?_, ?_, ?_, ?_, ?_, ?_, ?_, ?_, ?_, ?_, ?_, ?_, ?_, ?_, ?_, ?_, ?_, ?_, ?_, ?_, ?_, trivial⟩ ?_
  · unfold phiT at h ⊢
    split
    · next u hu => rw [hu] at h; exact h
    · next hu =>
      rw [hu] at h
      simp only at h ⊢
      by_cases q6 : i = 6
      · rw [if_pos q6] at h ⊢; exact Ints.below h hb
      · rw [if_neg q6] at h ⊢
        by_cases q7 : i = 7
        · rw [if_pos q7] at h ⊢; exact QL.below h hb
        · rw [if_neg q7] at h ⊢
          by_cases q8 : i = 8
          · rw [if_pos q8] at h ⊢; exact QL.below h hb
          · rw [if_neg q8] at h ⊢
            by_cases q14 : i = 14
            · rw [if_pos q14] at h ⊢; exact Ints.below h hb
            · rw [if_neg q14] at h ⊢
              by_cases q15 : i = 15
              · rw [if_pos q15] at h ⊢; exact QL.below h hb
              · rw [if_neg q15] at h ⊢
                by_cases q21 : i = 21
                · rw [if_pos q21] at h ⊢; exact Ints.below h hb
                · rw [if_neg q21] at h ⊢
                  by_cases q22 : i = 22
                  · rw [if_pos q22] at h ⊢; exact QL.below h hb
                  · rw [if_neg q22] at h ⊢
                    by_cases q23 : i = 23
                    · rw [if_pos q23] at h ⊢; exact QL.below h hb
                    · rw [if_neg q23] at h ⊢
                      by_cases q24 : i = 24
                      · rw [if_pos q24] at h ⊢; exact QL.below h hb
                      · rw [if_neg q24] at h ⊢
                        by_cases q25 : i = 25
                        · rw [if_pos q25] at h ⊢; exact (by obtain ⟨g, h1, h2, h3⟩ := h; exact ⟨g, h1, h2, h3.below hb h3.lt⟩)
                        · rw [if_neg q25] at h ⊢
                          trivial
  · intro x w1 bA hT hdep hold hb
    refine ⟨fun _ => ?_, fun h => absurd h (by decide)⟩
    refine .inl ⟨trivial, ?_⟩
    have e15 : bA.tmps[15]?.getD undef = .pointer (some ⟨gx, 0, none⟩) := hb 15
    have cc0 := (HQ3.out.below hT HQ3.out.lt).cell 0
    have cc1 := (HQ3.out.below hT HQ3.out.lt).cell 1
    refine phx_run (.agg #[.bool false, .slice Ax nx cx]) ?_ (Below.refl _ _) rfl
    clear hb hdep hold
    go_simp
  · intro x w1 bA hT hdep hold hb
    refine ⟨fun _ => ?_, fun h => absurd h (by decide)⟩
    refine .inl ⟨trivial, ?_⟩
    have e3 : bA.tmps[3]?.getD undef = .int .i16 d := hb 3
    refine phx_run (.int .i16 d) ?_ (Below.refl _ _) rfl
    clear hb hdep hold
    go_simp
  · intro x w1 bA hT hdep hold hb
    refine ⟨fun _ => ?_, fun h => absurd h (by decide)⟩
    refine .inl ⟨trivial, ?_⟩
    have e76 : bA.tmps[76]?.getD undef = .int .i16 d := (hb 76).trans (hdep 1 (by decide))
    refine phx_run (.int .i64 d) ?_ (Below.refl _ _) rfl
    clear hb hdep hold
    go_simp
  · intro x w1 bA hT hdep hold hb
    refine ⟨fun _ => ?_, fun h => absurd h (by decide)⟩
    refine .inl ⟨trivial, ?_⟩
    have e3 : bA.tmps[3]?.getD undef = .int .i16 d := hb 3
    refine phx_run (.int .i16 d) ?_ (Below.refl _ _) rfl
    clear hb hdep hold
    go_simp
  · intro x w1 bA hT hdep hold hb
    refine ⟨fun _ => ?_, fun h => absurd h (by decide)⟩
    refine .inl ⟨trivial, ?_⟩
    have e78 : bA.tmps[78]?.getD undef = .int .i16 d := (hb 78).trans (hdep 3 (by decide))
    refine phx_run (.int .i64 d) ?_ (Below.refl _ _) rfl
    clear hb hdep hold
    go_simp
  · intro x w1 bA hT hdep hold hb
    refine ⟨fun _ => ?_, fun h => absurd h (by decide)⟩
    refine .inl ⟨trivial, ?_⟩
    have e79 : bA.tmps[79]?.getD undef = .int .i64 d := (hb 79).trans (hdep 4 (by decide))
    refine phx_run (.int .i64 (-d)) ?_ (Below.refl _ _) rfl
    clear hb hdep hold
    go_simp
  · intro x w1 bA hT hdep hold hb
    refine ⟨fun _ => ?_, fun h => absurd h (by decide)⟩
    refine .inl ⟨trivial, ?_⟩
    have e77 : bA.tmps[77]?.getD undef = .int .i64 d := (hb 77).trans (hdep 2 (by decide))
    have e80 : bA.tmps[80]?.getD undef = .int .i64 (-d) := (hb 80).trans (hdep 5 (by decide))
    refine phx_make (.slice (some ⟨w1.heap.size, 0, none⟩) 2 2) (w1.alloc (.cells #[.int .i64 d, .int .i64 (-d)] 3)) ?_ ((Below.refl _ _).alloc (Nat.le_refl _) _) (Ints.of_arr (xs := [d, -d]) (Arr.new w1 3 [.int .i64 d, .int .i64 (-d)]))
    clear hb hdep hold
    go_simp
  · intro x w1 bA hT hdep hold hb
    refine ⟨fun _ => ?_, fun h => absurd h (by decide)⟩
    refine .inl ⟨trivial, ?_⟩
    have p81 := hdep 6 (by decide)
    have e81 : bA.tmps[81]?.getD undef = x 6 := hb 81
    generalize x 6 = x81 at *
    have P81 := Lib.hid (show (fun v w => Ints w v [d, -d]) x81 w1 from p81)
    clear p81
    refine phx_call ?_ ((Of5 x81 w1 P81.out HD.out HD.out.neg).mono fun e w' h => (by obtain ⟨v, he, hb', hv⟩ := h; exact ⟨v, he, hb', hv⟩))
    clear hb hdep hold
    go_simp
  · intro x w1 bA hT hdep hold hb
    refine ⟨fun _ => ?_, fun h => absurd h (by decide)⟩
    refine .inl ⟨trivial, ?_⟩
    have e75 : bA.tmps[75]?.getD undef = .agg #[.bool false, .slice Ax nx cx] := (hb 75).trans (hdep 0 (by decide))
    have p82 := hdep 7 (by decide)
    have e82 : bA.tmps[82]?.getD undef = x 7 := hb 82
    generalize x 7 = x82 at *
    have P82 := Lib.hid (show (fun v w => QL w v [(0, d), (1, -d)]) x82 w1 from p82)
    clear p82
    refine phx_call ?_ ((Mul5 HA.out HA.out.neg HD.out HD.out.neg (.agg #[.bool false, .slice Ax nx cx]) x82 w1 (HX.out.below hT) P82.out).mono fun e w' h => (by obtain ⟨v, he, hb', hv⟩ := h; exact ⟨v, he, hb', hv⟩))
    clear hb hdep hold
    go_simp
  · intro x w1 bA hT hdep hold hb
    refine ⟨fun _ => ?_, fun h => absurd h (by decide)⟩
    refine .inl ⟨trivial, ?_⟩
    have e1 : bA.tmps[1]?.getD undef = .int .i16 b := hb 1
    refine phx_run (.int .i16 b) ?_ (Below.refl _ _) rfl
    clear hb hdep hold
    go_simp
  · intro x w1 bA hT hdep hold hb
    refine ⟨fun _ => ?_, fun h => absurd h (by decide)⟩
    refine .inl ⟨trivial, ?_⟩
    have e84 : bA.tmps[84]?.getD undef = .int .i16 b := (hb 84).trans (hdep 9 (by decide))
    refine phx_run (.int .i64 b) ?_ (Below.refl _ _) rfl
    clear hb hdep hold
    go_simp
  · intro x w1 bA hT hdep hold hb
    refine ⟨fun _ => ?_, fun h => absurd h (by decide)⟩
    refine .inl ⟨trivial, ?_⟩
    have e2 : bA.tmps[2]?.getD undef = .int .i16 c := hb 2
    refine phx_run (.int .i16 c) ?_ (Below.refl _ _) rfl
    clear hb hdep hold
    go_simp
  · intro x w1 bA hT hdep hold hb
    refine ⟨fun _ => ?_, fun h => absurd h (by decide)⟩
    refine .inl ⟨trivial, ?_⟩
    have e86 : bA.tmps[86]?.getD undef = .int .i16 c := (hb 86).trans (hdep 11 (by decide))
    refine phx_run (.int .i64 c) ?_ (Below.refl _ _) rfl
    clear hb hdep hold
    go_simp
  · intro x w1 bA hT hdep hold hb
    refine ⟨fun _ => ?_, fun h => absurd h (by decide)⟩
    refine .inl ⟨trivial, ?_⟩
    have e87 : bA.tmps[87]?.getD undef = .int .i64 c := (hb 87).trans (hdep 12 (by decide))
    refine phx_run (.int .i64 (-c)) ?_ (Below.refl _ _) rfl
    clear hb hdep hold
    go_simp
  · intro x w1 bA hT hdep hold hb
    refine ⟨fun _ => ?_, fun h => absurd h (by decide)⟩
    refine .inl ⟨trivial, ?_⟩
    have e85 : bA.tmps[85]?.getD undef = .int .i64 b := (hb 85).trans (hdep 10 (by decide))
    have e88 : bA.tmps[88]?.getD undef = .int .i64 (-c) := (hb 88).trans (hdep 13 (by decide))
    refine phx_make (.slice (some ⟨w1.heap.size, 0, none⟩) 2 2) (w1.alloc (.cells #[.int .i64 b, .int .i64 (-c)] 3)) ?_ ((Below.refl _ _).alloc (Nat.le_refl _) _) (Ints.of_arr (xs := [b, -c]) (Arr.new w1 3 [.int .i64 b, .int .i64 (-c)]))
    clear hb hdep hold
    go_simp
  · intro x w1 bA hT hdep hold hb
    refine ⟨fun _ => ?_, fun h => absurd h (by decide)⟩
    refine .inl ⟨trivial, ?_⟩
    have p89 := hdep 14 (by decide)
    have e89 : bA.tmps[89]?.getD undef = x 14 := hb 89
    generalize x 14 = x89 at *
    have P89 := Lib.hid (show (fun v w => Ints w v [b, -c]) x89 w1 from p89)
    clear p89
    refine phx_call ?_ ((Of5 x89 w1 P89.out HB.out HC.out.neg).mono fun e w' h => (by obtain ⟨v, he, hb', hv⟩ := h; exact ⟨v, he, hb', hv⟩))
    clear hb hdep hold
    go_simp
  · intro x w1 bA hT hdep hold hb
    refine ⟨fun _ => ?_, fun h => absurd h (by decide)⟩
    refine .inl ⟨trivial, ?_⟩
    have e2 : bA.tmps[2]?.getD undef = .int .i16 c := hb 2
    refine phx_run (.int .i16 c) ?_ (Below.refl _ _) rfl
    clear hb hdep hold
    go_simp
  · intro x w1 bA hT hdep hold hb
    refine ⟨fun _ => ?_, fun h => absurd h (by decide)⟩
    refine .inl ⟨trivial, ?_⟩
    have e91 : bA.tmps[91]?.getD undef = .int .i16 c := (hb 91).trans (hdep 16 (by decide))
    refine phx_run (.int .i64 c) ?_ (Below.refl _ _) rfl
    clear hb hdep hold
    go_simp
  · intro x w1 bA hT hdep hold hb
    refine ⟨fun _ => ?_, fun h => absurd h (by decide)⟩
    refine .inl ⟨trivial, ?_⟩
    have e1 : bA.tmps[1]?.getD undef = .int .i16 b := hb 1
    refine phx_run (.int .i16 b) ?_ (Below.refl _ _) rfl
    clear hb hdep hold
    go_simp
  · intro x w1 bA hT hdep hold hb
    refine ⟨fun _ => ?_, fun h => absurd h (by decide)⟩
    refine .inl ⟨trivial, ?_⟩
    have e93 : bA.tmps[93]?.getD undef = .int .i16 b := (hb 93).trans (hdep 18 (by decide))
    refine phx_run (.int .i64 b) ?_ (Below.refl _ _) rfl
    clear hb hdep hold
    go_simp
  · intro x w1 bA hT hdep hold hb
    refine ⟨fun _ => ?_, fun h => absurd h (by decide)⟩
    refine .inl ⟨trivial, ?_⟩
    have e94 : bA.tmps[94]?.getD undef = .int .i64 b := (hb 94).trans (hdep 19 (by decide))
    refine phx_run (.int .i64 (-b)) ?_ (Below.refl _ _) rfl
    clear hb hdep hold
    go_simp
  · intro x w1 bA hT hdep hold hb
    refine ⟨fun _ => ?_, fun h => absurd h (by decide)⟩
    refine .inl ⟨trivial, ?_⟩
    have e92 : bA.tmps[92]?.getD undef = .int .i64 c := (hb 92).trans (hdep 17 (by decide))
    have e95 : bA.tmps[95]?.getD undef = .int .i64 (-b) := (hb 95).trans (hdep 20 (by decide))
    refine phx_make (.slice (some ⟨w1.heap.size, 0, none⟩) 2 2) (w1.alloc (.cells #[.int .i64 c, .int .i64 (-b)] 3)) ?_ ((Below.refl _ _).alloc (Nat.le_refl _) _) (Ints.of_arr (xs := [c, -b]) (Arr.new w1 3 [.int .i64 c, .int .i64 (-b)]))
    clear hb hdep hold
    go_simp
  · intro x w1 bA hT hdep hold hb
    refine ⟨fun _ => ?_, fun h => absurd h (by decide)⟩
    refine .inl ⟨trivial, ?_⟩
    have p96 := hdep 21 (by decide)
    have e96 : bA.tmps[96]?.getD undef = x 21 := hb 96
    generalize x 21 = x96 at *
    have P96 := Lib.hid (show (fun v w => Ints w v [c, -b]) x96 w1 from p96)
    clear p96
    refine phx_call ?_ ((Of5 x96 w1 P96.out HC.out HB.out.neg).mono fun e w' h => (by obtain ⟨v, he, hb', hv⟩ := h; exact ⟨v, he, hb', hv⟩))
    clear hb hdep hold
    go_simp
  · intro x w1 bA hT hdep hold hb
    refine ⟨fun _ => ?_, fun h => absurd h (by decide)⟩
    refine .inl ⟨trivial, ?_⟩
    have p90 := hdep 15 (by decide)
    have e90 : bA.tmps[90]?.getD undef = x 15 := hb 90
    generalize x 15 = x90 at *
    have P90 := Lib.hid (show (fun v w => QL w v [(0, b), (1, -c)]) x90 w1 from p90)
    clear p90
    have p97 := hdep 22 (by decide)
    have e97 : bA.tmps[97]?.getD undef = x 22 := hb 97
    generalize x 22 = x97 at *
    have P97 := Lib.hid (show (fun v w => QL w v [(0, c), (1, -b)]) x97 w1 from p97)
    clear p97
    refine phx_call ?_ ((Mul5 HB.out HC.out.neg HC.out HB.out.neg x90 x97 w1 P90.out P97.out).mono fun e w' h => (by obtain ⟨v, he, hb', hv⟩ := h; exact ⟨v, he, hb', hv⟩))
    clear hb hdep hold
    go_simp
  · intro x w1 bA hT hdep hold hb
    refine ⟨fun _ => ?_, fun h => absurd h (by decide)⟩
    refine .inl ⟨trivial, ?_⟩
    have p83 := hdep 8 (by decide)
    have e83 : bA.tmps[83]?.getD undef = x 8 := hb 83
    generalize x 8 = x83 at *
    have P83 := Lib.hid (show (fun v w => QL w v (prs [(0, a), (1, -a)] [(0, d), (1, -d)])) x83 w1 from p83)
    clear p83
    have p98 := hdep 23 (by decide)
    have e98 : bA.tmps[98]?.getD undef = x 23 := hb 98
    generalize x 23 = x98 at *
    have P98 := Lib.hid (show (fun v w => QL w v (prs [(0, b), (1, -c)] [(0, c), (1, -b)])) x98 w1 from p98)
    clear p98
    refine phx_call ?_ ((Sub5 HA.out HB.out HC.out HD.out x83 x98 w1 P83.out P98.out).mono fun e w' h => (by obtain ⟨v, he, hb', hv⟩ := h; exact ⟨v, he, hb', hv⟩))
    clear hb hdep hold
    go_simp
  · intro x w1 bA hT hdep hold hb
    refine ⟨fun _ => ?_, fun h => absurd h (by decide)⟩
    refine .inl ⟨trivial, ?_⟩
    refine phx_make (.pointer (some ⟨w1.heap.size, 0, none⟩)) (w1.alloc (.cells #[.bool false, .slice none 0 0] 39)) ?_ ((Below.refl _ _).alloc (Nat.le_refl _) _) (⟨w1.heap.size, rfl, hT.size, Arr.new w1 39 [.bool false, .slice none 0 0]⟩)
    clear hb hdep hold
    go_simp
  · intro x w1 bA hT hdep hold hb
    refine ⟨fun h => absurd h (by decide), fun _ hall => ?_⟩
    refine ⟨trivial, ?_⟩
    have e16 : bA.tmps[16]?.getD undef = x 25 := hb 16
    have e99 : bA.tmps[99]?.getD undef = x 24 := hb 99
    have p81 := Lib.hid (show (fun v w => Ints w v [d, -d]) (x 6) w1 from hall 6 (by decide))
    have p82 := Lib.hid (show (fun v w => QL w v [(0, d), (1, -d)]) (x 7) w1 from hall 7 (by decide))
    have p83 := Lib.hid (show (fun v w => QL w v (prs [(0, a), (1, -a)] [(0, d), (1, -d)])) (x 8) w1 from hall 8 (by decide))
    have p89 := Lib.hid (show (fun v w => Ints w v [b, -c]) (x 14) w1 from hall 14 (by decide))
    have p90 := Lib.hid (show (fun v w => QL w v [(0, b), (1, -c)]) (x 15) w1 from hall 15 (by decide))
    have p96 := Lib.hid (show (fun v w => Ints w v [c, -b]) (x 21) w1 from hall 21 (by decide))
    have p97 := Lib.hid (show (fun v w => QL w v [(0, c), (1, -b)]) (x 22) w1 from hall 22 (by decide))
    have p98 := Lib.hid (show (fun v w => QL w v (prs [(0, b), (1, -c)] [(0, c), (1, -b)])) (x 23) w1 from hall 23 (by decide))
    have p99 := Lib.hid (show (fun v w => QL w v (yL a b c d)) (x 24) w1 from hall 24 (by decide))
    have p16 := Lib.hid (show (fun v w => ∃ g, v = .pointer (some ⟨g, 0, none⟩) ∧ w7.heap.size ≤ g ∧ Arr w g 39 [.bool false, .slice none 0 0]) (x 25) w1 from hall 25 (by decide))
    clear hb hdep hold
    obtain ⟨g, e16b, hg, ag⟩ := p16.out
    obtain ⟨Az, nz, cz2, e99b⟩ := QL.form p99.out
    have HPV := Lib.hid (e99b ▸ p99.out)
    rw [e16b] at e16
    rw [e99b] at e99
    have Q5b := Lib.hid ag
    have f0 := ag.frozen 0
    have f1 := ag.frozen 1
    have c0 := ag.cell 0
    have c1 := ag.cell 1
    have HBL := Lib.hid hT
    have HX16 := Lib.hid e16b
    have HG := Lib.hid hg
    clear ag e16b e99b p16 p99 p81 p82 p83 p89 p90 p96 p97 p98 hT hg hall
    refine phx_st (R := fun W => ∃ (g : Nat) (A : Option Addr) (n c_ : Nat), x 25 = .pointer (some ⟨g, 0, none⟩) ∧ Arr W g 39 [.bool false, .slice A n c_] ∧ QL W (.agg #[.bool false, .slice A n c_]) (yL a b c d) ∧ Below w7.heap.size w7 W) ((w1.setCell ⟨g, 0, none⟩ (.bool false)).setCell ⟨g, 1, none⟩ (.slice Az nz cz2)) ?_ ?_ ?_
    · go_simp
    · rfl
    · exact ⟨g, Az, nz, cz2, HX16.out, (Q5b.out.set 0 _).set 1 _, QL.box HPV.out Q5b.out _ _, (HBL.out.setCell (p := ⟨g, 0, none⟩) HG.out _).setCell (p := ⟨g, 1, none⟩) HG.out _⟩
  intro x9 w8 hR
  obtain ⟨gy, Ay, ny, cy, e25, ay, hy, hb8⟩ := hR
  simp only [putAll, dstOf, Act.put, List.map_cons, List.map_nil, List.setIfInBounds_toArray, List.set_cons_succ, List.set_cons_zero, Nat.reduceAdd, e25]
  have HQP := Lib.hid (HQ1.out.below hb8 HQ1.out.lt)
  have HPP := Lib.hid (HP1.out.below hb8)
  have HQQ := Lib.hid (HQ2b.out.below hb8 HQ2b.out.lt)
  have HPQ := Lib.hid (HP2b.out.below hb8)
  have HQX := Lib.hid (HQ3.out.below hb8 HQ3.out.lt)
  have HXX := Lib.hid (HX.out.below hb8)
  have HQY := Lib.hid ay
  have HYY := Lib.hid hy
  have HB8 := Lib.hid (HB7.out.trans (hb8.mono HB7.out.size))
  clear e25 ay hy hb8 HQ1 HP1 HQ2b HP2b HQ3 HX HB7
  go_upto_region 7 with fail
  refine wp_region_phy (fun a b => Below a.heap.size a b) (fun h k => h.trans (k.mono h.size)) ((Below.refl _ _).drew) (by kernel_rfl) (by kernel_rfl) (by kernel_rfl) (by kernel_rfl) (phiT (fun i => ([some (.int .i64 0), some (.bool false), some (.bool false), some (.int .i64 0), some (.bool false), some (.bool false), some (.bool false), some (.agg #[.bool bp, .slice Ap np cp]), some (.agg #[.bool false, .slice Ax nx cx]), none, some (.bool true), some (.bool false), some (.bool false), some (.bool false), some (.agg #[.bool bq, .slice Aq nq cz]), some (.agg #[.bool false, .slice Ay ny cy]), none, some (.bool true), some (.bool false), some (.bool false)] : List (Option Value)).getD i none) (fun i v w => (if i = 9 then (fun v w => PolyV w v (norP (some (ofL 0 [a, -a])))) v w else (if i = 16 then (fun v w => PolyV w v (norP (some (ofL 0 (cs2 a b c d))))) v w else True)))) (fun i v w w' h hb => ?_) ⟨?_, ?_, ?_, ?_, ?_, ?_, ?_, ?_, ?_, ?_, ?_, ?_, ?_, ?_, ?_, ?_, ?_, ?_, ?_, ?_, trivial⟩ ?_
  · unfold phiT at h ⊢
    split
    · next u hu => rw [hu] at h; exact h
    · next hu =>
      rw [hu] at h
      simp only at h ⊢
      by_cases q9 : i = 9
      · rw [if_pos q9] at h ⊢; exact PolyV.below h hb
      · rw [if_neg q9] at h ⊢
        by_cases q16 : i = 16
        · rw [if_pos q16] at h ⊢; exact PolyV.below h hb
        · rw [if_neg q16] at h ⊢
          trivial
  · intro x w1 bA hT hdep hold hb
    refine .inl ⟨trivial, ?_⟩
    have e12 : bA.tmps[12]?.getD undef = .int .i64 0 := hb 12
    refine phx_run (.int .i64 0) ?_ (Below.refl _ _) rfl
    clear hb hdep hold
    go_simp
  · intro x w1 bA hT hdep hold hb
    refine .inl ⟨trivial, ?_⟩
    have e100 : bA.tmps[100]?.getD undef = .int .i64 0 := (hb 100).trans (hdep 0 (by decide))
    refine phx_run (.bool false) ?_ (Below.refl _ _) rfl
    clear hb hdep hold
    go_simp
  · intro x w1 bA hT hdep hold hb
    refine .inl ⟨trivial, ?_⟩
    have e101 : bA.tmps[101]?.getD undef = .bool false := (hb 101).trans (hdep 1 (by decide))
    refine phx_run (.bool false) ?_ (Below.refl _ _) rfl
    clear hb hdep hold
    go_simp
  · intro x w1 bA hT hdep hold hb
    refine .inl ⟨⟨102, rfl, (hb 102).trans (hdep 2 (by decide))⟩, ?_⟩
    have e14 : bA.tmps[14]?.getD undef = .int .i64 0 := hb 14
    refine phx_run (.int .i64 0) ?_ (Below.refl _ _) rfl
    clear hb hdep hold
    go_simp
  · intro x w1 bA hT hdep hold hb
    refine .inl ⟨⟨102, rfl, (hb 102).trans (hdep 2 (by decide))⟩, ?_⟩
    have e103 : bA.tmps[103]?.getD undef = .int .i64 0 := (hb 103).trans (hdep 3 (by decide))
    refine phx_run (.bool false) ?_ (Below.refl _ _) rfl
    clear hb hdep hold
    go_simp
  · intro x w1 bA hT hdep hold hb
    refine .inl ⟨trivial, ?_⟩
    have e102 : bA.tmps[102]?.getD undef = .bool false := (hb 102).trans (hdep 2 (by decide))
    have e104 : bA.tmps[104]?.getD undef = .bool false := (hb 104).trans (hdep 4 (by decide))
    refine phx_run (.bool false) ?_ (Below.refl _ _) rfl
    clear hb hdep hold
    go_simp
  · intro x w1 bA hT hdep hold hb
    refine .inl ⟨trivial, ?_⟩
    have e105 : bA.tmps[105]?.getD undef = .bool false := (hb 105).trans (hdep 5 (by decide))
    refine phx_run (.bool false) ?_ (Below.refl _ _) rfl
    clear hb hdep hold
    go_simp
  · intro x w1 bA hT hdep hold hb
    refine .inl ⟨⟨106, rfl, (hb 106).trans (hdep 6 (by decide))⟩, ?_⟩
    have e11 : bA.tmps[11]?.getD undef = .pointer (some ⟨gp, 0, none⟩) := hb 11
    have cc0 := (HQP.out.below hT HQP.out.lt).cell 0
    have cc1 := (HQP.out.below hT HQP.out.lt).cell 1
    refine phx_run (.agg #[.bool bp, .slice Ap np cp]) ?_ (Below.refl _ _) rfl
    clear hb hdep hold
    go_simp
  · intro x w1 bA hT hdep hold hb
    refine .inl ⟨⟨106, rfl, (hb 106).trans (hdep 6 (by decide))⟩, ?_⟩
    have e15 : bA.tmps[15]?.getD undef = .pointer (some ⟨gx, 0, none⟩) := hb 15
    have cc0 := (HQX.out.below hT HQX.out.lt).cell 0
    have cc1 := (HQX.out.below hT HQX.out.lt).cell 1
    refine phx_run (.agg #[.bool false, .slice Ax nx cx]) ?_ (Below.refl _ _) rfl
    clear hb hdep hold
    go_simp
  · intro x w1 bA hT hdep hold hb
    refine .inl ⟨⟨106, rfl, (hb 106).trans (hdep 6 (by decide))⟩, ?_⟩
    have e108 : bA.tmps[108]?.getD undef = .agg #[.bool false, .slice Ax nx cx] := (hb 108).trans (hdep 8 (by decide))
    refine phx_call ?_ ((NormQ (.agg #[.bool false, .slice Ax nx cx]) _ (ofL 0 [a, -a]) w1 (HXX.out.below hT) (ofL_can _ _) HL1.out (cf_2L a (-a))).mono fun e w' h => (by obtain ⟨v, he, hv, hb'⟩ := h; exact ⟨v, he, hb', hv⟩))
    clear hb hdep hold
    go_simp
  · intro x w1 bA hT hdep hold hb
    refine .inl ⟨⟨106, rfl, (hb 106).trans (hdep 6 (by decide))⟩, ?_⟩
    have e107 : bA.tmps[107]?.getD undef = .agg #[.bool bp, .slice Ap np cp] := (hb 107).trans (hdep 7 (by decide))
    have p109 := hdep 9 (by decide)
    have e109 : bA.tmps[109]?.getD undef = x 9 := hb 109
    generalize x 9 = x109 at *
    have P109 := Lib.hid (show (fun v w => PolyV w v (norP (some (ofL 0 [a, -a])))) x109 w1 from p109)
    clear p109
    refine phx_call ?_ ((EqN (.agg #[.bool bp, .slice Ap np cp]) x109 _ w1 (HPP.out.below hT) P109.out (ofL_can _ _) HL1.out).mono fun e w' h => ⟨_, h.1, h.2, rfl⟩)
    clear hb hdep hold
    go_simp
  · intro x w1 bA hT hdep hold hb
    refine .inl ⟨⟨106, rfl, (hb 106).trans (hdep 6 (by decide))⟩, ?_⟩
    have e110 : bA.tmps[110]?.getD undef = .bool true := (hb 110).trans (hdep 10 (by decide))
    refine phx_run (.bool false) ?_ (Below.refl _ _) rfl
    clear hb hdep hold
    go_simp
  · intro x w1 bA hT hdep hold hb
    refine .inl ⟨trivial, ?_⟩
    have e106 : bA.tmps[106]?.getD undef = .bool false := (hb 106).trans (hdep 6 (by decide))
    have e111 : bA.tmps[111]?.getD undef = .bool false := (hb 111).trans (hdep 11 (by decide))
    refine phx_run (.bool false) ?_ (Below.refl _ _) rfl
    clear hb hdep hold
    go_simp
  · intro x w1 bA hT hdep hold hb
    refine .inl ⟨trivial, ?_⟩
    have e112 : bA.tmps[112]?.getD undef = .bool false := (hb 112).trans (hdep 12 (by decide))
    refine phx_run (.bool false) ?_ (Below.refl _ _) rfl
    clear hb hdep hold
    go_simp
  · intro x w1 bA hT hdep hold hb
    refine .inl ⟨⟨113, rfl, (hb 113).trans (hdep 13 (by decide))⟩, ?_⟩
    have e13 : bA.tmps[13]?.getD undef = .pointer (some ⟨gq, 0, none⟩) := hb 13
    have cc0 := (HQQ.out.below hT HQQ.out.lt).cell 0
    have cc1 := (HQQ.out.below hT HQQ.out.lt).cell 1
    refine phx_run (.agg #[.bool bq, .slice Aq nq cz]) ?_ (Below.refl _ _) rfl
    clear hb hdep hold
    go_simp
  · intro x w1 bA hT hdep hold hb
    refine .inl ⟨⟨113, rfl, (hb 113).trans (hdep 13 (by decide))⟩, ?_⟩
    have e16 : bA.tmps[16]?.getD undef = .pointer (some ⟨gy, 0, none⟩) := hb 16
    have cc0 := (HQY.out.below hT HQY.out.lt).cell 0
    have cc1 := (HQY.out.below hT HQY.out.lt).cell 1
    refine phx_run (.agg #[.bool false, .slice Ay ny cy]) ?_ (Below.refl _ _) rfl
    clear hb hdep hold
    go_simp
  · intro x w1 bA hT hdep hold hb
    refine .inl ⟨⟨113, rfl, (hb 113).trans (hdep 13 (by decide))⟩, ?_⟩
    have e115 : bA.tmps[115]?.getD undef = .agg #[.bool false, .slice Ay ny cy] := (hb 115).trans (hdep 15 (by decide))
    refine phx_call ?_ ((NormQ (.agg #[.bool false, .slice Ay ny cy]) _ (ofL 0 (cs2 a b c d)) w1 (HYY.out.below hT) (ofL_can _ _) HL2.out (y_cf a b c d)).mono fun e w' h => (by obtain ⟨v, he, hv, hb'⟩ := h; exact ⟨v, he, hb', hv⟩))
    clear hb hdep hold
    go_simp
  · intro x w1 bA hT hdep hold hb
    refine .inl ⟨⟨113, rfl, (hb 113).trans (hdep 13 (by decide))⟩, ?_⟩
    have e114 : bA.tmps[114]?.getD undef = .agg #[.bool bq, .slice Aq nq cz] := (hb 114).trans (hdep 14 (by decide))
    have p116 := hdep 16 (by decide)
    have e116 : bA.tmps[116]?.getD undef = x 16 := hb 116
    generalize x 16 = x116 at *
    have P116 := Lib.hid (show (fun v w => PolyV w v (norP (some (ofL 0 (cs2 a b c d))))) x116 w1 from p116)
    clear p116
    refine phx_call ?_ ((EqN (.agg #[.bool bq, .slice Aq nq cz]) x116 _ w1 (HPQ.out.below hT) P116.out (ofL_can _ _) HL2.out).mono fun e w' h => ⟨_, h.1, h.2, rfl⟩)
    clear hb hdep hold
    go_simp
  · intro x w1 bA hT hdep hold hb
    refine .inl ⟨⟨113, rfl, (hb 113).trans (hdep 13 (by decide))⟩, ?_⟩
    have e117 : bA.tmps[117]?.getD undef = .bool true := (hb 117).trans (hdep 17 (by decide))
    refine phx_run (.bool false) ?_ (Below.refl _ _) rfl
    clear hb hdep hold
    go_simp
  · intro x w1 bA hT hdep hold hb
    refine .inl ⟨trivial, ?_⟩
    have e113 : bA.tmps[113]?.getD undef = .bool false := (hb 113).trans (hdep 13 (by decide))
    have e118 : bA.tmps[118]?.getD undef = .bool false := (hb 118).trans (hdep 18 (by decide))
    refine phx_run (.bool false) ?_ (Below.refl _ _) rfl
    clear hb hdep hold
    go_simp
  intro x w1 hT hall
  have x0e : x 0 = .int .i64 0 := hall 0 (by decide)
  have x1e : x 1 = .bool false := hall 1 (by decide)
  have x2e : x 2 = .bool false := hall 2 (by decide)
  have x3e : x 3 = .int .i64 0 := hall 3 (by decide)
  have x4e : x 4 = .bool false := hall 4 (by decide)
  have x5e : x 5 = .bool false := hall 5 (by decide)
  have x6e : x 6 = .bool false := hall 6 (by decide)
  have x7e : x 7 = .agg #[.bool bp, .slice Ap np cp] := hall 7 (by decide)
  have x8e : x 8 = .agg #[.bool false, .slice Ax nx cx] := hall 8 (by decide)
  have p109 := hall 9 (by decide)
  have x10e : x 10 = .bool true := hall 10 (by decide)
  have x11e : x 11 = .bool false := hall 11 (by decide)
  have x12e : x 12 = .bool false := hall 12 (by decide)
  have x13e : x 13 = .bool false := hall 13 (by decide)
  have x14e : x 14 = .agg #[.bool bq, .slice Aq nq cz] := hall 14 (by decide)
  have x15e : x 15 = .agg #[.bool false, .slice Ay ny cy] := hall 15 (by decide)
  have p116 := hall 16 (by decide)
  have x17e : x 17 = .bool true := hall 17 (by decide)
  have x18e : x 18 = .bool false := hall 18 (by decide)
  have x19e : x 19 = .bool false := hall 19 (by decide)
  simp only [putAll, dstOf, Act.put, List.map_cons, List.map_nil, List.setIfInBounds_toArray, List.set_cons_succ, List.set_cons_zero, Nat.reduceAdd, x0e, x1e, x2e, x3e, x4e, x5e, x6e, x7e, x8e, x10e, x11e, x12e, x13e, x14e, x15e, x17e, x18e, x19e]
  clear x0e x1e x2e x3e x4e x5e x6e x7e x8e x10e x11e x12e x13e x14e x15e x17e x18e x19e hall
  have HB9 := Lib.hid (HB8.out.trans (hT.mono HB8.out.size))
  clear hT HB8 p109 p116 HQP HPP HQQ HPQ HQX HXX HQY HYY HA HB HC HD HL1 HL2 ca cb cc cd na nb nc nd
  have HAL := Lib.hid ((Alexander_any _ m w1 (HM.out _ HB9.out) (by have := HN.out; omega) HR.out (HT6.out _ HB9.out)).mono fun e w' hd => alex_sq hd)
  go_upto_region 9 with fail
  go_wp2_with fail
  refine HAL.out.mono ?_
  rintro e wa ⟨br, Ar, nr, cr, gr, rfl, hba, hcs⟩
  have hal := (Below.refl wa.heap.size wa).alloc (Nat.le_refl _) (.cells #[.bool br, .slice Ar nr cr] 39)
  have HQR := Lib.hid (show Arr (wa.alloc (.cells #[.bool br, .slice Ar nr cr] 39)) wa.heap.size 39 [.bool br, .slice Ar nr cr] from Arr.new wa _ [_, _])
  have hb9a := HB9.out.trans (hba.mono HB9.out.size)
  have HBB := Lib.hid (hb9a.trans (hal.mono hb9a.size))
  have HCS := Lib.hid hcs
  clear hal hba hb9a hcs HAL HB9
  go_upto_region 10 with fail
  generalize wa.alloc (.cells #[.bool br, .slice Ar nr cr] 39) = wb at *
  generalize wa.heap.size = gr' at *
  have HMW := Lib.hid (HM.out _ HBB.out)
  clear HM
  go_upto_region 11 with fail
  go_loopg [20, 127] n (fun gk s20 s127 wr => ∃ i : Nat, i ≤ n ∧ gk = n - i ∧ s127 = .int .i64 (i : Int) ∧ wr = wb)
  case atStart => exact ⟨0, by omega, rfl, rfl, rfl⟩
  case round =>
    obtain ⟨i, hi, rfl, rfl, rfl⟩ := hrel
    by_cases hit : i < n
    · have z2 : (i : Int) < (n : Int) := by omega
      have hml : i < m.length := by rw [← HN.out]; exact hit
      obtain ⟨b1, o1, A2, c2, rfl, hcell⟩ := HMW.out.rowv5 hml
      have c1 := hcell _ (Below.refl _ _)
      have hrl := HR.out _ (List.getElem_mem hml)
      obtain ⟨q, hq⟩ : ∃ q, q = m[i].length := ⟨_, rfl⟩
      rw [← hq] at c1 hrl
      have HQ := Lib.hid hq
      clear hq hcell
      by_cases hqn : q = n
      · have z4 : ((q : Int) != (n : Int)) = false := by simp [hqn]
        clear hqn
        go_wp2_with fail
        go_roundg (n - (i + 1))
        case measure => omega
        case rel => exact ⟨i + 1, by omega, rfl, by go_num, rfl⟩
      · have z4 : ((q : Int) != (n : Int)) = true := by simp; omega
        have hcs := HCS.out
        rcases hcs with hsq | ⟨rfl, rfl, rfl, rfl, rfl⟩
        · exfalso
          refine hqn ?_
          have := of_decide_eq_true (List.all_eq_true.1 hsq _ (List.getElem_mem hml))
          rw [HQ.out, HN.out]; exact this
        · clear hqn HQ hml HCS
          have y0 := HQR.out.cell 0
          have y1 := HQR.out.cell 1
          have HZE := Lib.hid (Zero5 wr)
          go_wp2_with (go_at_call 20; refine HZE.out.mono ?_; rintro e wz ⟨rfl, hbz⟩)
          go_ret
          exact ⟨rfl, HBB.out.trans (hbz.mono HBB.out.size)⟩
    · have z2 : ¬ ((i : Int) < (n : Int)) := by omega
      go_wp2_with fail
      go_ret
      exact ⟨rfl, HBB.out⟩
end Go.Proofs.YtjeklcgfffibpaaGreatDoor
