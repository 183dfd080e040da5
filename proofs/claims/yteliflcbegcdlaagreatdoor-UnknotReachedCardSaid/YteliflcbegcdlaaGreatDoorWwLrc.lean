/- The law UnknotReached: the walk. -/
import Derived.Test.YteliflcbegcdlaaGreatDoorWwRrw
import Derived.Test.YteliflcbegcdlaaGreatDoorWwRcw
import Derived.Test.YteliflcbegcdlaaGreatDoorWwGrf
namespace Go.Proofs.YteliflcbegcdlaaGreatDoor
open Go.RowKit Go.Shelf
set_option linter.unusedVariables false
theorem isR_len {g : Gd} {gs ls : List Gd} (h : IsR g gs) (hn : ls.Nodup) (hs : ∀ z ∈ ls, Rea g z) : ls.length ≤ gs.length := len_subG ls gs hn fun z hz => (h.2 z).2 (hs z hz)
theorem isR_pos {g : Gd} {gs : List Gd} (h : IsR g gs) : 0 < gs.length := List.length_pos_of_mem ((h.2 (lstM g)).2 (.refl _))
set_option maxHeartbeats 8000000 in
set_option maxRecDepth 100000 in
theorem reached_law (v0 v1 : Value) (X O : List Int) (limit : Int) (w : World) (hX : Ints w v0 X) (hO : Ints w v1 O) (ht : Tb w) :
    Calls Tryz.prog 3 #[.agg #[v0, v1], .int .i64 limit] w fun e w' => e = .returned (.bool true) ∧ Below w.heap.size w w' := by
  have HT := Lib.hid (fun W (hb : Below w.heap.size w W) => ht.below hb)
  have HX := Lib.hid (fun W (hb : Below w.heap.size w W) => hX.below hb)
  have HO := Lib.hid (fun W (hb : Below w.heap.size w W) => hO.below hb)
  obtain ⟨A0, c0, rfl, -, -⟩ := hX
  obtain ⟨A1, c1, rfl, -, -⟩ := hO
  obtain ⟨n, hn⟩ : ∃ n, n = X.length := ⟨_, rfl⟩
  obtain ⟨m, hm⟩ : ∃ n, n = O.length := ⟨_, rfl⟩
  rw [← hn] at HX ⊢
  rw [← hm] at HO ⊢
  have HN := Lib.hid hn
  have HM := Lib.hid hm
  clear ht hn hm
  go_enter Tryz.func3, Tryz.ntmps3
  go_upto_region 1 with fail
  have hal := (Below.refl w.heap.size w).alloc (Nat.le_refl _) (.cells #[.slice A0 n c0, .slice A1 m c1] 24)
  have YG := Lib.hid (show Arr (w.alloc (.cells #[.slice A0 n c0, .slice A1 m c1] 24)) w.heap.size 24 [.slice A0 n c0, .slice A1 m c1] from Arr.new w _ [_, _])
  have HB1 := Lib.hid hal
  generalize w.alloc (.cells #[.slice A0 n c0, .slice A1 m c1] 24) = w1 at YG HB1 ⊢
  clear hal
  obtain ⟨B, hB⟩ : ∃ B, B = w.heap.size := ⟨_, rfl⟩
  rw [← hB] at YG HB1 HT HX HO ⊢
  have HB0 := Lib.hid hB
  clear hB
  have HAW := Lib.hid (awake45 w1 (HT.out _ HB1.out))
  go_upto_region 3 with (go_at_call 5; refine HAW.out.mono ?_; rintro e2 w2 ⟨rfl, hb2⟩)
  have HB2 := Lib.hid (HB1.out.trans (hb2.mono (Nat.le_of_lt YG.out.lt)))
  have YG2 := Lib.hid (YG.out.below hb2 YG.out.lt)
  clear hb2 YG HB1 HAW
  have y0 := YG2.out.cell 0
  have y1 := YG2.out.cell 1
  have hg := great45_any A0 A1 n c0 m c1 4 w2
  obtain ⟨gb, hgb⟩ : ∃ gb, gb = (decide ((4 : Int) < (n : Int)) || decide ((4 : Int) < (m : Int))) := ⟨_, rfl⟩
  rw [← hgb] at hg
  have HGB := Lib.hid hgb
  have HG := Lib.hid hg
  clear hg hgb
  cases gb with
  | true =>
    go_wp2_with (go_at_call 6; refine HG.out.mono ?_; rintro e3 w3 ⟨rfl, hb3⟩; have HB3 := Lib.hid (HB2.out.trans (hb3.mono (Nat.le_of_lt YG2.out.lt))))
    go_ret
    exact ⟨rfl, by rw [← HB0.out]; exact HB3.out⟩
  | false =>
  have h4 : n ≤ 4 ∧ m ≤ 4 := by
    have h5 := HGB.out
    simp only [Bool.false_eq, Bool.or_eq_false_iff, decide_eq_false_iff_not] at h5
    omega
  have H4 := Lib.hid (show X.length ≤ 4 ∧ O.length ≤ 4 by rw [← HN.out, ← HM.out]; exact h4)
  clear h4 HGB
  go_upto_region 5 with (go_at_call 6; refine HG.out.mono ?_; rintro e3 w3 ⟨rfl, hb3⟩; have HB3 := Lib.hid (HB2.out.trans (hb3.mono (Nat.le_of_lt YG2.out.lt))); have YG3 := Lib.hid (YG2.out.below hb3 YG2.out.lt); clear hb3 y0 y1)
  clear HG HB2 YG2
  have y0 := YG3.out.cell 0
  have y1 := YG3.out.cell 1
  have HR := Lib.hid (Reached_anyW (.slice A0 n c0) (.slice A1 m c1) X O limit w3 (HX.out _ HB3.out) (HO.out _ HB3.out) (by have := H4.out; omega) (by have := H4.out; omega) (.inr (by have := H4.out; omega)) (HT.out _ HB3.out))
  go_wp2_with fail
  refine HR.out.mono ?_
  rintro e5 w5 hr5
  have HB5 := Lib.hid (HB3.out.trans (hr5.1.mono (Nat.le_of_lt YG3.out.lt)))
  have YG5 := Lib.hid (YG3.out.below hr5.1 YG3.out.lt)
  have HV := Lib.hid (refValid_any (.slice A0 n c0) (.slice A1 m c1) X O w5 (HX.out _ HB5.out) (HO.out _ HB5.out) (by have := H4.out; omega) (by have := H4.out; omega))
  rw [refValidB_eq] at HV
  have HCM := Lib.hid (fun W (hb : Below B w W) (hv : Vd X O) => refComponents_any (.slice A0 n c0) (.slice A1 m c1) X O W (HX.out _ hb) (HO.out _ hb) hv)
  have HRR := Lib.hid (fun W (hb : Below B w W) (hv : Vd X O) => refReached_any (.slice A0 n c0) (.slice A1 m c1) X O limit W (HX.out _ hb) (HO.out _ hb) hv (by have := H4.out; omega))
  clear y0 y1 HR HB3 YG3
  have y0 := YG5.out.cell 0
  have y1 := YG5.out.cell 1
  rcases hr5.2 with ⟨hv, rfl⟩ | ⟨hv, hc, rfl⟩ | ⟨hv, hc, r, hr, hres⟩
  · rw [show validB X O = false from by
      cases h : validB X O with
      | false => rfl
      | true => exact absurd ((validB_iff X O).1 h) hv] at HV
    clear hv hr5
    go_wp2_with (go_at_call 8; refine HV.out.mono ?_; rintro e7 w7 ⟨rfl, hb7⟩; have HB7 := Lib.hid (HB5.out.trans (hb7.mono (Nat.le_of_lt YG5.out.lt))))
    go_ret
    exact ⟨rfl, by rw [← HB0.out]; exact HB7.out⟩
  · rw [(validB_iff X O).2 hv] at HV
    have HC2 := Lib.hid (fun W (hb : Below B w W) => HCM.out W hb hv)
    obtain ⟨cm, hcm⟩ : ∃ c : Nat, c = comp X O := ⟨_, rfl⟩
    rw [← hcm] at HC2
    have z1 : (1 : Int) < (cm : Int) := by simp only at hc; omega
    clear hv hr5 hc hcm
    go_wp2_with (first | (go_at_call 8; refine HV.out.mono ?_; rintro e7 w7 ⟨rfl, hb7⟩; have HB7 := Lib.hid (HB5.out.trans (hb7.mono (Nat.le_of_lt YG5.out.lt))); have YG7 := Lib.hid (YG5.out.below hb7 YG5.out.lt); have y0 := YG7.out.cell 0; have y1 := YG7.out.cell 1) | (go_at_call 9; refine (HC2.out _ HB7.out).mono ?_; rintro e8 w8 ⟨rfl, hb8⟩; have HB8 := Lib.hid (HB7.out.trans (hb8.mono (Nat.le_of_lt YG7.out.lt)))))
    go_ret
    exact ⟨rfl, by rw [← HB0.out]; exact HB8.out⟩
  · rw [(validB_iff X O).2 hv] at HV
    have HVD := Lib.hid (show VdG (X, O) from hv)
    have HC2 := Lib.hid (fun W (hb : Below B w W) => HCM.out W hb hv)
    have HRR2 := Lib.hid (fun W (hb : Below B w W) => HRR.out W hb hv)
    obtain ⟨cm, hcm⟩ : ∃ c : Nat, c = comp X O := ⟨_, rfl⟩
    rw [← hcm] at HC2
    have z1 : ¬ (1 : Int) < (cm : Int) := by simp only at hc; omega
    clear hc hcm HCM HRR
    rcases hres with ⟨rfl, rfl⟩ | ⟨K, v, gs, rfl, hp, hsrt, hgd, rfl⟩
    · have HFM := Lib.hid (fun ls (h : IsR (X, O) ls) => fuel_many (g := (X, O)) hv (by have := H4.out; simp only; omega) hr h)
      clear hv hr5 hr
      go_upto_region 11 with (first | (go_at_call 8; refine HV.out.mono ?_; rintro e7 w7 ⟨rfl, hb7⟩; have HB7 := Lib.hid (HB5.out.trans (hb7.mono (Nat.le_of_lt YG5.out.lt))); have YG7 := Lib.hid (YG5.out.below hb7 YG5.out.lt); have y0 := YG7.out.cell 0; have y1 := YG7.out.cell 1) | (go_at_call 9; refine (HC2.out _ HB7.out).mono ?_; rintro e8 w8 ⟨rfl, hb8⟩; have HB8 := Lib.hid (HB7.out.trans (hb8.mono (Nat.le_of_lt YG7.out.lt))); have YG8 := Lib.hid (YG7.out.below hb8 YG7.out.lt); have y0 := YG8.out.cell 0; have y1 := YG8.out.cell 1) | (go_at_call 10; refine (HRR2.out _ HB8.out).mono ?_; rintro e9 w9 ⟨hb9, A9, n9, c9, ls, b9, rfl, hyes, hno⟩; have HB9 := Lib.hid (HB8.out.trans (hb9.mono (Nat.le_of_lt YG8.out.lt)))))
      have hb : b9 = false := by
        cases b9 with
        | false => rfl
        | true =>
          obtain ⟨k1, _, k2⟩ := hyes rfl
          have := HFM.out ls k1
          omega
      subst hb
      clear hyes hno
      go_wp2_with fail
      go_ret
      exact ⟨rfl, by rw [← HB0.out]; exact HB9.out⟩
    · have HIS := Lib.hid (isR_keys (g := (X, O)) hv hr hp hsrt)
      have HMS := Lib.hid (show gs.length ≤ limit.toNat by
        have h1 := hr.most K (.inl rfl)
        have h2 := hp.length_eq
        rw [List.length_map] at h2
        omega)
      have HGD := Lib.hid hgd
      have hnd := hgd
      obtain ⟨A5, c5, rfl, -, -⟩ := hnd
      clear hv hr5 hr hp hsrt
      go_upto_region 11 with (first | (go_at_call 8; refine HV.out.mono ?_; rintro e7 w7 ⟨rfl, hb7⟩; have HB7 := Lib.hid (HB5.out.trans (hb7.mono (Nat.le_of_lt YG5.out.lt))); have YG7 := Lib.hid (YG5.out.below hb7 YG5.out.lt); have HG7 := Lib.hid (HGD.out.below hb7); have y0 := YG7.out.cell 0; have y1 := YG7.out.cell 1) | (go_at_call 9; refine (HC2.out _ HB7.out).mono ?_; rintro e8 w8 ⟨rfl, hb8⟩; have HB8 := Lib.hid (HB7.out.trans (hb8.mono (Nat.le_of_lt YG7.out.lt))); have YG8 := Lib.hid (YG7.out.below hb8 YG7.out.lt); have HG8 := Lib.hid (HG7.out.below hb8); have y0 := YG8.out.cell 0; have y1 := YG8.out.cell 1) | (go_at_call 10; refine (HRR2.out _ HB8.out).mono ?_; rintro e9 w9 ⟨hb9, A9, n9, c9, ls, b9, rfl, hyes, hno⟩; have HB9 := Lib.hid (HB8.out.trans (hb9.mono (Nat.le_of_lt YG8.out.lt))); have HG9 := Lib.hid (HG8.out.below hb9)))
      have hb : b9 = true := by
        cases b9 with
        | true => rfl
        | false =>
          obtain ⟨k1, k2, k3⟩ := hno rfl
          have h1 := isR_len HIS.out k1 k2
          have h2 := isR_pos HIS.out
          have h3 := HMS.out
          omega
      subst hb
      obtain ⟨k1, k2, _⟩ := hyes rfl
      obtain rfl := HIS.out.uniq k1
      obtain rfl := k2.len
      have HW9 := Lib.hid k2
      have hpos := isR_pos k1
      have hlen : gs.length ≤ 3038 := by
        have h := (BfI.mk (g := (X, O)) (ls := gs) (i := 0) (srt_nd k1.1) (fun z hz => (k1.2 z).1 hz) ((k1.2 _).2 (.refl _)) (fun h hh => by simp at hh) (Nat.zero_le _)).len HVD.out (by have := H4.out; simp only; omega)
        exact h
      have hsz9 := hb9.size
      clear k1 k2 hyes hno hb9 hb8 hb7 y0 y1 HMS
      obtain ⟨n, hn⟩ : ∃ n, n = gs.length := ⟨_, rfl⟩
      rw [← hn] at HG9 HW9 hlen hpos ⊢
      have HNL := Lib.hid hn
      clear hn
      have HB9S := Lib.hid (show B ≤ w9.heap.size from Nat.le_trans (Nat.le_of_lt YG8.out.lt) hsz9)
      have z4 : ((n : Int) != (n : Int)) = false := by simp
      go_wp2_with fail
      clear z4
      go_loopw [68] (fun iv wr => ∃ k : Nat, k ≤ n ∧ iv = .int .i64 (k : Int) ∧ Hid (Below w9.heap.size w9 wr)) (fun iv _ => n - (intOf iv).toNat)
      case atStart => exact ⟨0, Nat.zero_le _, rfl, Lib.hid (Below.refl _ _)⟩
      case round =>
        obtain ⟨k, hk, rfl, HB⟩ := hrel
        by_cases hlt : k < n
        · have hkg : k < gs.length := by rw [← HNL.out]; exact hlt
          obtain ⟨b5, o5, D0, r0, s0, D1, r1, s1, rfl, hbl5, x0, x1, gx⟩ := HG9.out.at_ hkg
          obtain ⟨b7, o7, E0, p0, q0, E1, p1, q1, rfl, hbl7, y0, y1, gy⟩ := HW9.out.at_ hkg
          have x0 := (HB.out.cell hbl5).trans x0
          have x1 := (HB.out.cell hbl5).trans x1
          have y0 := (HB.out.cell hbl7).trans y0
          have y1 := (HB.out.cell hbl7).trans y1
          have hvk := (rea_facts HVD.out ((HIS.out.2 _).1 (List.getElem_mem hkg))).1
          have h40 := hvk.most
          have hll := hvk.len
          have HSM := Lib.hid (fun W (hb : Below wr.heap.size wr W) => (refSame_any (.slice D0 r0 s0) (.slice D1 r1 s1) (.slice E0 p0 q0) (.slice E1 p1 q1) gs[k].1 gs[k].2 gs[k].1 gs[k].2 W ((gx.1.below HB.out).below hb) ((gx.2.below HB.out).below hb) ((gy.1.below HB.out).below hb) ((gy.2.below HB.out).below hb) (by omega) (by omega) (by omega) (by omega)).mono fun e w' (h : _ ∧ _) => show e = .returned (.bool true) ∧ Below W.heap.size W w' from ⟨by rw [h.1]; simp, h.2⟩)
          clear gx gy hbl5 hbl7 hvk h40 hll hkg
          have z1 : (k : Int) < (n : Int) := by omega
          go_upto_region 18 with fail
          refine wp_region_phy (fun a b => Below a.heap.size a b) (fun h k => h.trans (k.mono h.size)) ((Below.refl _ _).drew) (by kernel_rfl) (by kernel_rfl) (by kernel_rfl) (by kernel_rfl) (phiT (fun i => ([some (.slice (some ⟨b5, o5, none⟩) n c5), some (.int .i64 (k : Int)), some (.pointer (some ⟨b5, o5 + k * 2, none⟩)), some (.agg #[.slice D0 r0 s0, .slice D1 r1 s1]), some (.slice (some ⟨b7, o7, none⟩) n c9), some (.int .i64 (k : Int)), some (.pointer (some ⟨b7, o7 + k * 2, none⟩)), some (.agg #[.slice E0 p0 q0, .slice E1 p1 q1]), some (.bool true), some (.bool false)] : List (Option Value)).getD i none) (fun i v w => True)) (fun i v w w' h hb => ?_) ⟨?_, ?_, ?_, ?_, ?_, ?_, ?_, ?_, ?_, ?_, trivial⟩ ?_
          · unfold phiT at h ⊢
            split
            · next u hu => rw [hu] at h; exact h
            · next hu =>
              rw [hu] at h
              exact True.intro
          · intro x w1 bA hT hdep hold hb
            refine .inl ⟨trivial, ?_⟩
            have e5 : bA.tmps[5]?.getD undef = .slice (some ⟨b5, o5, none⟩) n c5 := hb 5
            refine phx_run (.slice (some ⟨b5, o5, none⟩) n c5) ?_ (Below.refl _ _) rfl
            clear hb hdep hold
            go_simp
          · intro x w1 bA hT hdep hold hb
            refine .inl ⟨trivial, ?_⟩
            have e9 : bA.tmps[9]?.getD undef = .int .i64 (k : Int) := hb 9
            refine phx_run (.int .i64 (k : Int)) ?_ (Below.refl _ _) rfl
            clear hb hdep hold
            go_simp
          · intro x w1 bA hT hdep hold hb
            refine .inl ⟨trivial, ?_⟩
            have e71 : bA.tmps[71]?.getD undef = .slice (some ⟨b5, o5, none⟩) n c5 := (hb 71).trans (hdep 0 (by decide))
            have e72 : bA.tmps[72]?.getD undef = .int .i64 (k : Int) := (hb 72).trans (hdep 1 (by decide))
            refine phx_run (.pointer (some ⟨b5, o5 + k * 2, none⟩)) ?_ (Below.refl _ _) rfl
            clear hb hdep hold
            go_simp
          · intro x w1 bA hT hdep hold hb
            refine .inl ⟨trivial, ?_⟩
            have e73 : bA.tmps[73]?.getD undef = .pointer (some ⟨b5, o5 + k * 2, none⟩) := (hb 73).trans (hdep 2 (by decide))
            have cc0 := (hT.cell (block_lt_of_cell x0)).trans x0
            have cc1 := (hT.cell (block_lt_of_cell x1)).trans x1
            refine phx_run (.agg #[.slice D0 r0 s0, .slice D1 r1 s1]) ?_ (Below.refl _ _) rfl
            clear hb hdep hold
            go_simp
          · intro x w1 bA hT hdep hold hb
            refine .inl ⟨trivial, ?_⟩
            have e7 : bA.tmps[7]?.getD undef = .slice (some ⟨b7, o7, none⟩) n c9 := hb 7
            refine phx_run (.slice (some ⟨b7, o7, none⟩) n c9) ?_ (Below.refl _ _) rfl
            clear hb hdep hold
            go_simp
          · intro x w1 bA hT hdep hold hb
            refine .inl ⟨trivial, ?_⟩
            have e9 : bA.tmps[9]?.getD undef = .int .i64 (k : Int) := hb 9
            refine phx_run (.int .i64 (k : Int)) ?_ (Below.refl _ _) rfl
            clear hb hdep hold
            go_simp
          · intro x w1 bA hT hdep hold hb
            refine .inl ⟨trivial, ?_⟩
            have e75 : bA.tmps[75]?.getD undef = .slice (some ⟨b7, o7, none⟩) n c9 := (hb 75).trans (hdep 4 (by decide))
            have e76 : bA.tmps[76]?.getD undef = .int .i64 (k : Int) := (hb 76).trans (hdep 5 (by decide))
            refine phx_run (.pointer (some ⟨b7, o7 + k * 2, none⟩)) ?_ (Below.refl _ _) rfl
            clear hb hdep hold
            go_simp
          · intro x w1 bA hT hdep hold hb
            refine .inl ⟨trivial, ?_⟩
            have e77 : bA.tmps[77]?.getD undef = .pointer (some ⟨b7, o7 + k * 2, none⟩) := (hb 77).trans (hdep 6 (by decide))
            have cc0 := (hT.cell (block_lt_of_cell y0)).trans y0
            have cc1 := (hT.cell (block_lt_of_cell y1)).trans y1
            refine phx_run (.agg #[.slice E0 p0 q0, .slice E1 p1 q1]) ?_ (Below.refl _ _) rfl
            clear hb hdep hold
            go_simp
          · intro x w1 bA hT hdep hold hb
            refine .inl ⟨trivial, ?_⟩
            have e74 : bA.tmps[74]?.getD undef = .agg #[.slice D0 r0 s0, .slice D1 r1 s1] := (hb 74).trans (hdep 3 (by decide))
            have e78 : bA.tmps[78]?.getD undef = .agg #[.slice E0 p0 q0, .slice E1 p1 q1] := (hb 78).trans (hdep 7 (by decide))
            refine phx_call ?_ ((HSM.out w1 hT).mono fun e w' h => ⟨_, h.1, h.2, rfl⟩)
            clear hb hdep hold
            go_simp
          · intro x w1 bA hT hdep hold hb
            refine .inl ⟨trivial, ?_⟩
            have e79 : bA.tmps[79]?.getD undef = .bool true := (hb 79).trans (hdep 8 (by decide))
            refine phx_run (.bool false) ?_ (Below.refl _ _) rfl
            clear hb hdep hold
            go_simp
          intro x w1 hT hall
          have x0e : x 0 = .slice (some ⟨b5, o5, none⟩) n c5 := hall 0 (by decide)
          have x1e : x 1 = .int .i64 (k : Int) := hall 1 (by decide)
          have x2e : x 2 = .pointer (some ⟨b5, o5 + k * 2, none⟩) := hall 2 (by decide)
          have x3e : x 3 = .agg #[.slice D0 r0 s0, .slice D1 r1 s1] := hall 3 (by decide)
          have x4e : x 4 = .slice (some ⟨b7, o7, none⟩) n c9 := hall 4 (by decide)
          have x5e : x 5 = .int .i64 (k : Int) := hall 5 (by decide)
          have x6e : x 6 = .pointer (some ⟨b7, o7 + k * 2, none⟩) := hall 6 (by decide)
          have x7e : x 7 = .agg #[.slice E0 p0 q0, .slice E1 p1 q1] := hall 7 (by decide)
          have x8e : x 8 = .bool true := hall 8 (by decide)
          have x9e : x 9 = .bool false := hall 9 (by decide)
          simp only [putAll, dstOf, Act.put, List.map_cons, List.map_nil, List.setIfInBounds_toArray, List.set_cons_succ, List.set_cons_zero, Nat.reduceAdd, x0e, x1e, x2e, x3e, x4e, x5e, x6e, x7e, x8e, x9e]
          clear x0e x1e x2e x3e x4e x5e x6e x7e x8e x9e hall
          have HB2 := Lib.hid (HB.out.trans (hT.mono HB.out.size))
          clear hT HSM x0 x1 y0 y1 HB
          go_wp2_with fail
          go_roundw
          case rel => exact ⟨k + 1, by omega, by go_num, HB2⟩
          case measure => simp [intOf]; omega
        · obtain rfl : k = n := by omega
          go_wp2_with fail
          go_ret
          exact ⟨rfl, by rw [← HB0.out]; exact HB9.out.trans (HB.out.mono HB9S.out)⟩
end Go.Proofs.YteliflcbegcdlaaGreatDoor
