/- polymatrix.field.residues: the walk. -/
import Derived.Test.YtbkgpfalljgdcaaGreatDoorZTmo
namespace Go.Proofs.YtbkgpfalljgdcaaGreatDoor
open Go.RowKit
set_option linter.unusedVariables false

theorem wrap64 {x : Int} (h0 : -9223372036854775808 ≤ x) (h1 : x ≤ 9223372036854775807) : IntKind.i64.wrap x = x := by
  simp only [IntKind.wrap, IntKind.bits, IntKind.signed]; simp; omega
theorem filN_set0 {n k : Nat} {f : Nat → Nat} (h : k < n) : (filN n f k).set k 0 = filN n f k := by
  apply gn_ext (by simp)
  intro i hi
  have hi' : i < n := by simpa [filN] using hi
  rw [gn_set _ _ _ _ (by rw [filN_length]; exact h)]
  split
  · next e => unfold filN; rw [gn_map_range, if_pos hi', if_neg (by omega)]
  · rfl
set_option maxHeartbeats 8000000 in
set_option maxRecDepth 100000 in
theorem fresidues_any (p rt deg : Nat) (v : Value) (m : List (List (List TE))) (w : World) (h : EntT w v m) (hn : m.length ≤ 64) (hsq : ∀ r ∈ m, r.length = m.length) (hs : ∀ r ∈ m, ∀ l ∈ r, SmT p l ∧ l.length ≤ 131072) (hdeg : deg < 131072) (hp0 : 262144 < p) (hp : p < 9223372036854775808) (hrt : rt < p) :
    Calls Tryz.prog 71 #[.agg #[.int .u64 (p : Int), .int .u64 (rt : Int)], v, .int .i64 (deg : Int)] w fun e w' => ∃ (g : Nat) (X : List Nat), e = .returned (.slice (some ⟨g, 0, none⟩) (deg + 1) (2 ^ lgN deg)) ∧ w.heap.size ≤ g ∧ Arr w' g 115 (uc X) ∧ X.length = 2 ^ lgN deg ∧ X.take (deg + 1) = resA p rt m deg ∧ Below w.heap.size w w' := by
  have HS := Lib.hid hs
  have HQ := Lib.hid hsq
  have HH := Lib.hid h
  obtain ⟨A, c, rfl⟩ := h.form
  obtain ⟨n, hnn⟩ : ∃ n, n = m.length := ⟨_, rfl⟩
  rw [← hnn] at hn HH HQ ⊢
  have HN := Lib.hid hnn
  obtain ⟨d, hd⟩ : ∃ d, d = lgN deg := ⟨_, rfl⟩
  have hd17 : d ≤ 17 := by rw [hd]; exact lgN_bound (by omega)
  have HGT := Lib.hid (show deg < 2 ^ d by rw [hd]; exact lgN_gt deg)
  have HLE := Lib.hid (fun j (hj : j < d) => (show 2 ^ j ≤ deg from lgN_le (by rw [← hd]; exact hj)))
  have HP2 := Lib.hid (fun j (hj : j ≤ 17) => (show 2 ^ j ≤ 131072 from Nat.pow_le_pow_right (by omega) hj))
  have HRS := Lib.hid (show resA p rt m deg = ((trF p d (valA p (rtF p rt (17 - d)) (2 ^ d) m) (fInv p (rtF p rt (17 - d)))).map fun x => x * fInv p (2 ^ d) % p).take (deg + 1) by rw [hd]; rfl)
  rw [← hd]
  rw [HRS.out]
  clear hs hsq h hnn hd
  have hB := (Below.refl w.heap.size w).alloc (Nat.le_refl _) (.cells #[.int .u64 (p : Nat), .int .u64 (rt : Nat)] 117)
  have HF1 := Lib.hid (show Arr (w.alloc (.cells #[.int .u64 (p : Nat), .int .u64 (rt : Nat)] 117)) w.heap.size 117 [.int .u64 (p : Int), .int .u64 (rt : Int)] from Arr.new w 117 [_, _])
  have HB1 := Lib.hid hB
  have HS1 := Lib.hid (show w.heap.size ≤ (w.alloc (.cells #[.int .u64 (p : Nat), .int .u64 (rt : Nat)] 117)).heap.size from hB.size)
  clear hB
  go_enter Tryz.func71, Tryz.ntmps71
  go_upto_region 1 with fail
  generalize w.alloc (.cells #[.int .u64 (p : Nat), .int .u64 (rt : Nat)] 117) = w1 at *
  obtain ⟨fb, hfb⟩ : ∃ fb, fb = w.heap.size := ⟨_, rfl⟩
  rw [← hfb] at HF1 ⊢
  have HFB := Lib.hid hfb
  clear hfb
  have y0 := HF1.out.cell 0
  have y1 := HF1.out.cell 1
  go_quiet (fail)
  have HF2 := Lib.hid (show Arr (w1.drewN nq) fb 117 [.int .u64 (p : Int), .int .u64 (rt : Int)] from HF1.out)
  have HB2 := Lib.hid (show Below w.heap.size w (w1.drewN nq) from bdrewN HB1.out nq)
  have HS2 := Lib.hid (show w.heap.size ≤ (w1.drewN nq).heap.size from HS1.out)
  clear HF1 HB1 HS1 y0 y1
  generalize w1.drewN nq = w2 at *
  go_wp2_with fail
  go_loopg [7] d (fun gk s7 wr => ∃ j : Nat, j ≤ d ∧ gk = d - j ∧ s7 = .int .i64 ((2 ^ j : Nat) : Int) ∧ w2 = wr)
  case atStart => exact ⟨0, Nat.zero_le _, rfl, rfl, rfl⟩
  case round =>
    obtain ⟨j, hj, rfl, rfl, rfl⟩ := hrel
    obtain ⟨q, hq⟩ : ∃ q, q = 2 ^ j := ⟨_, rfl⟩
    have hq17 := HP2.out j (by omega)
    rw [← hq] at hq17 ⊢
    by_cases hle : q ≤ deg
    · have z1 : (q : Int) ≤ (deg : Int) := by omega
      have hjd : j < d := by
        rcases Nat.lt_or_ge j d with e | e
        · exact e
        · have h1 := HGT.out
          rw [show d = j by omega, ← hq] at h1
          omega
      have HQ2 := Lib.hid (show 2 ^ (j + 1) = q * 2 by rw [Nat.pow_succ, hq])
      clear hq
      go_wp2_with fail
      go_roundg (d - (j + 1))
      case measure => omega
      case rel => exact ⟨j + 1, by omega, rfl, by rw [HQ2.out]; go_num, rfl⟩
    · have z1 : ¬ ((q : Int) ≤ (deg : Int)) := by omega
      have hjd : d = j := by
        rcases Nat.lt_or_ge j d with e | e
        · have := HLE.out j e; rw [← hq] at this; omega
        · omega
      subst hjd
      have HDG := Lib.hid (show deg < q by omega)
      have HQD := Lib.hid hq
      clear HGT HLE hq z1
      have HRT := Lib.hid (fun k => rtF_lt hrt k)
      go_upto_region 5 with fail
      go_wp2_with fail
      go_loopg [8, 9] (17 - d) (fun gk s8 s9 wr => ∃ k : Nat, k ≤ 17 - d ∧ gk = 17 - d - k ∧ s8 = .int .u64 (rtF p rt k : Nat) ∧ s9 = .int .i64 ((2 ^ (17 - k) : Nat) : Int) ∧ Below w2.heap.size w2 wr)
      case atStart => exact ⟨0, Nat.zero_le _, rfl, rfl, rfl, Below.refl _ _⟩
      case round =>
        obtain ⟨k, hk, rfl, rfl, rfl, hb⟩ := hrel
        have hrk := HRT.out k
        obtain ⟨o2, ho2⟩ : ∃ o, o = 2 ^ (17 - k) := ⟨_, rfl⟩
        have ho17 := HP2.out (17 - k) (by omega)
        rw [← ho2] at ho17 ⊢
        have HF := HF2.out.below hb HF2.out.lt
        have y0 := HF.cell 0
        have y1 := HF.cell 1
        by_cases hlt : k < 17 - d
        · have hoq : q * 2 ≤ o2 := by rw [HQD.out, ho2, ← Nat.pow_succ]; exact Nat.pow_le_pow_right (by omega) (by omega)
          have hq1 : 1 ≤ q := by rw [HQD.out]; exact Nat.one_le_two_pow
          have z1 : (q : Int) < (o2 : Int) := by omega
          obtain ⟨o3, ho3⟩ : ∃ o, o = 2 ^ (17 - (k + 1)) := ⟨_, rfl⟩
          have h23 : o2 = o3 * 2 := by rw [ho2, ho3, ← Nat.pow_succ]; congr 1; omega
          have HO3 := Lib.hid ho3
          have HMU := Lib.hid (fun W => fmul_any p rt (rtF p rt k) (rtF p rt k) W (by omega) (by omega) (by omega) (by omega))
          have HRK := Lib.hid (show rtF p rt (k + 1) = rtF p rt k * rtF p rt k % p from rfl)
          have HB := Lib.hid hb
          clear hb ho2 ho3 hoq HF
          subst h23
          rw [← HRK.out] at HMU
          generalize rtF p rt k = r1 at *
          obtain ⟨r3, hr3⟩ : ∃ r, r = rtF p rt (k + 1) := ⟨_, rfl⟩
          rw [← hr3] at HMU HRK
          have HR3 := Lib.hid hr3
          clear hr3
          go_wp2_with (go_at_call 95; refine (HMU.out _).mono ?_; rintro e w' ⟨rfl, hbm⟩)
          go_roundg (17 - d - (k + 1))
          case measure => omega
          case rel => exact ⟨k + 1, by omega, rfl, by rw [← HR3.out], by rw [← HO3.out], HB.out.trans (hbm.mono HB.out.size)⟩
        · have hkd : k = 17 - d := by omega
          have ho2q : o2 = q := by rw [ho2, HQD.out]; congr 1; omega
          have z1 : ¬ ((q : Int) < (o2 : Int)) := by omega
          obtain ⟨root, hroot⟩ : ∃ r, r = rtF p rt (17 - d) := ⟨_, rfl⟩
          have HROOT := Lib.hid hroot
          rw [hkd]
          rw [hkd, ← hroot] at hrk
          rw [← hroot] at HRS ⊢
          have HB3 := Lib.hid (HB2.out.trans (hb.mono HS2.out))
          have HS3 := Lib.hid (show w.heap.size ≤ wr.heap.size from Nat.le_trans HS2.out hb.size)
          have HF3 := Lib.hid HF
          have hq1 : 1 ≤ q := by rw [HQD.out]; exact Nat.one_le_two_pow
          have hmk := fun W => mk_u64 q (by omega) W
          clear hb HF HF2 HB2 HS2 ho2 ho2q ho17 hroot HRT hlt
          obtain ⟨w3, rfl⟩ : ∃ w3 : World, w3 = wr := ⟨_, rfl⟩
          have hAl := (Below.refl w3.heap.size w3).alloc (Nat.le_refl _) (.cells (rowOf (List.replicate q (.int .u64 0))) 115)
          have hgp : Arr (w3.alloc (.cells (rowOf (List.replicate q (.int .u64 0))) 115)) w3.heap.size 115 (uc (filN q (twF p root) 0)) := by
            rw [filN_zero, show uc (List.replicate q 0) = List.replicate q (.int .u64 0) by simp [uc]]
            exact Arr.new w3 115 (List.replicate q (.int .u64 0))
          have HF4 := Lib.hid (HF3.out.below hAl HF3.out.lt)
          have HB4 := Lib.hid (HB3.out.trans (hAl.mono HS3.out))
          have HNF := Lib.hid (show fb ≠ w3.heap.size by have := HF3.out.lt; omega)
          have HS4 := Lib.hid (show w.heap.size ≤ w3.heap.size from HS3.out)
          have HGP := Lib.hid hgp
          clear HB3 HS3 HF3 hAl hgp y0 y1
          go_upto_region 9 with fail
          generalize w3.alloc (.cells (rowOf (List.replicate q (.int .u64 0))) 115) = w4 at *
          generalize w3.heap.size = gp at *
          clear hmk
          have z2 : (0 : Int) < (q : Int) := by omega
          have c1 := (HGP.out.cell 0).trans (uc_get (by rw [filN_length]; omega))
          have f1 := HGP.out.frozen 0
          have HG5 := Lib.hid (show Arr (w4.setCell ⟨gp, 0, none⟩ (.int .u64 1)) gp 115 (uc (filN q (twF p root) 1)) by
            have h1 := HGP.out.set 0 (.int .u64 ((twF p root 0 : Nat) : Int))
            rw [uc_set, filN_step (twF p root) (by omega)] at h1
            exact h1)
          have hon := (Onl.refl gp w4).setCell 0 (.int .u64 1)
          have HF5 := Lib.hid (HF4.out.onl hon HNF.out)
          have HB5 := Lib.hid (HB4.out.setCell (p := ⟨gp, 0, none⟩) HS4.out (.int .u64 1))
          have HS5 := Lib.hid (show w.heap.size ≤ (w4.setCell ⟨gp, 0, none⟩ (.int .u64 1)).heap.size by have := HF5.out.lt; have := HG5.out.lt; have := HS4.out; omega)
          go_upto_region 10 with fail
          clear hon c1 f1 HF4 HB4 HGP
          generalize w4.setCell ⟨gp, 0, none⟩ (.int .u64 1) = w5 at *
          go_wp2_with fail
          go_loopg [11] (q - 1) (fun gk s11 wr => ∃ jx : Nat, jx + 1 ≤ q ∧ gk = q - (jx + 1) ∧ s11 = .int .i64 ((jx : Int) + 1) ∧ Arr wr gp 115 (uc (filN q (twF p root) (jx + 1))) ∧ Wr [gp] w5 wr)
          case atStart => exact ⟨0, by omega, rfl, rfl, HG5.out, Wr.refl _ _⟩
          case round =>
            clear HG5
            obtain ⟨jx, hjx, rfl, rfl, ag, ho⟩ := hrel
            obtain ⟨wo, rfl⟩ : ∃ wo : World, wo = wr := ⟨_, rfl⟩
            have nfb : fb ∉ [gp] := fun e => HNF.out (List.mem_singleton.1 e)
            have hFo := HF5.out.wr ho nfb
            by_cases hlt : jx + 1 < q
            · have z1 : (jx : Int) + 1 < (q : Int) := by omega
              have hpv := twF_lt (show 1 < p by omega) root jx
              have HM := Lib.hid (fun W => fmul_any p rt (twF p root jx) root W (by omega) (by omega) (by omega) (by omega))
              have HPN := Lib.hid (show twF p root (jx + 1) = twF p root jx * root % p from rfl)
              rw [← HPN.out] at HM
              have HGN := Lib.hid (show gn (filN q (twF p root) (jx + 1)) jx = twF p root jx by unfold filN; rw [gn_map_range, if_pos (by omega), if_pos (by omega)])
              have HC := Lib.hid (fun W (hb : Below wo.heap.size wo W) => (by
                have h1 := ((ag.below hb ag.lt).cell jx).trans (uc_get (by rw [filN_length]; omega))
                rw [HGN.out] at h1; exact h1 : W.cell? ⟨gp, jx, none⟩ = some (.int .u64 (twF p root jx : Nat))))
              have HCW := Lib.hid (fun W (hb : Below wo.heap.size wo W) => ((ag.below hb ag.lt).cell (jx + 1)).trans (uc_get (by rw [filN_length]; omega)))
              have HFZ := Lib.hid (fun W (hb : Below wo.heap.size wo W) => (ag.below hb ag.lt).frozen (jx + 1))
              have HF := Lib.hid hFo
              have HZW := Lib.hid (wrap64 (x := (jx : Int)) (by omega) (by omega))
              have HZ1 := Lib.hid (show (jx : Int) < (q : Int) by omega)
              have HZ2 := Lib.hid z1
              have HZ3 := Lib.hid (show ((jx : Int) + 1).toNat = jx + 1 by omega)
              have HZ4 := Lib.hid (show 0 ≤ (jx : Int) + 1 by omega)
              have HNX := Lib.hid (fun (w9 : World) (hb : Below wo.heap.size wo w9) => (show Arr (w9.setCell ⟨gp, jx + 1, none⟩ (.int .u64 ((twF p root (jx + 1) : Nat) : Int))) gp 115 (uc (filN q (twF p root) (jx + 1 + 1))) ∧ Wr [gp] w5 (w9.setCell ⟨gp, jx + 1, none⟩ (.int .u64 ((twF p root (jx + 1) : Nat) : Int))) from by
                have h1 := (ag.below hb ag.lt).set (jx + 1) (.int .u64 ((twF p root (jx + 1) : Nat) : Int))
                rw [uc_set, filN_step (twF p root) hlt] at h1
                exact ⟨h1, (ho.trans (Wr.of_below hb)).setCell (List.mem_singleton.2 rfl) (jx + 1) _⟩))
              clear ag ho hFo nfb
              generalize gn (filN q (twF p root) (jx + 1)) (jx + 1) = zv at *
              generalize twF p root (jx + 1) = pn at *
              generalize twF p root jx = pv at *
              go_upto_region 13 with fail
              clear z1
              refine wp_region_phx (fun a b => Below a.heap.size a b) (fun h k => h.trans (k.mono h.size)) ((Below.refl _ _).drew) 11 (by kernel_rfl) (by kernel_rfl) (by kernel_rfl) (by kernel_rfl) rfl (by kernel_rfl) (phiT (fun i => ([some (.slice (some ⟨gp, 0, none⟩) q q), some (.int .i64 ((jx : Int) + 1)), some (.agg #[.int .u64 (p : Int), .int .u64 (rt : Int)]), some (.slice (some ⟨gp, 0, none⟩) q q), some (.int .i64 ((jx : Int) + 1)), some (.int .i64 (jx : Int)), some (.pointer (some ⟨gp, jx, none⟩)), some (.int .u64 ((pv : Nat) : Int)), some (.int .u64 ((root : Nat) : Int)), some (.int .u64 ((pn : Nat) : Int)), some (.pointer (some ⟨gp, jx + 1, none⟩)), some (undef)] : List (Option Value)).getD i none) (fun i v w => True)) (fun i v w w' h hb => ?_) (fun _ W => ∃ w9, Below wo.heap.size wo w9 ∧ W = w9.setCell ⟨gp, jx + 1, none⟩ (.int .u64 ((pn : Nat) : Int))) ⟨?_, ?_, ?_, ?_, ?_, ?_, ?_, ?_, ?_, ?_, ?_, ?_, trivial⟩ ?_
              · unfold phiT at h ⊢
                split
                · next u hu => rw [hu] at h; exact h
                · next hu =>
                  rw [hu] at h
                  exact True.intro
              · intro x w1 bA hT hdep hold hb
                refine ⟨fun _ => ?_, fun h => absurd h (by decide)⟩
                refine .inl ⟨trivial, ?_⟩
                have e10 : bA.tmps[10]?.getD undef = .slice (some ⟨gp, 0, none⟩) q q := hb 10
                refine phx_run (.slice (some ⟨gp, 0, none⟩) q q) ?_ (Below.refl _ _) rfl
                clear hb hdep hold
                go_simp
              · intro x w1 bA hT hdep hold hb
                refine ⟨fun _ => ?_, fun h => absurd h (by decide)⟩
                refine .inl ⟨trivial, ?_⟩
                have e11 : bA.tmps[11]?.getD undef = .int .i64 ((jx : Int) + 1) := hb 11
                refine phx_run (.int .i64 ((jx : Int) + 1)) ?_ (Below.refl _ _) rfl
                clear hb hdep hold
                go_simp
              · intro x w1 bA hT hdep hold hb
                refine ⟨fun _ => ?_, fun h => absurd h (by decide)⟩
                refine .inl ⟨trivial, ?_⟩
                have e3 : bA.tmps[3]?.getD undef = .pointer (some ⟨fb, 0, none⟩) := hb 3
                have cc0 := (HF.out.below hT HF.out.lt).cell 0
                have cc1 := (HF.out.below hT HF.out.lt).cell 1
                refine phx_run (.agg #[.int .u64 (p : Int), .int .u64 (rt : Int)]) ?_ (Below.refl _ _) rfl
                clear hb hdep hold
                go_simp
              · intro x w1 bA hT hdep hold hb
                refine ⟨fun _ => ?_, fun h => absurd h (by decide)⟩
                refine .inl ⟨trivial, ?_⟩
                have e10 : bA.tmps[10]?.getD undef = .slice (some ⟨gp, 0, none⟩) q q := hb 10
                refine phx_run (.slice (some ⟨gp, 0, none⟩) q q) ?_ (Below.refl _ _) rfl
                clear hb hdep hold
                go_simp
              · intro x w1 bA hT hdep hold hb
                refine ⟨fun _ => ?_, fun h => absurd h (by decide)⟩
                refine .inl ⟨trivial, ?_⟩
                have e11 : bA.tmps[11]?.getD undef = .int .i64 ((jx : Int) + 1) := hb 11
                refine phx_run (.int .i64 ((jx : Int) + 1)) ?_ (Below.refl _ _) rfl
                clear hb hdep hold
                go_simp
              · intro x w1 bA hT hdep hold hb
                refine ⟨fun _ => ?_, fun h => absurd h (by decide)⟩
                refine .inl ⟨trivial, ?_⟩
                have e54 : bA.tmps[54]?.getD undef = .int .i64 ((jx : Int) + 1) := (hb 54).trans (hdep 4 (by decide))
                have zw := HZW.out
                refine phx_run (.int .i64 (jx : Int)) ?_ (Below.refl _ _) rfl
                clear hb hdep hold
                go_simp
              · intro x w1 bA hT hdep hold hb
                refine ⟨fun _ => ?_, fun h => absurd h (by decide)⟩
                refine .inl ⟨trivial, ?_⟩
                have e53 : bA.tmps[53]?.getD undef = .slice (some ⟨gp, 0, none⟩) q q := (hb 53).trans (hdep 3 (by decide))
                have e55 : bA.tmps[55]?.getD undef = .int .i64 (jx : Int) := (hb 55).trans (hdep 5 (by decide))
                have zz := HZ1.out
                refine phx_run (.pointer (some ⟨gp, jx, none⟩)) ?_ (Below.refl _ _) rfl
                clear hb hdep hold
                go_simp
              · intro x w1 bA hT hdep hold hb
                refine ⟨fun _ => ?_, fun h => absurd h (by decide)⟩
                refine .inl ⟨trivial, ?_⟩
                have e56 : bA.tmps[56]?.getD undef = .pointer (some ⟨gp, jx, none⟩) := (hb 56).trans (hdep 6 (by decide))
                have cc := HC.out w1 hT
                refine phx_run (.int .u64 ((pv : Nat) : Int)) ?_ (Below.refl _ _) rfl
                clear hb hdep hold
                go_simp
              · intro x w1 bA hT hdep hold hb
                refine ⟨fun _ => ?_, fun h => absurd h (by decide)⟩
                refine .inl ⟨trivial, ?_⟩
                have e8 : bA.tmps[8]?.getD undef = .int .u64 ((root : Nat) : Int) := hb 8
                refine phx_run (.int .u64 ((root : Nat) : Int)) ?_ (Below.refl _ _) rfl
                clear hb hdep hold
                go_simp
              · intro x w1 bA hT hdep hold hb
                refine ⟨fun _ => ?_, fun h => absurd h (by decide)⟩
                refine .inl ⟨trivial, ?_⟩
                have e52 : bA.tmps[52]?.getD undef = .agg #[.int .u64 (p : Int), .int .u64 (rt : Int)] := (hb 52).trans (hdep 2 (by decide))
                have e57 : bA.tmps[57]?.getD undef = .int .u64 ((pv : Nat) : Int) := (hb 57).trans (hdep 7 (by decide))
                have e58 : bA.tmps[58]?.getD undef = .int .u64 ((root : Nat) : Int) := (hb 58).trans (hdep 8 (by decide))
                refine phx_call ?_ ((HM.out w1).mono fun e w' h => ⟨_, h.1, h.2, rfl⟩)
                clear hb hdep hold
                go_simp
              · intro x w1 bA hT hdep hold hb
                refine ⟨fun _ => ?_, fun h => absurd h (by decide)⟩
                refine .inl ⟨trivial, ?_⟩
                have e50 : bA.tmps[50]?.getD undef = .slice (some ⟨gp, 0, none⟩) q q := (hb 50).trans (hdep 0 (by decide))
                have e51 : bA.tmps[51]?.getD undef = .int .i64 ((jx : Int) + 1) := (hb 51).trans (hdep 1 (by decide))
                have zz := HZ2.out
                have zt := HZ3.out
                have z0 := HZ4.out
                refine phx_run (.pointer (some ⟨gp, jx + 1, none⟩)) ?_ (Below.refl _ _) rfl
                clear hb hdep hold
                go_simp
              · intro x w1 bA hT hdep hold hb
                refine ⟨fun h => absurd h (by decide), fun _ hall => ?_⟩
                refine ⟨trivial, ?_⟩
                have e59 : bA.tmps[59]?.getD undef = .int .u64 ((pn : Nat) : Int) := (hb 59).trans (hdep 9 (by decide))
                have e60 : bA.tmps[60]?.getD undef = .pointer (some ⟨gp, jx + 1, none⟩) := (hb 60).trans (hdep 10 (by decide))
                clear hb hdep hold
                have ccf := HFZ.out w1 hT
                have cco := HCW.out w1 hT
                have HTT := Lib.hid hT
                clear hT
                refine phx_st (R := fun W => ∃ w9, Below wo.heap.size wo w9 ∧ W = w9.setCell ⟨gp, jx + 1, none⟩ (.int .u64 ((pn : Nat) : Int))) (w1.setCell ⟨gp, jx + 1, none⟩ (.int .u64 ((pn : Nat) : Int))) ?_ rfl ⟨w1, HTT.out, rfl⟩
                go_simp
              intro x' w8 hR
              obtain ⟨w9, hw9, rfl⟩ := hR
              have HN9 := Lib.hid (HNX.out w9 hw9)
              simp only [putAll, dstOf, Act.put, List.map_cons, List.map_nil, List.setIfInBounds_toArray, List.set_cons_succ, List.set_cons_zero, Nat.reduceAdd]
              clear hw9 HNX HC HCW HFZ HF HM
              generalize w9.setCell ⟨gp, jx + 1, none⟩ (.int .u64 ((pn : Nat) : Int)) = w10 at *
              go_wp2_with fail
              go_roundg (q - (jx + 1 + 1))
              case measure => omega
              case rel => exact ⟨jx + 1, by omega, rfl, by go_num, HN9.out⟩
            · have z1 : ¬ ((jx : Int) + 1 < (q : Int)) := by omega
              have e3 : jx + 1 = q := by omega
              rw [e3, filN_all] at ag
              have HGP := Lib.hid (show Arr wo gp 115 (uc (pwL p root q)) from ag)
              have HW := Lib.hid ho
              have HF6 := Lib.hid hFo
              have HB6 := Lib.hid (HB5.out.trans (ho.below HS5.out (fun k hk => by rw [List.mem_singleton.1 hk]; exact HS4.out)))
              have HS6 := Lib.hid (show w.heap.size ≤ wo.heap.size from Nat.le_trans HS5.out ho.size)
              clear ag ho hFo HF5 HB5 HS5 e3 nfb
              obtain ⟨pws, hpws⟩ : ∃ l, l = pwL p root q := ⟨_, rfl⟩
              rw [← hpws] at HGP
              obtain ⟨F, hF⟩ : ∃ F : Nat → Nat, F = fun a => detG p n (matA p pws a q m) 0 1 := ⟨_, rfl⟩
              have HVA := Lib.hid (show valA p root q m = (List.range q).map F by rw [hF, hpws]; unfold valA; rw [HN.out])
              have HFD := Lib.hid hF
              have HPL := Lib.hid (show pws.length = q by rw [hpws]; simp [pwL])
              have HPW := Lib.hid (fun j => (show gn pws j < p by rw [hpws]; exact map_range_lt (by omega) (fun k => twF_lt (by omega) root k) j))
              clear hpws hF z1
              have hmk := fun W => mk_u64 q (by omega) W
              have hAl := (Below.refl wo.heap.size wo).alloc (Nat.le_refl _) (.cells (rowOf (List.replicate q (.int .u64 0))) 115)
              have hgv : Arr (wo.alloc (.cells (rowOf (List.replicate q (.int .u64 0))) 115)) wo.heap.size 115 (uc (filN q F 0)) := by
                rw [filN_zero, show uc (List.replicate q 0) = List.replicate q (.int .u64 0) by simp [uc]]
                exact Arr.new wo 115 (List.replicate q (.int .u64 0))
              have HF7 := Lib.hid (HF6.out.below hAl HF6.out.lt)
              have HGP7 := Lib.hid (HGP.out.below hAl HGP.out.lt)
              have HB7 := Lib.hid (HB6.out.trans (hAl.mono HS6.out))
              have HS7 := Lib.hid (show w.heap.size ≤ wo.heap.size from HS6.out)
              have HNV := Lib.hid (show fb ∉ [wo.heap.size] ∧ gp ∉ [wo.heap.size] from ⟨fun e => by have := List.mem_singleton.1 e; have := HF6.out.lt; omega, fun e => by have := List.mem_singleton.1 e; have := HGP.out.lt; omega⟩)
              have HGV := Lib.hid hgv
              have HLT := Lib.hid (show wo.heap.size < (wo.alloc (.cells (rowOf (List.replicate q (.int .u64 0))) 115)).heap.size from hgv.lt)
              clear hAl hgv HF6 HGP HB6 HS6 HW
              go_upto_region 15 with fail
              generalize wo.alloc (.cells (rowOf (List.replicate q (.int .u64 0))) 115) = w7 at *
              generalize wo.heap.size = gv at *
              clear hmk
              go_wp2_with fail
              go_loopg [13, 14, 15, 16, 17, 18, 20, 21, 65] q (fun gk s13 s14 s15 s16 s17 s18 s20 s21 s65 wr => ∃ a : Nat, a ≤ q ∧ gk = q - a ∧ s65 = .int .i64 (a : Int) ∧ Arr wr gv 115 (uc (filN q F a)) ∧ Wr [gv] w7 wr)
              case atStart => exact ⟨0, by omega, rfl, rfl, HGV.out, Wr.refl _ _⟩
              case round =>
                clear HGV
                obtain ⟨a, ha, rfl, rfl, av, ho⟩ := hrel
                obtain ⟨wb, rfl⟩ : ∃ wb : World, wb = wr := ⟨_, rfl⟩
                by_cases hat : a < q
                · have z1 : (a : Int) < (q : Int) := by omega
                  have hB := HB7.out.trans (ho.below (by have := HS7.out; have := HLT.out; omega) (fun k hk => by rw [List.mem_singleton.1 hk]; exact HS7.out))
                  have hBs : w.heap.size ≤ wb.heap.size := hB.size
                  have hmk := fun W => mk_rows64 n (by omega) W
                  have hAl := (Below.refl wb.heap.size wb).alloc (Nat.le_refl _) (.cells (rowOf (List.replicate n (.slice none 0 0))) 118)
                  have HF8 := Lib.hid ((HF7.out.wr ho HNV.out.1).below hAl (HF7.out.wr ho HNV.out.1).lt)
                  have HGP8 := Lib.hid ((HGP7.out.wr ho HNV.out.2).below hAl (HGP7.out.wr ho HNV.out.2).lt)
                  have HGV8 := Lib.hid (av.below hAl av.lt)
                  have HB8 := Lib.hid (hB.trans (hAl.mono hBs))
                  have HO8 := Lib.hid (ho.trans (Wr.of_below hAl))
                  obtain ⟨MA, hMA⟩ : ∃ M, M = matA p pws a q m := ⟨_, rfl⟩
                  have HMA := Lib.hid hMA
                  have HM1 := Lib.hid (show MA.length = n ∧ (∀ i, i < n → (gr MA i).length = n) ∧ Ltm p MA by
                    rw [hMA]
                    refine ⟨by simp [matA, HN.out], fun i hi => ?_, ltm_matA (by omega) _ _ _ _⟩
                    have hi2 : i < m.length := by rw [← HN.out]; exact hi
                    rw [gr_matA hi2, rowA_eq, List.length_map, List.length_range]
                    exact HQ.out _ (List.getElem_mem hi2))
                  have HPM := Lib.hid (show Pm n wb.heap.size (wb.alloc (.cells (rowOf (List.replicate n (.slice none 0 0))) 118)) MA 0 [] (wb.alloc (.cells (rowOf (List.replicate n (.slice none 0 0))) 118)) from
                    ⟨rfl, fun x y b hx => by simp at hx, fun b hb => by simp at hb, Arr.new wb 118 (List.replicate n (.slice none 0 0)), fun j b hj => by simp at hj, Wr.refl _ _⟩)
                  have HBG := Lib.hid (show fb < wb.heap.size ∧ gp < wb.heap.size ∧ gv < wb.heap.size ∧ w.heap.size ≤ wb.heap.size from ⟨(HF7.out.wr ho HNV.out.1).lt, (HGP7.out.wr ho HNV.out.2).lt, av.lt, hBs⟩)
                  have HGL := Lib.hid (show wb.heap.size < (wb.alloc (.cells (rowOf (List.replicate n (.slice none 0 0))) 118)).heap.size from by simp)
                  have HG7 := Lib.hid (show w7.heap.size ≤ wb.heap.size from ho.size)
                  clear hAl hB hBs av ho hMA
                  go_upto_region 19 with fail
                  generalize wb.alloc (.cells (rowOf (List.replicate n (.slice none 0 0))) 118) = w8 at *
                  generalize wb.heap.size = gm at *
                  clear hmk
                  go_wp2_with fail
                  go_loopg [15, 16, 17, 18, 20, 21, 73] n (fun gk s15 s16 s17 s18 s20 s21 s73 wr => ∃ (i : Nat) (bs : List Nat), i ≤ n ∧ gk = n - i ∧ s73 = .int .i64 (i : Int) ∧ Pm n gm w8 MA i bs wr)
                  case atStart => exact ⟨0, [], by omega, rfl, rfl, HPM.out⟩
                  case round =>
                    clear HPM
                    obtain ⟨iy, bs, hiy, rfl, rfl, hpm⟩ := hrel
                    obtain ⟨wc, rfl⟩ : ∃ wc : World, wc = wr := ⟨_, rfl⟩
                    by_cases hit : iy < n
                    · have z2 : (iy : Int) < (n : Int) := by omega
                      have hBc := HB8.out.trans (hpm.wr.below (by have := HB8.out.size; omega) (fun k hk => by rw [List.mem_singleton.1 hk]; exact HBG.out.2.2.2))
                      have hml : iy < m.length := by rw [← HN.out]; exact hit
                      obtain ⟨b1, o1, hA, hnm, u, hu, hrow⟩ := HH.out.at_ hml
                      clear hnm
                      subst hA
                      have hrl : m[iy].length = n := by rw [HN.out]; have := HQ.out m[iy] (List.getElem_mem hml); rw [HN.out] at this; exact this
                      obtain ⟨A1, c1', rfl⟩ := hrow.form
                      rw [hrl] at hu hrow
                      have c1 := (hBc.cell (block_lt_of_cell hu)).trans hu
                      have HROW := Lib.hid hrow
                      have HSR := Lib.hid (HS.out m[iy] (List.getElem_mem hml))
                      obtain ⟨rw_, hrw⟩ : ∃ r, r = m[iy] := ⟨_, rfl⟩
                      rw [← hrw] at HROW HSR hrl
                      obtain ⟨G, hG⟩ : ∃ G : Nat → Nat, G = fun k => entA p pws a q (rw_[k]?.getD []) := ⟨_, rfl⟩
                      have HGR := Lib.hid (show gr MA iy = (List.range n).map G by
                        have hml2 : iy < m.length := by rw [← HN.out]; exact hit
                        rw [HMA.out, gr_matA hml2, rowA_eq, hG, ← hrl, ← hrw])
                      have HGD := Lib.hid hG
                      have HRL := Lib.hid hrl
                      have hmk := fun W => mk_u64 n (by omega) W
                      have hAl := (Below.refl wc.heap.size wc).alloc (Nat.le_refl _) (.cells (rowOf (List.replicate n (.int .u64 0))) 115)
                      have hou := hpm.outer.alloc (.cells (rowOf (List.replicate n (.int .u64 0))) 115)
                      have c2 : (wc.alloc (.cells (rowOf (List.replicate n (.int .u64 0))) 115)).cell? ⟨gm, iy, none⟩ = some (.slice none 0 0) := by
                        rw [hou.cell, List.getElem?_append_right (by simp [hpm.len]), List.length_map, hpm.len, Nat.sub_self, List.getElem?_replicate, if_pos (by omega)]
                      have f2 := hou.frozen iy
                      have hgc : gm < wc.heap.size := hpm.outer.lt
                      have hbi : Arr (wc.alloc (.cells (rowOf (List.replicate n (.int .u64 0))) 115)) wc.heap.size 115 (uc (filN n G 0)) := by
                        rw [filN_zero, show uc (List.replicate n 0) = List.replicate n (.int .u64 0) by simp [uc]]
                        exact Arr.new wc 115 (List.replicate n (.int .u64 0))
                      have on9 := (Onl.refl gm (wc.alloc (.cells (rowOf (List.replicate n (.int .u64 0))) 115))).setCell iy (.slice (some ⟨wc.heap.size, 0, none⟩) n n)
                      have HBI9 := Lib.hid (hbi.onl on9 (by omega))
                      have hFc := HF8.out.wr hpm.wr (fun e => by have := List.mem_singleton.1 e; have := HBG.out.1; omega)
                      have hGc := HGP8.out.wr hpm.wr (fun e => by have := List.mem_singleton.1 e; have := HBG.out.2.1; omega)
                      have HF9 := Lib.hid ((hFc.below hAl hFc.lt).onl on9 (by have := HBG.out.1; omega))
                      have HGP9 := Lib.hid ((hGc.below hAl hGc.lt).onl on9 (by have := HBG.out.2.1; omega))
                      have HB9 := Lib.hid ((hBc.trans (hAl.mono hBc.size)).trans (on9.below (show w.heap.size ≤ gm from HBG.out.2.2.2)))
                      have HGM9 := Lib.hid (hou.set iy (.slice (some ⟨wc.heap.size, 0, none⟩) n n))
                      have HGMC := Lib.hid (show ((bs.map (hd n) ++ List.replicate (n - iy) (Value.slice none 0 0)).set iy (.slice (some ⟨wc.heap.size, 0, none⟩) n n))[iy]? = some (.slice (some ⟨wc.heap.size, 0, none⟩) n n) by
                        rw [List.getElem?_set, if_pos rfl, if_pos (by simp [hpm.len]; omega)])
                      have HPN := Lib.hid (fun w10 h1 h2 => hpm.next (o := .cells (rowOf (List.replicate n (.int .u64 0))) 115) (w10 := w10) HGL.out hit h1 h2)
                      have HNG := Lib.hid (show fb ≠ wc.heap.size ∧ gp ≠ wc.heap.size ∧ gm ≠ wc.heap.size ∧ w.heap.size ≤ wc.heap.size from ⟨by have := hFc.lt; omega, by have := hGc.lt; omega, by omega, hBc.size⟩)
                      clear hG hrow hu hAl hou hbi on9 hFc hGc hpm hBc hrw hrl hml
                      go_upto_region 23 with fail
                      rw [World.setCell_alloc_past _ _ _ _ hgc] at HBI9 HF9 HGP9 HB9 HGM9 HPN
                      generalize (wc.setCell ⟨gm, iy, none⟩ (.slice (some ⟨wc.heap.size, 0, none⟩) n n)).alloc (.cells (rowOf (List.replicate n (.int .u64 0))) 115) = w9 at *
                      generalize wc.heap.size = bi at *
                      clear hmk c1 c2 f2
                      go_wp2_with fail
                      go_loopg [17, 18, 20, 21, 86] n (fun gk s17 s18 s20 s21 s86 wr => ∃ k : Nat, k ≤ n ∧ gk = n - k ∧ s86 = .int .i64 (k : Int) ∧ Arr wr bi 115 (uc (filN n G k)) ∧ Wr [bi] w9 wr)
                      case atStart => exact ⟨0, by omega, rfl, rfl, HBI9.out, Wr.refl _ _⟩
                      case round =>
                        clear HBI9
                        obtain ⟨k, hk, rfl, rfl, bv, ho⟩ := hrel
                        obtain ⟨wd, rfl⟩ : ∃ wd : World, wd = wr := ⟨_, rfl⟩
                        by_cases hkt : k < n
                        · have z3 : (k : Int) < (n : Int) := by omega
                          have hBd := HB9.out.trans (ho.below HB9.out.size (fun x hx => by rw [List.mem_singleton.1 hx]; exact HNG.out.2.2.2))
                          have hkl : k < rw_.length := by rw [HRL.out]; exact hkt
                          obtain ⟨b2, o2', hA1, hnm, u2, hu2, hent⟩ := HROW.out.at_ hkl
                          clear hnm
                          subst hA1
                          have hent2 := hent
                          obtain ⟨A2, c2', hv2, _⟩ := hent2
                          subst hv2
                          have c1 := (hBd.cell (block_lt_of_cell hu2)).trans hu2
                          have hts := HSR.out rw_[k] (List.getElem_mem hkl)
                          have hGk : G k = entA p pws a q rw_[k] := by rw [HGD.out]; show entA p pws a q (rw_[k]?.getD []) = _; rw [List.getElem?_eq_getElem hkl]; rfl
                          generalize rw_[k] = ts at *
                          have HTS := Lib.hid hts.1
                          obtain ⟨L, hL⟩ : ∃ L, L = ts.length := ⟨_, rfl⟩
                          have hL2 : L ≤ 131072 := by rw [hL]; exact hts.2
                          rw [← hL] at c1 hent
                          have HL := Lib.hid hL
                          have HENT := Lib.hid hent
                          have HGK := Lib.hid hGk
                          have HBV := Lib.hid (show Arr wd bi 115 (uc ((filN n G k).set k ((ts.take 0).foldl (trmA p pws a q) 0))) by
                            rw [show ((ts.take 0).foldl (trmA p pws a q) 0) = 0 from rfl, filN_set0 hkt]
                            exact bv)
                          have HO := Lib.hid ho
                          clear hts hL hent hu2 hBd hGk bv ho hkl
                          go_wp2_with fail
                          go_loopg [20, 21, 93] L (fun gk s20 s21 s93 wr => ∃ t : Nat, t ≤ L ∧ gk = L - t ∧ s93 = .int .i64 (t : Int) ∧ Arr wr bi 115 (uc ((filN n G k).set k ((ts.take t).foldl (trmA p pws a q) 0))) ∧ Wr [bi] w9 wr)
                          case atStart => exact ⟨0, by omega, rfl, rfl, HBV.out, HO.out⟩
                          case round =>
                            clear HBV HO c1
                            obtain ⟨t, ht, rfl, rfl, bv, ho⟩ := hrel
                            obtain ⟨we, rfl⟩ : ∃ we : World, we = wr := ⟨_, rfl⟩
                            by_cases htt : t < L
                            · have z4 : (t : Int) < (L : Int) := by omega
                              have htl : t < ts.length := by rw [← HL.out]; exact htt
                              have hBe := HB9.out.trans (ho.below HB9.out.size (fun x hx => by rw [List.mem_singleton.1 hx]; exact HNG.out.2.2.2))
                              obtain ⟨b3, o3', hA2, hnm, q0, q1⟩ := HENT.out.t1 htl
                              clear hnm
                              subst hA2
                              have c1 := (hBe.cell (block_lt_of_cell q0)).trans q0
                              have c2 := (hBe.cell (block_lt_of_cell q1)).trans q1
                              have hsm := HTS.out ts[t] (List.getElem_mem htl)
                              have H117 := Lib.hid (foldA_take (p := p) (pws := pws) (at_ := a) (size := q) htl)
                              generalize ts[t] = tm at *
                              obtain ⟨ex, cf⟩ := tm
                              simp only at c1 c2 hsm
                              clear q0 q1 htl
                              go_upto_region 29 with fail
                              have hAl := (Below.refl we.heap.size we).alloc (Nat.le_refl _) (.cells #[.int .i64 (ex : Int), .int .i64 cf] 111)
                              have hTB : Arr (we.alloc (.cells #[.int .i64 (ex : Int), .int .i64 cf] 111)) we.heap.size 111 [.int .i64 (ex : Int), .int .i64 cf] := Arr.new we _ [_, _]
                              have hFe := HF9.out.wr ho (fun e => by have := List.mem_singleton.1 e; exact HNG.out.1 this)
                              have hGe := HGP9.out.wr ho (fun e => by have := List.mem_singleton.1 e; exact HNG.out.2.1 this)
                              have hMe := HGM9.out.wr ho (fun e => by have := List.mem_singleton.1 e; exact HNG.out.2.2.1 this)
                              have HF := Lib.hid (hFe.below hAl hFe.lt)
                              have HGP10 := Lib.hid (hGe.below hAl hGe.lt)
                              have HGM10 := Lib.hid (hMe.below hAl hMe.lt)
                              have HBI10 := Lib.hid (bv.below hAl bv.lt)
                              have HO10 := Lib.hid (ho.trans (Wr.of_below hAl))
                              clear hFe hGe hMe bv ho hAl hBe c1 c2
                              generalize we.alloc (.cells #[.int .i64 (ex : Int), .int .i64 cf] 111) = w10 at *
                              generalize we.heap.size = tb at *
                              have y0 := hTB.cell 0
                              have HTB := Lib.hid hTB
                              have hmq : ex * a % q < q := Nat.mod_lt _ (by omega)
                              have c5 := (HGP10.out.cell (ex * a % q)).trans (uc_get (by rw [HPL.out]; exact hmq))
                              have hpw := HPW.out (ex * a % q)
                              have HPD := Lib.hid (show gn pws (ex * a % q) = gn pws (ex * a % q) from rfl)
                              have hea : ex * a ≤ 131072 * 131072 := Nat.mul_le_mul (by omega) (by omega)
                              have hea2 : (ex : Int) * (a : Int) ≤ 131072 * 131072 := by rw [← Int.natCast_mul]; omega
                              have hea3 : 0 ≤ (ex : Int) * (a : Int) := by rw [← Int.natCast_mul]; omega
                              have zE : (ex : Int) * (a : Int) % (q : Int) = ((ex * a % q : Nat) : Int) := by rw [Int.natCast_emod, Int.natCast_mul]
                              have zi : (ex : Int) * (a : Int) % (q : Int) < (q : Int) := by rw [zE]; omega
                              have zj : 0 ≤ (ex : Int) * (a : Int) % (q : Int) := by rw [zE]; omega
                              have zt : ((ex : Int) * (a : Int) % (q : Int)).toNat = ex * a % q := by rw [zE]; omega
                              clear zE HPD
                              obtain ⟨ix, hix⟩ : ∃ i, i = ex * a % q := ⟨_, rfl⟩
                              rw [← hix] at zt c5 hpw hmq
                              have HIX := Lib.hid hix
                              clear hix
                              clear hTB
                              go_upto_region 30 with fail
                              clear zi zj zt hea hea2 hea3 y0 c5 hmq
                              have hof := ofF_lt (p := p) (x := cf) hsm.1
                              have hacc : (ts.take t).foldl (trmA p pws a q) 0 < p := foldA_lt (by omega) _ 0 (by omega)
                              have HOF := Lib.hid (fun W => fof_any p rt cf W hp hsm.1)
                              have HMU := Lib.hid (fun W => fmul_any p rt (ofF p cf) (gn pws ix) W (by omega) (by omega) (by omega) (by omega))
                              have hpr : ofF p cf * gn pws ix % p < p := Nat.mod_lt _ (by omega)
                              have HAD := Lib.hid (fun W => fadd_any p rt ((ts.take t).foldl (trmA p pws a q) 0) (ofF p cf * gn pws ix % p) W hp hacc hpr)
                              have HSM := Lib.hid (show (ts.take (t + 1)).foldl (trmA p pws a q) 0 = addF p ((ts.take t).foldl (trmA p pws a q) 0) (ofF p cf * gn pws ix % p) by rw [H117.out, HIX.out]; rfl)
                              generalize (ts.take t).foldl (trmA p pws a q) 0 = acc at *
                              generalize ofF p cf * gn pws ix % p = pr at *
                              generalize ofF p cf = of_ at *
                              generalize gn pws ix = pw at *
                              generalize addF p acc pr = sm at *
                              have HZI := Lib.hid z2
                              have HZK := Lib.hid z3
                              have HGC := Lib.hid (fun W (hb : Below w10.heap.size w10 W) => ((HGM10.out.below hb HGM10.out.lt).cell iy).trans HGMC.out)
                              have HCW := Lib.hid (fun W (hb : Below w10.heap.size w10 W) => (((HBI10.out.below hb HBI10.out.lt).cell k).trans (uc_get (by rw [List.length_set, filN_length]; exact hkt)) : W.cell? ⟨bi, k, none⟩ = some (.int .u64 (gn ((filN n G k).set k acc) k : Nat))))
                              have hgk : gn ((filN n G k).set k acc) k = acc := by rw [gn_set _ _ _ _ (by rw [filN_length]; exact hkt), if_pos rfl]
                              rw [hgk] at HCW
                              clear hgk
                              have HFZ := Lib.hid (fun W (hb : Below w10.heap.size w10 W) => (HBI10.out.below hb HBI10.out.lt).frozen k)
                              have HTC := Lib.hid (fun W (hb : Below w10.heap.size w10 W) => ((HTB.out.below hb HTB.out.lt).cell 1 : W.cell? ⟨tb, 1, none⟩ = some (.int .i64 cf)))
                              have HNX := Lib.hid (fun (w9' : World) (hb : Below w10.heap.size w10 w9') => (show Arr (w9'.setCell ⟨bi, k, none⟩ (.int .u64 ((sm : Nat) : Int))) bi 115 (uc ((filN n G k).set k sm)) ∧ Wr [bi] w9 (w9'.setCell ⟨bi, k, none⟩ (.int .u64 ((sm : Nat) : Int))) from by
                                have h1 := (HBI10.out.below hb HBI10.out.lt).set k (.int .u64 ((sm : Nat) : Int))
                                rw [uc_set, List.set_set] at h1
                                exact ⟨h1, (HO10.out.trans (Wr.of_below hb)).setCell (List.mem_singleton.2 rfl) k _⟩))
                              refine wp_region_phx (fun a b => Below a.heap.size a b) (fun h k => h.trans (k.mono h.size)) ((Below.refl _ _).drew) 22 (by kernel_rfl) (by kernel_rfl) (by kernel_rfl) (by kernel_rfl) rfl (by kernel_rfl) (phiT (fun i => ([some (.slice (some ⟨gm, 0, none⟩) n n), some (.int .i64 (iy : Int)), some (.pointer (some ⟨gm, iy, none⟩)), some (.slice (some ⟨bi, 0, none⟩) n n), some (.int .i64 (k : Int)), some (.agg #[.int .u64 (p : Int), .int .u64 (rt : Int)]), some (.slice (some ⟨gm, 0, none⟩) n n), some (.int .i64 (iy : Int)), some (.pointer (some ⟨gm, iy, none⟩)), some (.slice (some ⟨bi, 0, none⟩) n n), some (.int .i64 (k : Int)), some (.pointer (some ⟨bi, k, none⟩)), some (.int .u64 ((acc : Nat) : Int)), some (.agg #[.int .u64 (p : Int), .int .u64 (rt : Int)]), some (.agg #[.int .u64 (p : Int), .int .u64 (rt : Int)]), some (.pointer (some ⟨tb, 1, none⟩)), some (.int .i64 cf), some (.int .u64 ((of_ : Nat) : Int)), some (.int .u64 ((pw : Nat) : Int)), some (.int .u64 ((pr : Nat) : Int)), some (.int .u64 ((sm : Nat) : Int)), some (.pointer (some ⟨bi, k, none⟩)), some (undef)] : List (Option Value)).getD i none) (fun i v w => True)) (fun i v w w' h hb => ?_) (fun _ W => ∃ w9, Below w10.heap.size w10 w9 ∧ W = w9.setCell ⟨bi, k, none⟩ (.int .u64 ((sm : Nat) : Int))) ⟨?_, ?_, ?_, ?_, ?_, ?_, ?_, ?_, ?_, ?_, ?_, ?_, ?_, ?_, ?_, ?_, ?_, ?_, ?_, ?_, ?_, ?_, ?_, trivial⟩ ?_
                              · unfold phiT at h ⊢
                                split
                                · next u hu => rw [hu] at h; exact h
                                · next hu =>
                                  rw [hu] at h
                                  exact True.intro
                              · intro x w1 bA hT hdep hold hb
                                refine ⟨fun _ => ?_, fun h => absurd h (by decide)⟩
                                refine .inl ⟨trivial, ?_⟩
                                have e14 : bA.tmps[14]?.getD undef = .slice (some ⟨gm, 0, none⟩) n n := hb 14
                                refine phx_run (.slice (some ⟨gm, 0, none⟩) n n) ?_ (Below.refl _ _) rfl
                                clear hb hdep hold
                                go_simp
                              · intro x w1 bA hT hdep hold hb
                                refine ⟨fun _ => ?_, fun h => absurd h (by decide)⟩
                                refine .inl ⟨trivial, ?_⟩
                                have e15 : bA.tmps[15]?.getD undef = .int .i64 (iy : Int) := hb 15
                                refine phx_run (.int .i64 (iy : Int)) ?_ (Below.refl _ _) rfl
                                clear hb hdep hold
                                go_simp
                              · intro x w1 bA hT hdep hold hb
                                refine ⟨fun _ => ?_, fun h => absurd h (by decide)⟩
                                refine .inl ⟨trivial, ?_⟩
                                have e106 : bA.tmps[106]?.getD undef = .slice (some ⟨gm, 0, none⟩) n n := (hb 106).trans (hdep 0 (by decide))
                                have e107 : bA.tmps[107]?.getD undef = .int .i64 (iy : Int) := (hb 107).trans (hdep 1 (by decide))
                                have zz := HZI.out
                                refine phx_run (.pointer (some ⟨gm, iy, none⟩)) ?_ (Below.refl _ _) rfl
                                clear hb hdep hold
                                go_simp
                              · intro x w1 bA hT hdep hold hb
                                refine ⟨fun _ => ?_, fun h => absurd h (by decide)⟩
                                refine .inl ⟨trivial, ?_⟩
                                have e108 : bA.tmps[108]?.getD undef = .pointer (some ⟨gm, iy, none⟩) := (hb 108).trans (hdep 2 (by decide))
                                have cc := HGC.out w1 hT
                                refine phx_run (.slice (some ⟨bi, 0, none⟩) n n) ?_ (Below.refl _ _) rfl
                                clear hb hdep hold
                                go_simp
                              · intro x w1 bA hT hdep hold hb
                                refine ⟨fun _ => ?_, fun h => absurd h (by decide)⟩
                                refine .inl ⟨trivial, ?_⟩
                                have e17 : bA.tmps[17]?.getD undef = .int .i64 (k : Int) := hb 17
                                refine phx_run (.int .i64 (k : Int)) ?_ (Below.refl _ _) rfl
                                clear hb hdep hold
                                go_simp
                              · intro x w1 bA hT hdep hold hb
                                refine ⟨fun _ => ?_, fun h => absurd h (by decide)⟩
                                refine .inl ⟨trivial, ?_⟩
                                have e3 : bA.tmps[3]?.getD undef = .pointer (some ⟨fb, 0, none⟩) := hb 3
                                have cc0 := (HF.out.below hT HF.out.lt).cell 0
                                have cc1 := (HF.out.below hT HF.out.lt).cell 1
                                refine phx_run (.agg #[.int .u64 (p : Int), .int .u64 (rt : Int)]) ?_ (Below.refl _ _) rfl
                                clear hb hdep hold
                                go_simp
                              · intro x w1 bA hT hdep hold hb
                                refine ⟨fun _ => ?_, fun h => absurd h (by decide)⟩
                                refine .inl ⟨trivial, ?_⟩
                                have e14 : bA.tmps[14]?.getD undef = .slice (some ⟨gm, 0, none⟩) n n := hb 14
                                refine phx_run (.slice (some ⟨gm, 0, none⟩) n n) ?_ (Below.refl _ _) rfl
                                clear hb hdep hold
                                go_simp
                              · intro x w1 bA hT hdep hold hb
                                refine ⟨fun _ => ?_, fun h => absurd h (by decide)⟩
                                refine .inl ⟨trivial, ?_⟩
                                have e15 : bA.tmps[15]?.getD undef = .int .i64 (iy : Int) := hb 15
                                refine phx_run (.int .i64 (iy : Int)) ?_ (Below.refl _ _) rfl
                                clear hb hdep hold
                                go_simp
                              · intro x w1 bA hT hdep hold hb
                                refine ⟨fun _ => ?_, fun h => absurd h (by decide)⟩
                                refine .inl ⟨trivial, ?_⟩
                                have e112 : bA.tmps[112]?.getD undef = .slice (some ⟨gm, 0, none⟩) n n := (hb 112).trans (hdep 6 (by decide))
                                have e113 : bA.tmps[113]?.getD undef = .int .i64 (iy : Int) := (hb 113).trans (hdep 7 (by decide))
                                have zz := HZI.out
                                refine phx_run (.pointer (some ⟨gm, iy, none⟩)) ?_ (Below.refl _ _) rfl
                                clear hb hdep hold
                                go_simp
                              · intro x w1 bA hT hdep hold hb
                                refine ⟨fun _ => ?_, fun h => absurd h (by decide)⟩
                                refine .inl ⟨trivial, ?_⟩
                                have e114 : bA.tmps[114]?.getD undef = .pointer (some ⟨gm, iy, none⟩) := (hb 114).trans (hdep 8 (by decide))
                                have cc := HGC.out w1 hT
                                refine phx_run (.slice (some ⟨bi, 0, none⟩) n n) ?_ (Below.refl _ _) rfl
                                clear hb hdep hold
                                go_simp
                              · intro x w1 bA hT hdep hold hb
                                refine ⟨fun _ => ?_, fun h => absurd h (by decide)⟩
                                refine .inl ⟨trivial, ?_⟩
                                have e17 : bA.tmps[17]?.getD undef = .int .i64 (k : Int) := hb 17
                                refine phx_run (.int .i64 (k : Int)) ?_ (Below.refl _ _) rfl
                                clear hb hdep hold
                                go_simp
                              · intro x w1 bA hT hdep hold hb
                                refine ⟨fun _ => ?_, fun h => absurd h (by decide)⟩
                                refine .inl ⟨trivial, ?_⟩
                                have e115 : bA.tmps[115]?.getD undef = .slice (some ⟨bi, 0, none⟩) n n := (hb 115).trans (hdep 9 (by decide))
                                have e116 : bA.tmps[116]?.getD undef = .int .i64 (k : Int) := (hb 116).trans (hdep 10 (by decide))
                                have zz := HZK.out
                                refine phx_run (.pointer (some ⟨bi, k, none⟩)) ?_ (Below.refl _ _) rfl
                                clear hb hdep hold
                                go_simp
                              · intro x w1 bA hT hdep hold hb
                                refine ⟨fun _ => ?_, fun h => absurd h (by decide)⟩
                                refine .inl ⟨trivial, ?_⟩
                                have e117 : bA.tmps[117]?.getD undef = .pointer (some ⟨bi, k, none⟩) := (hb 117).trans (hdep 11 (by decide))
                                have cc := HCW.out w1 hT
                                refine phx_run (.int .u64 ((acc : Nat) : Int)) ?_ (Below.refl _ _) rfl
                                clear hb hdep hold
                                go_simp
                              · intro x w1 bA hT hdep hold hb
                                refine ⟨fun _ => ?_, fun h => absurd h (by decide)⟩
                                refine .inl ⟨trivial, ?_⟩
                                have e3 : bA.tmps[3]?.getD undef = .pointer (some ⟨fb, 0, none⟩) := hb 3
                                have cc0 := (HF.out.below hT HF.out.lt).cell 0
                                have cc1 := (HF.out.below hT HF.out.lt).cell 1
                                refine phx_run (.agg #[.int .u64 (p : Int), .int .u64 (rt : Int)]) ?_ (Below.refl _ _) rfl
                                clear hb hdep hold
                                go_simp
                              · intro x w1 bA hT hdep hold hb
                                refine ⟨fun _ => ?_, fun h => absurd h (by decide)⟩
                                refine .inl ⟨trivial, ?_⟩
                                have e3 : bA.tmps[3]?.getD undef = .pointer (some ⟨fb, 0, none⟩) := hb 3
                                have cc0 := (HF.out.below hT HF.out.lt).cell 0
                                have cc1 := (HF.out.below hT HF.out.lt).cell 1
                                refine phx_run (.agg #[.int .u64 (p : Int), .int .u64 (rt : Int)]) ?_ (Below.refl _ _) rfl
                                clear hb hdep hold
                                go_simp
                              · intro x w1 bA hT hdep hold hb
                                refine ⟨fun _ => ?_, fun h => absurd h (by decide)⟩
                                refine .inl ⟨trivial, ?_⟩
                                have e20 : bA.tmps[20]?.getD undef = .pointer (some ⟨tb, 0, none⟩) := hb 20
                                refine phx_run (.pointer (some ⟨tb, 1, none⟩)) ?_ (Below.refl _ _) rfl
                                clear hb hdep hold
                                go_simp
                              · intro x w1 bA hT hdep hold hb
                                refine ⟨fun _ => ?_, fun h => absurd h (by decide)⟩
                                refine .inl ⟨trivial, ?_⟩
                                have e121 : bA.tmps[121]?.getD undef = .pointer (some ⟨tb, 1, none⟩) := (hb 121).trans (hdep 15 (by decide))
                                have cc := HTC.out w1 hT
                                refine phx_run (.int .i64 cf) ?_ (Below.refl _ _) rfl
                                clear hb hdep hold
                                go_simp
                              · intro x w1 bA hT hdep hold hb
                                refine ⟨fun _ => ?_, fun h => absurd h (by decide)⟩
                                refine .inl ⟨trivial, ?_⟩
                                have e120 : bA.tmps[120]?.getD undef = .agg #[.int .u64 (p : Int), .int .u64 (rt : Int)] := (hb 120).trans (hdep 14 (by decide))
                                have e122 : bA.tmps[122]?.getD undef = .int .i64 cf := (hb 122).trans (hdep 16 (by decide))
                                refine phx_call ?_ ((HOF.out w1).mono fun e w' h => ⟨_, h.1, h.2, rfl⟩)
                                clear hb hdep hold
                                go_simp
                              · intro x w1 bA hT hdep hold hb
                                refine ⟨fun _ => ?_, fun h => absurd h (by decide)⟩
                                refine .inl ⟨trivial, ?_⟩
                                have e21 : bA.tmps[21]?.getD undef = .int .u64 ((pw : Nat) : Int) := hb 21
                                refine phx_run (.int .u64 ((pw : Nat) : Int)) ?_ (Below.refl _ _) rfl
                                clear hb hdep hold
                                go_simp
                              · intro x w1 bA hT hdep hold hb
                                refine ⟨fun _ => ?_, fun h => absurd h (by decide)⟩
                                refine .inl ⟨trivial, ?_⟩
                                have e119 : bA.tmps[119]?.getD undef = .agg #[.int .u64 (p : Int), .int .u64 (rt : Int)] := (hb 119).trans (hdep 13 (by decide))
                                have e123 : bA.tmps[123]?.getD undef = .int .u64 ((of_ : Nat) : Int) := (hb 123).trans (hdep 17 (by decide))
                                have e124 : bA.tmps[124]?.getD undef = .int .u64 ((pw : Nat) : Int) := (hb 124).trans (hdep 18 (by decide))
                                refine phx_call ?_ ((HMU.out w1).mono fun e w' h => ⟨_, h.1, h.2, rfl⟩)
                                clear hb hdep hold
                                go_simp
                              · intro x w1 bA hT hdep hold hb
                                refine ⟨fun _ => ?_, fun h => absurd h (by decide)⟩
                                refine .inl ⟨trivial, ?_⟩
                                have e111 : bA.tmps[111]?.getD undef = .agg #[.int .u64 (p : Int), .int .u64 (rt : Int)] := (hb 111).trans (hdep 5 (by decide))
                                have e118 : bA.tmps[118]?.getD undef = .int .u64 ((acc : Nat) : Int) := (hb 118).trans (hdep 12 (by decide))
                                have e125 : bA.tmps[125]?.getD undef = .int .u64 ((pr : Nat) : Int) := (hb 125).trans (hdep 19 (by decide))
                                refine phx_call ?_ ((HAD.out w1).mono fun e w' h => ⟨_, h.1, h.2, rfl⟩)
                                clear hb hdep hold
                                go_simp
                              · intro x w1 bA hT hdep hold hb
                                refine ⟨fun _ => ?_, fun h => absurd h (by decide)⟩
                                refine .inl ⟨trivial, ?_⟩
                                have e109 : bA.tmps[109]?.getD undef = .slice (some ⟨bi, 0, none⟩) n n := (hb 109).trans (hdep 3 (by decide))
                                have e110 : bA.tmps[110]?.getD undef = .int .i64 (k : Int) := (hb 110).trans (hdep 4 (by decide))
                                have zz := HZK.out
                                refine phx_run (.pointer (some ⟨bi, k, none⟩)) ?_ (Below.refl _ _) rfl
                                clear hb hdep hold
                                go_simp
                              · intro x w1 bA hT hdep hold hb
                                refine ⟨fun h => absurd h (by decide), fun _ hall => ?_⟩
                                refine ⟨trivial, ?_⟩
                                have e126 : bA.tmps[126]?.getD undef = .int .u64 ((sm : Nat) : Int) := (hb 126).trans (hdep 20 (by decide))
                                have e127 : bA.tmps[127]?.getD undef = .pointer (some ⟨bi, k, none⟩) := (hb 127).trans (hdep 21 (by decide))
                                clear hb hdep hold
                                have ccf := HFZ.out w1 hT
                                have cco := HCW.out w1 hT
                                have HTT := Lib.hid hT
                                clear hT
                                refine phx_st (R := fun W => ∃ w9, Below w10.heap.size w10 w9 ∧ W = w9.setCell ⟨bi, k, none⟩ (.int .u64 ((sm : Nat) : Int))) (w1.setCell ⟨bi, k, none⟩ (.int .u64 ((sm : Nat) : Int))) ?_ rfl ⟨w1, HTT.out, rfl⟩
                                go_simp
                              intro x' w12 hR
                              obtain ⟨w11, hw11, rfl⟩ := hR
                              have HN11 := Lib.hid (HNX.out w11 hw11)
                              simp only [putAll, dstOf, Act.put, List.map_cons, List.map_nil, List.setIfInBounds_toArray, List.set_cons_succ, List.set_cons_zero, Nat.reduceAdd]
                              clear hw11 HNX HGC HCW HFZ HTC HF HOF HMU HAD
                              generalize w11.setCell ⟨bi, k, none⟩ (.int .u64 ((sm : Nat) : Int)) = w13 at *
                              go_wp2_with fail
                              go_roundg (L - (t + 1))
                              case measure => omega
                              case rel => exact ⟨t + 1, by omega, rfl, by go_num, by rw [HSM.out]; exact HN11.out.1, HN11.out.2⟩
                            · have z4 : ¬ ((t : Int) < (L : Int)) := by omega
                              have e6 : t = L := by omega
                              rw [e6, HL.out, List.take_length, show ts.foldl (trmA p pws a q) 0 = G k from HGK.out.symm, filN_step G hkt] at bv
                              have HBV := Lib.hid bv
                              have HO := Lib.hid ho
                              clear bv ho e6
                              go_wp2_with fail
                              go_roundg (n - (k + 1))
                              case measure => omega
                              case rel => exact ⟨k + 1, by omega, rfl, by go_num, HBV.out, HO.out⟩
                        · have z3 : ¬ ((k : Int) < (n : Int)) := by omega
                          have e5 : k = n := by omega
                          rw [e5, filN_all, ← HGR.out] at bv
                          have HPX := Lib.hid (HPN.out wd ho bv)
                          clear bv ho e5
                          go_wp2_with fail
                          go_roundg (n - (iy + 1))
                          case measure => omega
                          case rel => exact ⟨iy + 1, bs ++ [bi], by omega, rfl, by go_num, HPX.out⟩
                    · have z2 : ¬ ((iy : Int) < (n : Int)) := by omega
                      have e7 : iy = n := by omega
                      rw [e7] at hpm
                      have hmu := hpm.mu HGL.out HM1.out.1 HM1.out.2.1
                      have HDT := Lib.hid (fdet_any p rt gm n bs MA wc hmu HM1.out.1 (by omega) (by omega) hp HM1.out.2.2)
                      have hFA : detG p n MA 0 1 = F a := by rw [HFD.out, HMA.out]
                      rw [hFA] at HDT
                      have hFc := HF8.out.wr hpm.wr (fun e => by have := List.mem_singleton.1 e; have := HBG.out.1; omega)
                      have y0 := hFc.cell 0
                      have y1 := hFc.cell 1
                      have hvc := HGV8.out.wr hpm.wr (fun e => by have := List.mem_singleton.1 e; have := HBG.out.2.2.1; omega)
                      have hnv : gv ∉ gm :: bs := fun e => by
                        rcases List.mem_cons.1 e with x | x
                        · have := HBG.out.2.2.1; omega
                        · have := (hpm.big gv x).1; have := HBG.out.2.2.1; have := HGL.out; omega
                      have hbig : ∀ x ∈ gm :: bs, w7.heap.size ≤ x := fun x hx => by
                        rcases List.mem_cons.1 hx with e | e
                        · rw [e]; exact HG7.out
                        · have := (hpm.big x e).1; have := HG7.out; have := HGL.out; omega
                      have HWW := Lib.hid (HO8.out.far hpm.wr (fun x hx => by rw [List.mem_singleton.1 hx]; exact HG7.out))
                      have HCF := Lib.hid (fun (w' : World) (hdw : Wr (gm :: bs) wc w') => (show w'.cell? ⟨gv, a, none⟩ = some (.int .u64 (gn (filN q F a) a : Nat)) ∧ w'.frozen? ⟨gv, a, none⟩ = false from
                        ⟨((hvc.wr hdw hnv).cell a).trans (uc_get (by rw [filN_length]; exact hat)), (hvc.wr hdw hnv).frozen a⟩))
                      have HNX := Lib.hid (fun (w' : World) (hdw : Wr (gm :: bs) wc w') => (show Arr (w'.setCell ⟨gv, a, none⟩ (.int .u64 ((F a : Nat) : Int))) gv 115 (uc (filN q F (a + 1))) ∧ Wr [gv] w7 (w'.setCell ⟨gv, a, none⟩ (.int .u64 ((F a : Nat) : Int))) from by
                        have h1 := (hvc.wr hdw hnv).set a (.int .u64 ((F a : Nat) : Int))
                        rw [uc_set, filN_step F hat] at h1
                        exact ⟨h1, (HWW.out.far hdw hbig).setCell (List.mem_singleton.2 rfl) a _⟩))
                      generalize F a = fa at *
                      generalize gn (filN q F a) a = za at *
                      clear hpm hmu hFA hFc hvc hnv hbig e7
                      go_wp2_with (go_at_call 97; refine HDT.out.mono ?_; rintro e w' ⟨rfl, hdw⟩; obtain ⟨c8, c9⟩ := HCF.out w' hdw)
                      go_roundg (q - (a + 1))
                      case measure => omega
                      case rel => exact ⟨a + 1, by omega, rfl, by go_num, HNX.out _ hdw⟩
                · have z1 : ¬ ((a : Int) < (q : Int)) := by omega
                  have e8 : a = q := by omega
                  rw [e8, filN_all, ← HVA.out] at av
                  have hFb := HF7.out.wr ho HNV.out.1
                  have HBb := Lib.hid (HB7.out.trans (ho.below (by have := HS7.out; have := HLT.out; omega) (fun x hx => by rw [List.mem_singleton.1 hx]; exact HS7.out)))
                  obtain ⟨V, hV⟩ : ∃ V, V = valA p root q m := ⟨_, rfl⟩
                  rw [← hV] at av
                  have HVL := Lib.hid (show V.length = q by rw [hV]; simp [valA])
                  have hVL : ∀ j, gn V j < p := fun j => by
                    rw [hV]
                    exact map_range_lt (by omega) (fun k => detG_lt (by omega) _ _ _ _ (by omega)) j
                  have HVD := Lib.hid hV
                  have hiv := fInv_lt (show 1 < p by omega) root
                  have HI := Lib.hid (fun W => finverse_any p rt root W (by omega) hp (by omega))
                  have HTR := Lib.hid (fun W (hb : Below wb.heap.size wb W) => ftransform_any d p rt gv (fInv p root) q V W (av.below hb av.lt) HVL.out HQD.out hd17 (by omega) hp hiv hVL)
                  have HF := Lib.hid hFb
                  have HIR := Lib.hid (show fInv p root = fInv p root from rfl)
                  obtain ⟨iv, hivd⟩ : ∃ v, v = fInv p root := ⟨_, rfl⟩
                  rw [← hivd] at HI HTR hiv
                  have HIV := Lib.hid hivd
                  have HI2 := Lib.hid (fun W => finverse_any p rt q W (by omega) hp (by omega))
                  have hsc := fInv_lt (show 1 < p by omega) q
                  clear av ho hFb e8 hV hVL hivd HF7 HGP7 HB7 HFD HPL HPW
                  go_upto_region 36 with fail
                  refine wp_region_phy (fun a b => Below a.heap.size a b) (fun h k => h.trans (k.mono h.size)) ((Below.refl _ _).drew) (by kernel_rfl) (by kernel_rfl) (by kernel_rfl) (by kernel_rfl) (phiT (fun i => ([some (.agg #[.int .u64 (p : Int), .int .u64 (rt : Int)]), some (.slice (some ⟨gv, 0, none⟩) q q), some (.agg #[.int .u64 (p : Int), .int .u64 (rt : Int)]), some (.int .u64 ((root : Nat) : Int)), some (.int .u64 ((iv : Nat) : Int)), none, none] : List (Option Value)).getD i none) (fun i v w => (if i = 5 then (fun v w => TrR p d V iv wb q v w) v w else (if i = 6 then (fun v w => TrR p d V iv wb q v w) v w else True)))) (fun i v w w' h hb => ?_) ⟨?_, ?_, ?_, ?_, ?_, ?_, ?_, trivial⟩ ?_
                  · unfold phiT at h ⊢
                    split
                    · next u hu => rw [hu] at h; exact h
                    · next hu =>
                      rw [hu] at h
                      simp only at h ⊢
                      by_cases q5 : i = 5
                      · rw [if_pos q5] at h ⊢; exact h.below hb
                      · rw [if_neg q5] at h ⊢
                        by_cases q6 : i = 6
                        · rw [if_pos q6] at h ⊢; exact h.below hb
                        · rw [if_neg q6] at h ⊢
                          trivial
                  · intro x w1 bA hT hdep hold hb
                    refine .inl ⟨trivial, ?_⟩
                    have e3 : bA.tmps[3]?.getD undef = .pointer (some ⟨fb, 0, none⟩) := hb 3
                    have cc0 := (HF.out.below hT HF.out.lt).cell 0
                    have cc1 := (HF.out.below hT HF.out.lt).cell 1
                    refine phx_run (.agg #[.int .u64 (p : Int), .int .u64 (rt : Int)]) ?_ (Below.refl _ _) rfl
                    clear hb hdep hold
                    go_simp
                  · intro x w1 bA hT hdep hold hb
                    refine .inl ⟨trivial, ?_⟩
                    have e12 : bA.tmps[12]?.getD undef = .slice (some ⟨gv, 0, none⟩) q q := hb 12
                    refine phx_run (.slice (some ⟨gv, 0, none⟩) q q) ?_ (Below.refl _ _) rfl
                    clear hb hdep hold
                    go_simp
                  · intro x w1 bA hT hdep hold hb
                    refine .inl ⟨trivial, ?_⟩
                    have e3 : bA.tmps[3]?.getD undef = .pointer (some ⟨fb, 0, none⟩) := hb 3
                    have cc0 := (HF.out.below hT HF.out.lt).cell 0
                    have cc1 := (HF.out.below hT HF.out.lt).cell 1
                    refine phx_run (.agg #[.int .u64 (p : Int), .int .u64 (rt : Int)]) ?_ (Below.refl _ _) rfl
                    clear hb hdep hold
                    go_simp
                  · intro x w1 bA hT hdep hold hb
                    refine .inl ⟨trivial, ?_⟩
                    have e8 : bA.tmps[8]?.getD undef = .int .u64 ((root : Nat) : Int) := hb 8
                    refine phx_run (.int .u64 ((root : Nat) : Int)) ?_ (Below.refl _ _) rfl
                    clear hb hdep hold
                    go_simp
                  · intro x w1 bA hT hdep hold hb
                    refine .inl ⟨trivial, ?_⟩
                    have e140 : bA.tmps[140]?.getD undef = .agg #[.int .u64 (p : Int), .int .u64 (rt : Int)] := (hb 140).trans (hdep 2 (by decide))
                    have e141 : bA.tmps[141]?.getD undef = .int .u64 ((root : Nat) : Int) := (hb 141).trans (hdep 3 (by decide))
                    refine phx_call ?_ ((HI.out w1).mono fun e w' h => ⟨_, h.1, h.2, rfl⟩)
                    clear hb hdep hold
                    go_simp
                  · intro x w1 bA hT hdep hold hb
                    refine .inl ⟨trivial, ?_⟩
                    have e138 : bA.tmps[138]?.getD undef = .agg #[.int .u64 (p : Int), .int .u64 (rt : Int)] := (hb 138).trans (hdep 0 (by decide))
                    have e139 : bA.tmps[139]?.getD undef = .slice (some ⟨gv, 0, none⟩) q q := (hb 139).trans (hdep 1 (by decide))
                    have e142 : bA.tmps[142]?.getD undef = .int .u64 ((iv : Nat) : Int) := (hb 142).trans (hdep 4 (by decide))
                    refine phx_call ?_ ((HTR.out w1 hT).mono fun e w' q => (by obtain ⟨v, q1, q2, q3⟩ := q; exact ⟨v, q1, q3, q2.early hT⟩))
                    clear hb hdep hold
                    go_simp
                  · intro x w1 bA hT hdep hold hb
                    refine .inl ⟨trivial, ?_⟩
                    have p143 := hdep 5 (by decide)
                    have e143 : bA.tmps[143]?.getD undef = x 5 := hb 143
                    generalize x 5 = x143 at *
                    have P143 := Lib.hid (show (fun v w => TrR p d V iv wb q v w) x143 w1 from p143)
                    clear p143
                    refine phx_run (x143) ?_ (Below.refl _ _) (P143.out)
                    clear hb hdep hold
                    go_simp
                  intro x w1 hT hall
                  have x0e : x 0 = .agg #[.int .u64 (p : Int), .int .u64 (rt : Int)] := hall 0 (by decide)
                  have x1e : x 1 = .slice (some ⟨gv, 0, none⟩) q q := hall 1 (by decide)
                  have x2e : x 2 = .agg #[.int .u64 (p : Int), .int .u64 (rt : Int)] := hall 2 (by decide)
                  have x3e : x 3 = .int .u64 ((root : Nat) : Int) := hall 3 (by decide)
                  have x4e : x 4 = .int .u64 ((iv : Nat) : Int) := hall 4 (by decide)
                  have p143 := hall 5 (by decide)
                  have p22 := hall 6 (by decide)
                  simp only [putAll, dstOf, Act.put, List.map_cons, List.map_nil, List.setIfInBounds_toArray, List.set_cons_succ, List.set_cons_zero, Nat.reduceAdd, x0e, x1e, x2e, x3e, x4e]
                  clear x0e x1e x2e x3e x4e hall
                  have P22 : TrR p d V iv wb q (x 6) w1 := p22
                  clear p22 p143
                  generalize x 6 = v6 at *
                  obtain ⟨gc, rfl, hgc, ac⟩ := P22
                  obtain ⟨w14, rfl⟩ : ∃ w14 : World, w14 = w1 := ⟨_, rfl⟩
                  obtain ⟨TT, hTT⟩ : ∃ T, T = trF p d V iv := ⟨_, rfl⟩
                  rw [← hTT] at ac
                  have HTL := Lib.hid (show TT.length = q by rw [hTT, trF_length]; exact HQD.out.symm)
                  have HTLT := Lib.hid (fun j => (show gn TT j < p by rw [hTT]; exact trF_lt (by omega) d V iv (fun j => by rw [HVD.out]; exact map_range_lt (by omega) (fun k => detG_lt (by omega) _ _ _ _ (by omega)) j) j))
                  have HTD := Lib.hid hTT
                  have hF14 := HF.out.below hT HF.out.lt
                  have HB14 := Lib.hid (HBb.out.trans (hT.mono HBb.out.size))
                  have y0 := hF14.cell 0
                  have y1 := hF14.cell 1
                  have HNC := Lib.hid (show fb ≠ gc by have := HF.out.lt; omega)
                  have HGCB := Lib.hid (show w.heap.size ≤ gc from Nat.le_trans HBb.out.size hgc)
                  have HF14 := Lib.hid hF14
                  have HAC := Lib.hid ac
                  clear hTT hT hgc ac HF HBb hF14 HTR HI
                  have zq : ((q : Nat) : Int) % 18446744073709551616 = (q : Int) := by omega
                  obtain ⟨sc, hscd⟩ : ∃ s, s = fInv p q := ⟨_, rfl⟩
                  rw [← hscd] at HI2 hsc
                  have HSC := Lib.hid hscd
                  clear hscd
                  go_upto_region 38 with (go_at_call 99; refine (HI2.out _).mono ?_; rintro e w' ⟨rfl, hbm⟩)
                  have HF15 := Lib.hid (HF14.out.below hbm HF14.out.lt)
                  have HB15 := Lib.hid (HB14.out.trans (hbm.mono HB14.out.size))
                  have HA15 := Lib.hid (show Arr w' gc 115 (uc (sclN p sc TT 0)) by rw [sclN_zero]; exact HAC.out.below hbm HAC.out.lt)
                  clear hbm HF14 HB14 HAC HI2 y0 y1 zq
                  obtain ⟨w15, rfl⟩ : ∃ w15 : World, w15 = w' := ⟨_, rfl⟩
                  go_wp2_with fail
                  go_loopg [24, 150] q (fun gk s24 s150 wr => ∃ iz : Nat, iz ≤ q ∧ gk = q - iz ∧ s150 = .int .i64 (iz : Int) ∧ Arr wr gc 115 (uc (sclN p sc TT iz)) ∧ Wr [gc] w15 wr)
                  case atStart => exact ⟨0, by omega, rfl, rfl, HA15.out, Wr.refl _ _⟩
                  case round =>
                    clear HA15
                    obtain ⟨iz, hiz, rfl, rfl, av, ho⟩ := hrel
                    obtain ⟨wq, rfl⟩ : ∃ wq : World, wq = wr := ⟨_, rfl⟩
                    by_cases hit : iz < q
                    · have z1 : (iz : Int) < (q : Int) := by omega
                      have hitl : iz < TT.length := by rw [HTL.out]; exact hit
                      have htt := HTLT.out iz
                      have hFq := HF15.out.wr ho (fun e => HNC.out (List.mem_singleton.1 e))
                      have HF := Lib.hid hFq
                      have HM := Lib.hid (fun W => fmul_any p rt (gn TT iz) sc W (by omega) (by omega) (by omega) (by omega))
                      have HCW := Lib.hid (fun W (hb : Below wq.heap.size wq W) => (by
                        have h1 := ((av.below hb av.lt).cell iz).trans (uc_get (by rw [sclN_length]; exact hitl))
                        rw [gn_sclN_at hitl] at h1
                        exact h1 : W.cell? ⟨gc, iz, none⟩ = some (.int .u64 (gn TT iz : Nat))))
                      have HFZ := Lib.hid (fun W (hb : Below wq.heap.size wq W) => (av.below hb av.lt).frozen iz)
                      have HZ := Lib.hid z1
                      have HNX := Lib.hid (fun (w9' : World) (hb : Below wq.heap.size wq w9') => (show Arr (w9'.setCell ⟨gc, iz, none⟩ (.int .u64 ((gn TT iz * sc % p : Nat) : Int))) gc 115 (uc (sclN p sc TT (iz + 1))) ∧ Wr [gc] w15 (w9'.setCell ⟨gc, iz, none⟩ (.int .u64 ((gn TT iz * sc % p : Nat) : Int))) from by
                        have h1 := (av.below hb av.lt).set iz (.int .u64 ((gn TT iz * sc % p : Nat) : Int))
                        rw [uc_set, sclN_step hitl] at h1
                        exact ⟨h1, (ho.trans (Wr.of_below hb)).setCell (List.mem_singleton.2 rfl) iz _⟩))
                      generalize gn TT iz * sc % p = nv at *
                      generalize gn TT iz = tv at *
                      clear av ho hFq hitl
                      go_upto_region 41 with fail
                      refine wp_region_phx (fun a b => Below a.heap.size a b) (fun h k => h.trans (k.mono h.size)) ((Below.refl _ _).drew) 10 (by kernel_rfl) (by kernel_rfl) (by kernel_rfl) (by kernel_rfl) rfl (by kernel_rfl) (phiT (fun i => ([some (.slice (some ⟨gc, 0, none⟩) q q), some (.int .i64 (iz : Int)), some (.agg #[.int .u64 (p : Int), .int .u64 (rt : Int)]), some (.slice (some ⟨gc, 0, none⟩) q q), some (.int .i64 (iz : Int)), some (.pointer (some ⟨gc, iz, none⟩)), some (.int .u64 ((tv : Nat) : Int)), some (.int .u64 ((sc : Nat) : Int)), some (.int .u64 ((nv : Nat) : Int)), some (.pointer (some ⟨gc, iz, none⟩)), some (undef)] : List (Option Value)).getD i none) (fun i v w => True)) (fun i v w w' h hb => ?_) (fun _ W => ∃ w9, Below wq.heap.size wq w9 ∧ W = w9.setCell ⟨gc, iz, none⟩ (.int .u64 ((nv : Nat) : Int))) ⟨?_, ?_, ?_, ?_, ?_, ?_, ?_, ?_, ?_, ?_, ?_, trivial⟩ ?_
                      · unfold phiT at h ⊢
                        split
                        · next u hu => rw [hu] at h; exact h
                        · next hu =>
                          rw [hu] at h
                          exact True.intro
                      · intro x w1 bA hT hdep hold hb
                        refine ⟨fun _ => ?_, fun h => absurd h (by decide)⟩
                        refine .inl ⟨trivial, ?_⟩
                        have e22 : bA.tmps[22]?.getD undef = .slice (some ⟨gc, 0, none⟩) q q := hb 22
                        refine phx_run (.slice (some ⟨gc, 0, none⟩) q q) ?_ (Below.refl _ _) rfl
                        clear hb hdep hold
                        go_simp
                      · intro x w1 bA hT hdep hold hb
                        refine ⟨fun _ => ?_, fun h => absurd h (by decide)⟩
                        refine .inl ⟨trivial, ?_⟩
                        have e24 : bA.tmps[24]?.getD undef = .int .i64 (iz : Int) := hb 24
                        refine phx_run (.int .i64 (iz : Int)) ?_ (Below.refl _ _) rfl
                        clear hb hdep hold
                        go_simp
                      · intro x w1 bA hT hdep hold hb
                        refine ⟨fun _ => ?_, fun h => absurd h (by decide)⟩
                        refine .inl ⟨trivial, ?_⟩
                        have e3 : bA.tmps[3]?.getD undef = .pointer (some ⟨fb, 0, none⟩) := hb 3
                        have cc0 := (HF.out.below hT HF.out.lt).cell 0
                        have cc1 := (HF.out.below hT HF.out.lt).cell 1
                        refine phx_run (.agg #[.int .u64 (p : Int), .int .u64 (rt : Int)]) ?_ (Below.refl _ _) rfl
                        clear hb hdep hold
                        go_simp
                      · intro x w1 bA hT hdep hold hb
                        refine ⟨fun _ => ?_, fun h => absurd h (by decide)⟩
                        refine .inl ⟨trivial, ?_⟩
                        have e22 : bA.tmps[22]?.getD undef = .slice (some ⟨gc, 0, none⟩) q q := hb 22
                        refine phx_run (.slice (some ⟨gc, 0, none⟩) q q) ?_ (Below.refl _ _) rfl
                        clear hb hdep hold
                        go_simp
                      · intro x w1 bA hT hdep hold hb
                        refine ⟨fun _ => ?_, fun h => absurd h (by decide)⟩
                        refine .inl ⟨trivial, ?_⟩
                        have e24 : bA.tmps[24]?.getD undef = .int .i64 (iz : Int) := hb 24
                        refine phx_run (.int .i64 (iz : Int)) ?_ (Below.refl _ _) rfl
                        clear hb hdep hold
                        go_simp
                      · intro x w1 bA hT hdep hold hb
                        refine ⟨fun _ => ?_, fun h => absurd h (by decide)⟩
                        refine .inl ⟨trivial, ?_⟩
                        have e156 : bA.tmps[156]?.getD undef = .slice (some ⟨gc, 0, none⟩) q q := (hb 156).trans (hdep 3 (by decide))
                        have e157 : bA.tmps[157]?.getD undef = .int .i64 (iz : Int) := (hb 157).trans (hdep 4 (by decide))
                        have zz := HZ.out
                        refine phx_run (.pointer (some ⟨gc, iz, none⟩)) ?_ (Below.refl _ _) rfl
                        clear hb hdep hold
                        go_simp
                      · intro x w1 bA hT hdep hold hb
                        refine ⟨fun _ => ?_, fun h => absurd h (by decide)⟩
                        refine .inl ⟨trivial, ?_⟩
                        have e158 : bA.tmps[158]?.getD undef = .pointer (some ⟨gc, iz, none⟩) := (hb 158).trans (hdep 5 (by decide))
                        have cc := HCW.out w1 hT
                        refine phx_run (.int .u64 ((tv : Nat) : Int)) ?_ (Below.refl _ _) rfl
                        clear hb hdep hold
                        go_simp
                      · intro x w1 bA hT hdep hold hb
                        refine ⟨fun _ => ?_, fun h => absurd h (by decide)⟩
                        refine .inl ⟨trivial, ?_⟩
                        have e23 : bA.tmps[23]?.getD undef = .int .u64 ((sc : Nat) : Int) := hb 23
                        refine phx_run (.int .u64 ((sc : Nat) : Int)) ?_ (Below.refl _ _) rfl
                        clear hb hdep hold
                        go_simp
                      · intro x w1 bA hT hdep hold hb
                        refine ⟨fun _ => ?_, fun h => absurd h (by decide)⟩
                        refine .inl ⟨trivial, ?_⟩
                        have e155 : bA.tmps[155]?.getD undef = .agg #[.int .u64 (p : Int), .int .u64 (rt : Int)] := (hb 155).trans (hdep 2 (by decide))
                        have e159 : bA.tmps[159]?.getD undef = .int .u64 ((tv : Nat) : Int) := (hb 159).trans (hdep 6 (by decide))
                        have e160 : bA.tmps[160]?.getD undef = .int .u64 ((sc : Nat) : Int) := (hb 160).trans (hdep 7 (by decide))
                        refine phx_call ?_ ((HM.out w1).mono fun e w' h => ⟨_, h.1, h.2, rfl⟩)
                        clear hb hdep hold
                        go_simp
                      · intro x w1 bA hT hdep hold hb
                        refine ⟨fun _ => ?_, fun h => absurd h (by decide)⟩
                        refine .inl ⟨trivial, ?_⟩
                        have e153 : bA.tmps[153]?.getD undef = .slice (some ⟨gc, 0, none⟩) q q := (hb 153).trans (hdep 0 (by decide))
                        have e154 : bA.tmps[154]?.getD undef = .int .i64 (iz : Int) := (hb 154).trans (hdep 1 (by decide))
                        have zz := HZ.out
                        refine phx_run (.pointer (some ⟨gc, iz, none⟩)) ?_ (Below.refl _ _) rfl
                        clear hb hdep hold
                        go_simp
                      · intro x w1 bA hT hdep hold hb
                        refine ⟨fun h => absurd h (by decide), fun _ hall => ?_⟩
                        refine ⟨trivial, ?_⟩
                        have e161 : bA.tmps[161]?.getD undef = .int .u64 ((nv : Nat) : Int) := (hb 161).trans (hdep 8 (by decide))
                        have e162 : bA.tmps[162]?.getD undef = .pointer (some ⟨gc, iz, none⟩) := (hb 162).trans (hdep 9 (by decide))
                        clear hb hdep hold
                        have ccf := HFZ.out w1 hT
                        have cco := HCW.out w1 hT
                        have HTT := Lib.hid hT
                        clear hT
                        refine phx_st (R := fun W => ∃ w9, Below wq.heap.size wq w9 ∧ W = w9.setCell ⟨gc, iz, none⟩ (.int .u64 ((nv : Nat) : Int))) (w1.setCell ⟨gc, iz, none⟩ (.int .u64 ((nv : Nat) : Int))) ?_ rfl ⟨w1, HTT.out, rfl⟩
                        go_simp
                      intro x' w12 hR
                      obtain ⟨w11, hw11, rfl⟩ := hR
                      have HN11 := Lib.hid (HNX.out w11 hw11)
                      simp only [putAll, dstOf, Act.put, List.map_cons, List.map_nil, List.setIfInBounds_toArray, List.set_cons_succ, List.set_cons_zero, Nat.reduceAdd]
                      clear hw11 HNX HCW HFZ HF HM
                      generalize w11.setCell ⟨gc, iz, none⟩ (.int .u64 ((nv : Nat) : Int)) = w13 at *
                      go_wp2_with fail
                      go_roundg (q - (iz + 1))
                      case measure => omega
                      case rel => exact ⟨iz + 1, by omega, rfl, by go_num, HN11.out.1, HN11.out.2⟩
                    · have z1 : ¬ ((iz : Int) < (q : Int)) := by omega
                      have e9 : iz = q := by omega
                      have hdq := HDG.out
                      have z5 : (deg : Int) + 1 ≤ (q : Int) := by omega
                      have HAV := Lib.hid av
                      have HO := Lib.hid ho
                      have HE9 := Lib.hid e9
                      clear av ho e9
                      go_wp2_with fail
                      go_ret
                      rw [← HQD.out]
                      refine ⟨gc, rfl, HGCB.out, sclN p sc TT iz, HAV.out, by rw [sclN_length]; exact HTL.out, ?_, HB15.out.trans (HO.out.below HB15.out.size (fun x hx => by rw [List.mem_singleton.1 hx]; exact HGCB.out))⟩
                      rw [HE9.out, ← HROOT.out, ← HVD.out, ← HIV.out, ← HTD.out, ← HSC.out]
                      have hh := sclN_all p sc TT
                      rw [HTL.out] at hh
                      rw [hh]
end Go.Proofs.YtbkgpfalljgdcaaGreatDoor
