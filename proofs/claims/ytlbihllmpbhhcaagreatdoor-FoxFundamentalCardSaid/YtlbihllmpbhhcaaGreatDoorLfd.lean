/- FoxFundamental: the law's walk. -/
import Derived.Test.YtlbihllmpbhhcaaGreatDoorPvs
import Derived.Test.YtlbihllmpbhhcaaGreatDoorPhs
import Derived.Test.YtlbihllmpbhhcaaGreatDoorPrd
namespace Go.Proofs.YtlbihllmpbhhcaaGreatDoor
open Go.RowKit
set_option linter.unusedVariables false

theorem dl_bd (x e : Int) : -1125899906842624 ≤ dl x e - dl 0 e ∧ dl x e - dl 0 e ≤ 1125899906842624 := by
  unfold dl
  split <;> split <;> omega
theorem Sup.dl {x B : Int} (h : -B ≤ x ∧ x ≤ B) : Sup (fun e => Go.Proofs.YtlbihllmpbhhcaaGreatDoor.dl x e - Go.Proofs.YtlbihllmpbhhcaaGreatDoor.dl 0 e) B := fun e he => by
  replace he : Go.Proofs.YtlbihllmpbhhcaaGreatDoor.dl x e - Go.Proofs.YtlbihllmpbhhcaaGreatDoor.dl 0 e ≠ 0 := he
  unfold Go.Proofs.YtlbihllmpbhhcaaGreatDoor.dl at he
  by_cases h1 : x = e
  · omega
  · by_cases h2 : (0 : Int) = e
    · omega
    · rw [if_neg h1, if_neg h2] at he; exact absurd rfl he
set_option maxHeartbeats 2000000 in
set_option maxRecDepth 100000 in
theorem fund_law (vu vc : Value) (us comp : List Int) (w : World) (hu : Ints w vu us) (hc : Ints w vc comp) (lu : us.length ≤ 9223372036854775807) (lc : comp.length ≤ 9223372036854775807) (ht : Tb w) :
    Calls Tryz.prog 3 #[vu, vc] w fun e w' => e = .returned (.bool true) ∧ Below w.heap.size w w' := by
  have HA := Lib.hid (awakeF_any w ht)
  have HU := Lib.hid hu
  have HC := Lib.hid hc
  obtain ⟨A, c, rfl, _, _⟩ := hu
  obtain ⟨A3, c3, rfl, _, _⟩ := hc
  clear ht
  go_enter Tryz.func3, Tryz.ntmps3
  go_wp2_with fail
  refine HA.out.mono ?_
  rintro e w1 ⟨rfl, hb1⟩
  have HG := Lib.hid (great_at1 A A3 us.length c comp.length c3 w1 lu lc)
  have hb2 : Below w.heap.size w (w1.alloc (.cells #[.slice A us.length c] 38)) := hb1.alloc hb1.size _
  have hsz1 := hb1.size
  clear HA hb1
  obtain ⟨G, hG⟩ : ∃ G, G = grB [(A, us.length, c)] comp.length := ⟨_, rfl⟩
  rw [← hG] at HG
  cases G with
  | true =>
    clear hG
    go_wp2_with fail
    refine HG.out.mono ?_
    rintro e w2 ⟨rfl, rfl⟩
    go_wp2_with fail
    go_ret
    exact ⟨rfl, hb2⟩
  | false =>
    obtain ⟨l1, l3⟩ := grB1 hG.symm
    clear hG
    by_cases h0 : comp.length = 0
    · have z0 : ((comp.length : Int) == 0) = true := by rw [h0]; rfl
      clear h0
      go_wp2_with fail
      refine HG.out.mono ?_
      rintro e w2 ⟨rfl, rfl⟩
      go_wp2_with fail
      go_ret
      exact ⟨rfl, hb2⟩
    have z0 : ((comp.length : Int) == 0) = false := by rw [beq_eq_false_iff_ne]; omega
    clear h0
    have HF := Lib.hid (fits_any (.slice A us.length c) (.slice A3 comp.length c3) us comp 0 (w1.alloc (.cells #[.slice A us.length c] 38)) (HU.out.below hb2) (HC.out.below hb2) (by omega) (by omega))
    obtain ⟨FB, hFB⟩ : ∃ F, F = fitB us comp 0 := ⟨_, rfl⟩
    rw [← hFB] at HF
    cases FB with
    | false =>
      clear hFB
      go_wp2_with fail
      refine HG.out.mono ?_
      rintro e w2 ⟨rfl, rfl⟩
      go_wp2_with fail
      refine HF.out.mono ?_
      rintro e w2 ⟨rfl, rfl⟩
      go_wp2_with fail
      go_ret
      exact ⟨rfl, hb2⟩
    | true =>
      obtain ⟨_, _, hxu, hcb⟩ := fitB_mem hFB.symm
      have HXU := Lib.hid hxu
      have HCB := Lib.hid hcb
      have HFU := Lib.hid hFB.symm
      clear hFB hxu hcb
      go_wp2_with fail
      refine HG.out.mono ?_
      rintro e w2 ⟨rfl, rfl⟩
      go_wp2_with fail
      refine HF.out.mono ?_
      rintro e w2 ⟨rfl, rfl⟩
      clear HF HG z0
      have hW : ∀ W, W = ((w1.alloc (.cells #[.slice A us.length c] 38)).alloc (.cells #[.bool false, .slice none 0 0] 28)) → Arr W (w1.heap.size + 1) 28 [.bool false, .slice none 0 0] ∧ Below w.heap.size w W ∧ w.heap.size ≤ w1.heap.size := by
        intro W hW
        subst hW
        exact ⟨Arr.newAt (w1.alloc _) _ [_, _] _ (by simp), hb2.alloc hb2.size _, hsz1⟩
      go_upto_region 6 with fail
      generalize ((w1.alloc (.cells #[.slice A us.length c] 38)).alloc (.cells #[.bool false, .slice none 0 0] 28)) = w3 at hW ⊢
      obtain ⟨q3, hb3, hs3⟩ := hW w3 rfl
      clear hW hb2
      obtain ⟨B5, hB5⟩ : ∃ B, B = w1.heap.size + 1 := ⟨_, rfl⟩
      rw [← hB5] at q3 ⊢
      have HB5 := Lib.hid (show w.heap.size ≤ B5 by omega)
      have HST := Lib.hid (show ∃ (b : Bool) (A : Option Addr) (n c : Nat), Arr w3 B5 28 [.bool b, .slice A n c] ∧ PV w3 (.agg #[.bool b, .slice A n c]) (fsm comp us 0) ∧ Below w.heap.size w w3 from ⟨false, none, 0, 0, q3, (PV.zero w3).congr (fun e => rfl), hb3⟩)
      clear q3 hb3 hs3 hB5
      go_wp2_with fail
      go_loopg [6, 7, 8, 9, 29] comp.length (fun gk s6 s7 s8 s9 s29 wr => ∃ k : Nat, k ≤ comp.length ∧ gk = comp.length - k ∧ s29 = .int .i64 (k : Int) ∧ Hid (∃ (b : Bool) (A : Option Addr) (n c : Nat), Arr wr B5 28 [.bool b, .slice A n c] ∧ PV wr (.agg #[.bool b, .slice A n c]) (fsm comp us k) ∧ Below w.heap.size w wr))
      case atStart => exact ⟨0, Nat.zero_le _, rfl, rfl, HST⟩
      case round =>
        clear HST
        obtain ⟨k, hk, rfl, rfl, HR⟩ := hrel
        obtain ⟨b5, A5, n5, c5, q5, hp5, hb5⟩ := HR.out
        clear HR
        by_cases hlt : k < comp.length
        · have z1 : (k : Int) < (comp.length : Int) := by omega
          obtain ⟨b, o, ⟨c', hv⟩, _, hcell⟩ := ints_at (HC.out.below hb5) hlt
          injection hv with hv1 hv2 hv3
          subst hv1 hv3
          clear hv2
          have HCG := Lib.hid (cg_get hlt)
          have hxk := HCB.out comp[k] (List.getElem_mem hlt)
          generalize comp[k] = ex at *
          have HDR := Lib.hid (DerPV (.slice A us.length c) (.slice (some ⟨b, o, none⟩) comp.length c3) us comp (k : Int) wr (HU.out.below hb5) (HC.out.below hb5) (by omega) (by omega) (fitB_mk (by omega) (by omega) HXU.out HCB.out))
          have HBR := Lib.hid hb5
          have HQ5 := Lib.hid q5
          have HP5r := Lib.hid hp5
          have hbr : B5 < wr.heap.size := q5.lt
          clear hb5 q5 hp5
          go_wp2_with fail
          refine HDR.out.mono ?_
          rintro e w8 ⟨b8, A8, n8, c8, rfl, hb8, hp8⟩
          have hW9 : ∀ W, W = w8.alloc (.cells #[.bool b8, .slice A8 n8 c8] 28) → Arr W w8.heap.size 28 [.bool b8, .slice A8 n8 c8] ∧ Below wr.heap.size wr W ∧ Below w8.heap.size w8 W := by
            intro W hW
            subst hW
            exact ⟨Arr.new _ _ [_, _], hb8.alloc hb8.size _, (Below.refl _ _).alloc (Nat.le_refl _) _⟩
          go_upto_region 12 with fail
          generalize (w8.alloc (.cells #[.bool b8, .slice A8 n8 c8] 28)) = w9 at hW9 ⊢
          obtain ⟨q8, hb9, hb89⟩ := hW9 w9 rfl
          have Q5 := Lib.hid (HQ5.out.below hb9 HQ5.out.lt)
          have HP5 := Lib.hid (HP5r.out.below hb9)
          have Q8 := Lib.hid q8
          have HP8 := Lib.hid (hp8.below hb89)
          have HB9 := Lib.hid (HBR.out.trans (hb9.mono HBR.out.size))
          obtain ⟨B8, hB8⟩ : ∃ B, B = w8.heap.size := ⟨_, rfl⟩
          rw [← hB8] at Q8 ⊢
          have HX := Lib.hid (show -1048576 ≤ ex ∧ ex ≤ 1048576 by omega)
          have HMH := Lib.hid (show ∀ p q : List (Int × Int), (∀ e, cf p e = dF comp (k : Int) us e) → (∀ e, cf q e = dl ex e - dl 0 e) → ∀ e, cv p q e = dF comp (k : Int) us (e - ex) - dF comp (k : Int) us e from fun p q h1 h2 e => by rw [cv_gen h2, h1, h1])
          have HMB := Lib.hid (show ∀ e, -1125899906842624 ≤ dF comp (k : Int) us (e - ex) - dF comp (k : Int) us e ∧ dF comp (k : Int) us (e - ex) - dF comp (k : Int) us e ≤ 1125899906842624 from fun e => by
            have h1 := dF_bd comp (k : Int) us e
            have h2 := dF_bd comp (k : Int) us (e - ex)
            omega)
          have HS1 := Lib.hid (show Sup (dF comp (k : Int) us) 40000 from fun e he => by have := Sup.dF (N := 1000) (by omega) HCB.out e he; omega)
          have HS2 := Lib.hid (Sup.dl (x := ex) (B := 1000) hxk)
          have HAE := Lib.hid (show ∀ e, fsm comp us k e + (dF comp (k : Int) us (e - ex) - dF comp (k : Int) us e) = fsm comp us (k + 1) e from fun e => by rw [fsm, HCG.out])
          have HAB := Lib.hid (show ∀ e, -1125899906842624 ≤ fsm comp us k e + (dF comp (k : Int) us (e - ex) - dF comp (k : Int) us e) ∧ fsm comp us k e + (dF comp (k : Int) us (e - ex) - dF comp (k : Int) us e) ≤ 1125899906842624 from fun e => by
            rw [HAE.out]
            have h1 := fsm_bd comp us (k + 1) e
            have h2 : (k + 1) * (2 * us.length) ≤ 8 * 80 := Nat.mul_le_mul (by omega) (by omega)
            omega)
          obtain ⟨FS, hFS⟩ : ∃ f, f = fsm comp us (k + 1) := ⟨_, rfl⟩
          rw [← hFS] at HAE
          have HFS := Lib.hid hFS
          clear hFS
          generalize fsm comp us k = F0 at *
          generalize dF comp (k : Int) us = FD at *
          clear hW9 q8 hb9 hb89 hp8 hb8 hB8 HQ5 HP5r HDR hcell HCG hxk
          refine wp_region_phis 8 (by kernel_rfl) (by kernel_rfl) (by kernel_rfl) (by kernel_rfl) (by kernel_rfl) rfl (by kernel_rfl) (phiT (fun i => ([some (.agg #[.bool b5, .slice A5 n5 c5]), some (.agg #[.bool b8, .slice A8 n8 c8]), some (.int .i64 ex), none, none, none, none, none, some (undef)] : List (Option Value)).getD i none) (fun i v w => (if i = 3 then (fun v w => PV w v (dl ex)) v w else (if i = 4 then (fun v w => PV w v (dl 0)) v w else (if i = 5 then (fun v w => PV w v (fun e => dl ex e - dl 0 e)) v w else (if i = 6 then (fun v w => PV w v (fun e => FD (e - ex) - FD e)) v w else (if i = 7 then (fun v w => PV w v FS) v w else True))))))) (fun i v w w' h hb => ?_) (fun i => false) (fun i v w hi h k hk => ?_) (fun _ W => ∃ (b : Bool) (A : Option Addr) (n c : Nat), Arr W B5 28 [.bool b, .slice A n c] ∧ PV W (.agg #[.bool b, .slice A n c]) FS ∧ Below B5 w9 W) ⟨?_, ?_, ?_, ?_, ?_, ?_, ?_, ?_, ?_, trivial⟩ ?_
          · unfold phiT at h ⊢
            split
            · next u hu => rw [hu] at h; exact h
            · next hu =>
              rw [hu] at h
              simp only at h ⊢
              by_cases q3 : i = 3
              · rw [if_pos q3] at h ⊢; exact PV.below h hb
              · rw [if_neg q3] at h ⊢
                by_cases q4 : i = 4
                · rw [if_pos q4] at h ⊢; exact PV.below h hb
                · rw [if_neg q4] at h ⊢
                  by_cases q5 : i = 5
                  · rw [if_pos q5] at h ⊢; exact PV.below h hb
                  · rw [if_neg q5] at h ⊢
                    by_cases q6 : i = 6
                    · rw [if_pos q6] at h ⊢; exact PV.below h hb
                    · rw [if_neg q6] at h ⊢
                      by_cases q7 : i = 7
                      · rw [if_pos q7] at h ⊢; exact PV.below h hb
                      · rw [if_neg q7] at h ⊢
                        trivial
          · simp only [Bool.or_eq_true, decide_eq_true_eq, Bool.false_eq_true] at hi
          · intro x w1 bA hbel hdep hdap hold hb
            refine ⟨fun _ => ?_, fun h => absurd h (by decide)⟩
            have e5 : bA.tmps[5]?.getD undef = .pointer (some ⟨B5, 0, none⟩) := hb 5
            have cc0 := (Q5.out.below hbel Q5.out.lt).cell 0
            have cc1 := (Q5.out.below hbel Q5.out.lt).cell 1
            refine phf_run (.agg #[.bool b5, .slice A5 n5 c5]) rfl ?_ rfl
            clear hb hdep hdap hold
            go_simp
          · intro x w1 bA hbel hdep hdap hold hb
            refine ⟨fun _ => ?_, fun h => absurd h (by decide)⟩
            have e8 : bA.tmps[8]?.getD undef = .pointer (some ⟨B8, 0, none⟩) := hb 8
            have cc0 := (Q8.out.below hbel Q8.out.lt).cell 0
            have cc1 := (Q8.out.below hbel Q8.out.lt).cell 1
            refine phf_run (.agg #[.bool b8, .slice A8 n8 c8]) rfl ?_ rfl
            clear hb hdep hdap hold
            go_simp
          · intro x w1 bA hbel hdep hdap hold hb
            refine ⟨fun _ => ?_, fun h => absurd h (by decide)⟩
            have e7 : bA.tmps[7]?.getD undef = .int .i64 ex := hb 7
            refine phf_run (.int .i64 ex) rfl ?_ rfl
            clear hb hdep hdap hold
            go_simp
          · intro x w1 bA hbel hdep hdap hold hb
            refine ⟨fun _ => ?_, fun h => absurd h (by decide)⟩
            have e45 : bA.tmps[45]?.getD undef = .int .i64 ex := (hb 45).trans (hdep 2 (by decide))
            refine phf_call ?_ ((TermPV ex w1 HX.out.1 HX.out.2).mono fun e w' h => (by obtain ⟨v, he, hb', hv⟩ := h; exact ⟨v, he, hb', hv, fun e => Bool.noConfusion e⟩))
            clear hb hdep hdap hold
            go_simp
          · intro x w1 bA hbel hdep hdap hold hb
            refine ⟨fun _ => ?_, fun h => absurd h (by decide)⟩
            refine phf_call ?_ ((TermPV 0 w1 (by omega) (by omega)).mono fun e w' h => (by obtain ⟨v, he, hb', hv⟩ := h; exact ⟨v, he, hb', hv, fun e => Bool.noConfusion e⟩))
            clear hb hdep hdap hold
            go_simp
          · intro x w1 bA hbel hdep hdap hold hb
            refine ⟨fun _ => ?_, fun h => absurd h (by decide)⟩
            have p46 := hdep 3 (by decide)
            have e46 : bA.tmps[46]?.getD undef = x 3 := hb 46
            generalize x 3 = x46 at *
            have P46 := Lib.hid (show (fun v w => PV w v (dl ex)) x46 w1 from p46)
            clear p46
            have p47 := hdep 4 (by decide)
            have e47 : bA.tmps[47]?.getD undef = x 4 := hb 47
            generalize x 4 = x47 at *
            have P47 := Lib.hid (show (fun v w => PV w v (dl 0)) x47 w1 from p47)
            clear p47
            refine phf_call ?_ ((SubPV x46 x47 (dl ex) (dl 0) w1 P46.out P47.out (dl_bd ex)).mono fun e w' h => (by obtain ⟨v, he, hb', hv⟩ := h; exact ⟨v, he, hb', hv, fun e => Bool.noConfusion e⟩))
            clear hb hdep hdap hold
            go_simp
          · intro x w1 bA hbel hdep hdap hold hb
            refine ⟨fun _ => ?_, fun h => absurd h (by decide)⟩
            have e44 : bA.tmps[44]?.getD undef = .agg #[.bool b8, .slice A8 n8 c8] := (hb 44).trans (hdep 1 (by decide))
            have p48 := hdep 5 (by decide)
            have e48 : bA.tmps[48]?.getD undef = x 5 := hb 48
            generalize x 5 = x48 at *
            have P48 := Lib.hid (show (fun v w => PV w v (fun e => dl ex e - dl 0 e)) x48 w1 from p48)
            clear p48
            refine phf_call ?_ ((MulPV (.agg #[.bool b8, .slice A8 n8 c8]) x48 FD _ _ 40000 1000 w1 (HP8.out.below hbel) P48.out HMH.out HMB.out HS1.out HS2.out (by omega)).mono fun e w' h => (by obtain ⟨v, he, hb', hv⟩ := h; exact ⟨v, he, hb', hv, fun e => Bool.noConfusion e⟩))
            clear hb hdep hdap hold
            go_simp
          · intro x w1 bA hbel hdep hdap hold hb
            refine ⟨fun _ => ?_, fun h => absurd h (by decide)⟩
            have e43 : bA.tmps[43]?.getD undef = .agg #[.bool b5, .slice A5 n5 c5] := (hb 43).trans (hdep 0 (by decide))
            have p49 := hdep 6 (by decide)
            have e49 : bA.tmps[49]?.getD undef = x 6 := hb 49
            generalize x 6 = x49 at *
            have P49 := Lib.hid (show (fun v w => PV w v (fun e => FD (e - ex) - FD e)) x49 w1 from p49)
            clear p49
            refine phf_call ?_ ((AddPV (.agg #[.bool b5, .slice A5 n5 c5]) x49 F0 _ w1 (HP5.out.below hbel) P49.out HAB.out).mono fun e w' h => (by obtain ⟨v, he, hb', hv⟩ := h; exact ⟨v, he, hb', hv.congr HAE.out, fun e => Bool.noConfusion e⟩))
            clear hb hdep hdap hold
            go_simp
          · intro x w1 bA hbel hdep hdap hold hb
            refine ⟨fun h => absurd h (by decide), fun _ hall => ?_⟩
            have e5 : bA.tmps[5]?.getD undef = .pointer (some ⟨B5, 0, none⟩) := hb 5
            have e50 : bA.tmps[50]?.getD undef = x 7 := hb 50
            have p46 := Lib.hid (show (fun v w => PV w v (dl ex)) (x 3) w1 from hall 3 (by decide))
            have p47 := Lib.hid (show (fun v w => PV w v (dl 0)) (x 4) w1 from hall 4 (by decide))
            have p48 := Lib.hid (show (fun v w => PV w v (fun e => dl ex e - dl 0 e)) (x 5) w1 from hall 5 (by decide))
            have p49 := Lib.hid (show (fun v w => PV w v (fun e => FD (e - ex) - FD e)) (x 6) w1 from hall 6 (by decide))
            have p50 := Lib.hid (show (fun v w => PV w v FS) (x 7) w1 from hall 7 (by decide))
            clear hb hdep hdap hold
            obtain ⟨bz, Az, nz, cz, e50b⟩ := p50.out.form
            rw [e50b] at e50
            have HPV := Lib.hid (e50b ▸ p50.out)
            have q5 := Q5.out.below hbel Q5.out.lt
            have Q5b := Lib.hid q5
            have f0 := q5.frozen 0
            have f1 := q5.frozen 1
            have c0 := q5.cell 0
            have c1 := q5.cell 1
            have HBL := Lib.hid hbel
            clear q5 e50b p50 p49 p48 p47 p46 hbel
            refine phl_store (R := fun W => ∃ (b : Bool) (A : Option Addr) (n c : Nat), Arr W B5 28 [.bool b, .slice A n c] ∧ PV W (.agg #[.bool b, .slice A n c]) FS ∧ Below B5 w9 W) ((w1.setCell ⟨B5, 0, none⟩ (.bool bz)).setCell ⟨B5, 1, none⟩ (.slice Az nz cz)) ?_ rfl ⟨bz, Az, nz, cz, (Q5b.out.set 0 _).set 1 _, HPV.out.box Q5b.out _ _, ((HBL.out.mono (Nat.le_of_lt Q5.out.lt)).setCell (p := ⟨B5, 0, none⟩) (Nat.le_refl _) _).setCell (p := ⟨B5, 1, none⟩) (Nat.le_refl _) _⟩
            go_simp
          intro y w10 hR
          simp only [putAll, dstOf, Act.put, List.map_cons, List.map_nil, List.setIfInBounds_toArray, List.set_cons_succ, List.set_cons_zero, Nat.reduceAdd]
          have HF := Lib.hid (show ∃ (b : Bool) (A : Option Addr) (n c : Nat), Arr w10 B5 28 [.bool b, .slice A n c] ∧ PV w10 (.agg #[.bool b, .slice A n c]) FS ∧ Below w.heap.size w w10 from by
            obtain ⟨b, A, n, c, h1, h2, h3⟩ := hR
            exact ⟨b, A, n, c, h1, h2, HB9.out.trans (h3.mono HB5.out)⟩)
          clear hR
          go_wp2_with fail
          go_roundg (comp.length - (k + 1))
          case measure => omega
          case rel => exact ⟨k + 1, by omega, rfl, by go_num, by rw [← HFS.out]; exact HF⟩
        · have z1 : ¬ (k : Int) < (comp.length : Int) := by omega
          obtain rfl : k = comp.length := by omega
          have HDG := Lib.hid (fun W (hb : Below wr.heap.size wr W) => degree_any (.slice A us.length c) (.slice A3 comp.length c3) us comp W (HU.out.below (hb5.trans (hb.mono hb5.size))) (HC.out.below (hb5.trans (hb.mono hb5.size))) (by omega) (by omega) HXU.out HCB.out)
          have hdb := dg_bd (ws := us) HCB.out
          have HEQ := Lib.hid (show ∀ e, fsm comp us comp.length e = dl (dg comp us) e - dl 0 e from fund comp comp.length us (fun x hx => by
            have := HXU.out x hx
            exact gnr_bd this.1 this.2.1 this.2.2))
          have HDB := Lib.hid (show -1048576 ≤ dg comp us ∧ dg comp us ≤ 1048576 by omega)
          generalize dg comp us = DG at *
          have Q5 := Lib.hid q5
          have HP5 := Lib.hid hp5
          have HBR := Lib.hid hb5
          generalize fsm comp us comp.length = FS at *
          clear q5 hp5 hb5 hdb
          go_upto_region 14 with fail
          go_cut [4] (fun s4 wx => s4 = .bool true ∧ Below w.heap.size w wx)
          case first =>
            refine wp_region_phi (by kernel_rfl) (by kernel_rfl) (by kernel_rfl) (by kernel_rfl) (by kernel_rfl) (phiT (fun i => ([some (.agg #[.bool b5, .slice A5 n5 c5]), some (.slice A us.length c), some (.slice A3 comp.length c3), some (.int .i64 DG), none, none, none, some (.bool true), some (.bool true)] : List (Option Value)).getD i none) (fun i v w => (if i = 4 then (fun v w => PV w v (dl DG)) v w else (if i = 5 then (fun v w => PV w v (dl 0)) v w else (if i = 6 then (fun v w => PV w v (fun e => dl DG e - dl 0 e)) v w else True))))) (fun i v w w' h hb => ?_) ⟨?_, ?_, ?_, ?_, ?_, ?_, ?_, ?_, ?_, trivial⟩ ?_
            · unfold phiT at h ⊢
              split
              · next u hu => rw [hu] at h; exact h
              · next hu =>
                rw [hu] at h
                simp only at h ⊢
                by_cases q4 : i = 4
                · rw [if_pos q4] at h ⊢; exact PV.below h hb
                · rw [if_neg q4] at h ⊢
                  by_cases q5 : i = 5
                  · rw [if_pos q5] at h ⊢; exact PV.below h hb
                  · rw [if_neg q5] at h ⊢
                    by_cases q6 : i = 6
                    · rw [if_pos q6] at h ⊢; exact PV.below h hb
                    · rw [if_neg q6] at h ⊢
                      trivial
            · intro x w1 bA hbel hdep hold hb
              have e5 : bA.tmps[5]?.getD undef = .pointer (some ⟨B5, 0, none⟩) := hb 5
              have cc0 := (Q5.out.below hbel Q5.out.lt).cell 0
              have cc1 := (Q5.out.below hbel Q5.out.lt).cell 1
              refine phi_run (.agg #[.bool b5, .slice A5 n5 c5]) ?_ rfl
              clear hb hdep hold
              go_simp
            · intro x w1 bA hbel hdep hold hb
              have e0 : bA.tmps[0]?.getD undef = .slice A us.length c := hb 0
              refine phi_run (.slice A us.length c) ?_ rfl
              clear hb hdep hold
              go_simp
            · intro x w1 bA hbel hdep hold hb
              have e1 : bA.tmps[1]?.getD undef = .slice A3 comp.length c3 := hb 1
              refine phi_run (.slice A3 comp.length c3) ?_ rfl
              clear hb hdep hold
              go_simp
            · intro x w1 bA hbel hdep hold hb
              have e53 : bA.tmps[53]?.getD undef = .slice A us.length c := (hb 53).trans (hdep 1 (by decide))
              have e54 : bA.tmps[54]?.getD undef = .slice A3 comp.length c3 := (hb 54).trans (hdep 2 (by decide))
              refine phi_call ?_ ((HDG.out w1 hbel).mono fun e w' h => (by obtain ⟨he, rfl⟩ := h; exact ⟨_, he, Below.refl _ _, rfl⟩))
              clear hb hdep hold
              go_simp
            · intro x w1 bA hbel hdep hold hb
              have e55 : bA.tmps[55]?.getD undef = .int .i64 DG := (hb 55).trans (hdep 3 (by decide))
              refine phi_call ?_ ((TermPV DG w1 HDB.out.1 HDB.out.2).mono fun e w' h => (by obtain ⟨v, he, hb', hv⟩ := h; exact ⟨v, he, hb', hv⟩))
              clear hb hdep hold
              go_simp
            · intro x w1 bA hbel hdep hold hb
              refine phi_call ?_ ((TermPV 0 w1 (by omega) (by omega)).mono fun e w' h => (by obtain ⟨v, he, hb', hv⟩ := h; exact ⟨v, he, hb', hv⟩))
              clear hb hdep hold
              go_simp
            · intro x w1 bA hbel hdep hold hb
              have p56 := hdep 4 (by decide)
              have e56 : bA.tmps[56]?.getD undef = x 4 := hb 56
              generalize x 4 = x56 at p56 e56
              have P56 := Lib.hid (show (fun v w => PV w v (dl DG)) x56 w1 from p56)
              clear p56
              have p57 := hdep 5 (by decide)
              have e57 : bA.tmps[57]?.getD undef = x 5 := hb 57
              generalize x 5 = x57 at p57 e57
              have P57 := Lib.hid (show (fun v w => PV w v (dl 0)) x57 w1 from p57)
              clear p57
              refine phi_call ?_ ((SubPV x56 x57 (dl DG) (dl 0) w1 P56.out P57.out (dl_bd DG)).mono fun e w' h => (by obtain ⟨v, he, hb', hv⟩ := h; exact ⟨v, he, hb', hv⟩))
              clear hb hdep hold
              go_simp
            · intro x w1 bA hbel hdep hold hb
              have e52 : bA.tmps[52]?.getD undef = .agg #[.bool b5, .slice A5 n5 c5] := (hb 52).trans (hdep 0 (by decide))
              have p58 := hdep 6 (by decide)
              have e58 : bA.tmps[58]?.getD undef = x 6 := hb 58
              generalize x 6 = x58 at p58 e58
              have P58 := Lib.hid (show (fun v w => PV w v (fun e => dl DG e - dl 0 e)) x58 w1 from p58)
              clear p58
              refine phi_call ?_ ((EqualPV (.agg #[.bool b5, .slice A5 n5 c5]) x58 FS _ w1 (HP5.out.below hbel) P58.out HEQ.out).mono fun e w' h => ⟨_, h.1, h.2, rfl⟩)
              clear hb hdep hold
              go_simp
            · intro x w1 bA hbel hdep hold hb
              have e59 : bA.tmps[59]?.getD undef = .bool true := (hb 59).trans (hdep 7 (by decide))
              refine phi_run (.bool true) ?_ rfl
              clear hb hdep hold
              go_simp
            intro x w1 hbel hall
            have x0e : x 0 = .agg #[.bool b5, .slice A5 n5 c5] := hall 0 (by decide)
            have x1e : x 1 = .slice A us.length c := hall 1 (by decide)
            have x2e : x 2 = .slice A3 comp.length c3 := hall 2 (by decide)
            have x3e : x 3 = .int .i64 DG := hall 3 (by decide)
            have p56 := hall 4 (by decide)
            have p57 := hall 5 (by decide)
            have p58 := hall 6 (by decide)
            have x7e : x 7 = .bool true := hall 7 (by decide)
            have x8e : x 8 = .bool true := hall 8 (by decide)
            simp only [putAll, dstOf, Act.put, List.map_cons, List.map_nil, List.setIfInBounds_toArray, List.set_cons_succ, List.set_cons_zero, Nat.reduceAdd, x0e, x1e, x2e, x3e, x7e, x8e]
            clear x0e x1e x2e x3e x7e x8e hall
            have HFIN := Lib.hid (HBR.out.trans (hbel.mono HBR.out.size))
            go_wp2_with fail
            go_meet
            exact ⟨rfl, HFIN.out⟩
          case rest =>
            obtain ⟨rfl, hb⟩ := hcut
            go_wp2_with fail
            go_ret
            exact ⟨rfl, hb⟩
end Go.Proofs.YtlbihllmpbhhcaaGreatDoor
