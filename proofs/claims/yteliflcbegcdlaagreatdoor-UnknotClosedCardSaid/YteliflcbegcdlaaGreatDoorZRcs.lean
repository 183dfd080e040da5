/- The reference's Closed (layer 45). -/
import Derived.Test.YteliflcbegcdlaaGreatDoorZMpb
import Derived.Test.YteliflcbegcdlaaGreatDoorZClg
namespace Go.Proofs.YteliflcbegcdlaaGreatDoor
open Go.RowKit Go.Shelf
set_option linter.unusedVariables false
/-- the first tests of Closed -/
def okG (h : Gd) : Prop := VdG h ∧ lstM h = h
theorem clG_iff {g : Gd} {gs : List Gd} : ClG g gs ↔ VdG g ∧ lstM g ∈ gs ∧ (∀ h ∈ gs, okG h) ∧ ∀ h ∈ gs, ∀ z, Fol h z → z ∈ gs := by
  constructor
  · rintro ⟨h1, h2, h3, h4, h5⟩
    exact ⟨h2, h4, fun h hh => ⟨h1 h hh, h3 h hh⟩, fun h hh z hz => by
      obtain ⟨ms, y, hm, e⟩ := fol_nbrs (h1 h hh) hz
      rw [← e]; exact h5 h hh ms y hm⟩
  · rintro ⟨h1, h2, h3, h4⟩
    exact ⟨fun h hh => (h3 h hh).1, h1, fun h hh => (h3 h hh).2, h2, fun h hh ms z hm => h4 h hh _ (nbrs_fol (h3 h hh).1 hm)⟩
theorem all_step {α : Type} {P : α → Prop} {l : List α} {k : Nat} (h : k < l.length) : (∀ x ∈ l.take (k + 1), P x) ↔ (∀ x ∈ l.take k, P x) ∧ P l[k] := by
  rw [List.take_succ_eq_append_getElem h]
  constructor
  · intro q
    exact ⟨fun x hx => q x (List.mem_append_left _ hx), q _ (List.mem_append_right _ (by simp))⟩
  · rintro ⟨q1, q2⟩ x hx
    rcases List.mem_append.1 hx with hx | hx
    · exact q1 x hx
    · rw [List.mem_singleton.1 hx]; exact q2
set_option maxHeartbeats 8000000 in
set_option maxRecDepth 100000 in
theorem refClosed_any (vx vo : Value) (X O : List Int) (Al : Option Addr) (nl cl : Nat) (gs : List Gd) (w : World) (hX : Ints w vx X) (hO : Ints w vo O) (lX : X.length ≤ 1000) (lO : O.length ≤ 1000) (hg : Gds w (.slice Al nl cl) gs) (hgl : gs.length ≤ 1000000000) (hgb : ∀ h ∈ gs, h.1.length ≤ 1000 ∧ h.2.length ≤ 1000) :
    Calls Tryz.prog 13 #[.agg #[vx, vo], .slice Al nl cl] w fun e w' => (∃ b, e = .returned (.bool b) ∧ (b = true ↔ ClG (X, O) gs)) ∧ Below w.heap.size w w' := by
  obtain rfl := hg.len
  have HV := Lib.hid (fun W (hb : Below w.heap.size w W) => refValid_any vx vo X O W (hX.below hb) (hO.below hb) lX lO)
  have HLS := Lib.hid (fun W (hb : Below w.heap.size w W) (hv : Vd X O) => refLeast_any vx vo X O W (hX.below hb) (hO.below hb) hv)
  have HI := Lib.hid (fun W (hb : Below w.heap.size w W) (va vb : Value) (Y R : List Int) (h1 : Ints W va Y) (h2 : Ints W vb R) (l1 : Y.length ≤ 1000) (l2 : R.length ≤ 1000) => refIn_any Al gs.length cl gs va vb Y R W (hg.below hb) hgl hgb h1 h2 l1 l2)
  obtain ⟨A, c, rfl, -, -⟩ := hX
  obtain ⟨A', c', rfl, -, -⟩ := hO
  clear lX lO
  go_enter Tryz.func13, Tryz.ntmps13
  go_upto_region 1 with fail
  have hal := (Below.refl w.heap.size w).alloc (Nat.le_refl _) (.cells #[.slice A X.length c, .slice A' O.length c'] 24)
  have HQ1 := Lib.hid (heap_box (w := w) (t := 24) (a := .slice A X.length c) (b := .slice A' O.length c') w.heap.size rfl)
  have HB1 := Lib.hid hal
  clear hal
  generalize w.alloc (.cells #[.slice A X.length c, .slice A' O.length c'] 24) = w1 at HB1 HQ1 ⊢
  obtain ⟨n0, hn0⟩ : ∃ n, n = w.heap.size := ⟨_, rfl⟩
  rw [← hn0] at HQ1 HB1 HV HLS HI ⊢
  have HN0 := Lib.hid hn0
  clear hn0
  have y0 := HQ1.out.cell 0
  have y1 := HQ1.out.cell 1
  have HV1 := Lib.hid (HV.out w1 HB1.out)
  rw [refValidB_eq] at HV1
  by_cases hv : Vd X O
  · have HVD := Lib.hid (show VdG (X, O) from hv)
    rw [(validB_iff X O).2 hv] at HV1
    clear hv
    by_cases hin : lstM (X, O) ∈ gs
    rotate_left
    · have HNC := Lib.hid (show ¬ ClG (X, O) gs from fun h => hin (clG_iff.1 h).2.1)
      go_wp2_with (first | (go_at_call 8; refine HV1.out.mono ?_; rintro e2 w2 ⟨rfl, hb2⟩; have HB2 := Lib.hid (HB1.out.trans (hb2.mono (Nat.le_of_lt HQ1.out.lt))); have HQ2 := Lib.hid (HQ1.out.below hb2 HQ1.out.lt); have y0 := HQ2.out.cell 0; have y1 := HQ2.out.cell 1) | (go_at_call 23; refine (HLS.out _ HB2.out HVD.out).mono ?_; rintro e3 w3 ⟨C0, p0, q0, C1, p1, q1, rfl, hZ1, hZ2, hb3⟩; have HB3 := Lib.hid (HB2.out.trans (hb3.mono (Nat.le_of_lt HQ2.out.lt))); have HSI := Lib.hid (Nat.lt_of_lt_of_le HQ2.out.lt hb3.size)) | (go_at_call 25; refine (HI.out _ HB3.out _ _ _ _ hZ1 hZ2 (by have := (lstM_vd HVD.out).most; omega) (by have := (lstM_vd HVD.out).most; have := (lstM_vd HVD.out).len; omega)).mono ?_; rw [decide_eq_false (show ¬ ((lstM (X, O)).1, (lstM (X, O)).2) ∈ gs from hin)]; rintro e4 w4 ⟨rfl, hb4⟩; have HB4 := Lib.hid (HB3.out.trans (hb4.mono (Nat.le_of_lt HSI.out)))))
      go_ret
      exact ⟨⟨false, rfl, by simp [HNC.out]⟩, by rw [← HN0.out]; exact HB4.out⟩
    have HIN := Lib.hid hin
    clear hin
    go_wp2_with (first | (go_at_call 8; refine HV1.out.mono ?_; rintro e2 w2 ⟨rfl, hb2⟩; have HB2 := Lib.hid (HB1.out.trans (hb2.mono (Nat.le_of_lt HQ1.out.lt))); have HQ2 := Lib.hid (HQ1.out.below hb2 HQ1.out.lt); have y0 := HQ2.out.cell 0; have y1 := HQ2.out.cell 1) | (go_at_call 23; refine (HLS.out _ HB2.out HVD.out).mono ?_; rintro e3 w3 ⟨C0, p0, q0, C1, p1, q1, rfl, hZ1, hZ2, hb3⟩; have HB3 := Lib.hid (HB2.out.trans (hb3.mono (Nat.le_of_lt HQ2.out.lt))); have HSI := Lib.hid (Nat.lt_of_lt_of_le HQ2.out.lt hb3.size)) | (go_at_call 25; refine (HI.out _ HB3.out _ _ _ _ hZ1 hZ2 (by have := (lstM_vd HVD.out).most; omega) (by have := (lstM_vd HVD.out).most; have := (lstM_vd HVD.out).len; omega)).mono ?_; rw [decide_eq_true (show ((lstM (X, O)).1, (lstM (X, O)).2) ∈ gs from HIN.out)]; rintro e4 w4 ⟨rfl, hb4⟩; have HB4 := Lib.hid (HB3.out.trans (hb4.mono (Nat.le_of_lt HSI.out))); have HS4 := Lib.hid (Nat.lt_of_lt_of_le HSI.out hb4.size); clear hZ1 hZ2 hb2 hb3 hb4 y0 y1 HB2 HB3 HQ2 HSI))
    clear y0 y1 HV1 HB1 HQ1 HV HLS
    go_loopw [5] (fun i wr => ∃ k : Nat, i = .int .i64 (k : Int) ∧ k ≤ gs.length ∧ Hid (Below n0 w wr) ∧ Hid (n0 < wr.heap.size) ∧ Hid (∀ h ∈ gs.take k, okG h)) (fun i _ => gs.length - (intOf i).toNat)
    case atStart => exact ⟨0, rfl, Nat.zero_le _, HB4, HS4, Lib.hid (fun h hh => by simp at hh)⟩
    case round =>
      clear HB4 HS4
      obtain ⟨k, rfl, hk, HB, HS, HO⟩ := hrel
      by_cases hlt : k < gs.length
      · obtain ⟨b, o, A0, m0, c0, A1, m1, c1, rfl, hbl, y0, y1, hq⟩ := hg.at_ hlt
        have hbw : Below w.heap.size w wr := by rw [← HN0.out]; exact HB.out
        have y0 := (hbw.cell (p := ⟨b, o + k * 2, none⟩) hbl).trans y0
        have y1 := (hbw.cell (p := ⟨b, o + k * 2 + 1, none⟩) hbl).trans y1
        have hm := hgb _ (List.getElem_mem hlt)
        have HAS := Lib.hid (all_step (P := okG) hlt)
        obtain ⟨H, hH⟩ : ∃ H : Gd, H = gs[k] := ⟨_, rfl⟩
        rw [← hH] at hm hq HAS
        have hq1 : Ints wr (.slice A0 m0 c0) H.1 := hq.1.below hbw
        have hq2 : Ints wr (.slice A1 m1 c1) H.2 := hq.2.below hbw
        have HHM := Lib.hid (show H ∈ gs by rw [hH]; exact List.getElem_mem hlt)
        have HVA0 := Lib.hid (fun W (hb : Below wr.heap.size wr W) => refValid_any (.slice A0 m0 c0) (.slice A1 m1 c1) H.1 H.2 W (hq1.below hb) (hq2.below hb) hm.1 hm.2)
        have HLE0 := Lib.hid (fun (hv : Vd H.1 H.2) W (hb : Below wr.heap.size wr W) => refLeast_any (.slice A0 m0 c0) (.slice A1 m1 c1) H.1 H.2 W (hq1.below hb) (hq2.below hb) hv)
        have HSA0 := Lib.hid (fun (hv : VdG H) (C0 C1 : Option Addr) (p0 q0 p1 q1 : Nat) W (hb : Below wr.heap.size wr W) (i1 : Ints W (.slice C0 p0 q0) (lstM H).1) (i2 : Ints W (.slice C1 p1 q1) (lstM H).2) => refSame_any (.slice C0 p0 q0) (.slice C1 p1 q1) (.slice A0 m0 c0) (.slice A1 m1 c1) (lstM H).1 (lstM H).2 H.1 H.2 W i1 i2 (hq1.below hb) (hq2.below hb) (by have := (lstM_vd hv).most; omega) (by have := (lstM_vd hv).most; have := (lstM_vd hv).len; omega) hm.1 hm.2)
        clear hq hq1 hq2 hm hbl hH hbw
        have z1 : (k : Int) < (gs.length : Int) := by omega
        by_cases hv : VdG H
        · have HVH := Lib.hid hv
          have HLE := Lib.hid (HLE0.out hv)
          have HVA := Lib.hid (fun W (hb : Below wr.heap.size wr W) => (HVA0.out W hb).mono fun e w' (h : _ ∧ _) => show e = .returned (.bool true) ∧ Below W.heap.size W w' from ⟨by rw [h.1, refValidB_eq, (validB_iff _ _).2 HVH.out], h.2⟩)
          have hsa := HSA0.out hv
          obtain ⟨bb, hbb⟩ : ∃ b, b = decide (((lstM H).1, (lstM H).2) = (H.1, H.2)) := ⟨_, rfl⟩
          rw [← hbb] at hsa
          have HSA := Lib.hid hsa
          have HBB := Lib.hid hbb
          clear hv hsa hbb HVA0 HLE0 HSA0
          go_upto_region 6 with fail
          refine wp_region_phy (fun a b => Below a.heap.size a b) (fun h k => h.trans (k.mono h.size)) ((Below.refl _ _).drew) (by kernel_rfl) (by kernel_rfl) (by kernel_rfl) (by kernel_rfl) (phiT (fun i => ([some (.slice (some ⟨b, o, none⟩) gs.length cl), some (.int .i64 (k : Int)), some (.pointer (some ⟨b, o + k * 2, none⟩)), some (.agg #[.slice A0 m0 c0, .slice A1 m1 c1]), some (.bool true), some (.bool false), some (.bool false), some (.slice (some ⟨b, o, none⟩) gs.length cl), some (.int .i64 (k : Int)), some (.pointer (some ⟨b, o + k * 2, none⟩)), some (.agg #[.slice A0 m0 c0, .slice A1 m1 c1]), none, some (.slice (some ⟨b, o, none⟩) gs.length cl), some (.int .i64 (k : Int)), some (.pointer (some ⟨b, o + k * 2, none⟩)), some (.agg #[.slice A0 m0 c0, .slice A1 m1 c1]), some (.bool bb), some (.bool (!bb)), some (.bool (!bb))] : List (Option Value)).getD i none) (fun i v w => (if i = 11 then (fun v w => ∃ C0 p0 q0 C1 p1 q1, v = .agg #[.slice C0 p0 q0, .slice C1 p1 q1] ∧ Ints w (.slice C0 p0 q0) (lstM H).1 ∧ Ints w (.slice C1 p1 q1) (lstM H).2) v w else True))) (fun i v w w' h hb => ?_) ⟨?_, ?_, ?_, ?_, ?_, ?_, ?_, ?_, ?_, ?_, ?_, ?_, ?_, ?_, ?_, ?_, ?_, ?_, ?_, trivial⟩ ?_
          · unfold phiT at h ⊢
            split
            · next u hu => rw [hu] at h; exact h
            · next hu =>
              rw [hu] at h
              simp only at h ⊢
              by_cases q11 : i = 11
              · rw [if_pos q11] at h ⊢; exact by obtain ⟨C0, p0, q0, C1, p1, q1, h1, h2, h3⟩ := h; exact ⟨C0, p0, q0, C1, p1, q1, h1, h2.below hb, h3.below hb⟩
              · rw [if_neg q11] at h ⊢
                trivial
          · intro x w1 bA hT hdep hold hb
            refine .inl ⟨trivial, ?_⟩
            have e1 : bA.tmps[1]?.getD undef = .slice (some ⟨b, o, none⟩) gs.length cl := hb 1
            refine phx_run (.slice (some ⟨b, o, none⟩) gs.length cl) ?_ (Below.refl _ _) rfl
            clear hb hdep hold
            go_simp
          · intro x w1 bA hT hdep hold hb
            refine .inl ⟨trivial, ?_⟩
            have e5 : bA.tmps[5]?.getD undef = .int .i64 (k : Int) := hb 5
            refine phx_run (.int .i64 (k : Int)) ?_ (Below.refl _ _) rfl
            clear hb hdep hold
            go_simp
          · intro x w1 bA hT hdep hold hb
            refine .inl ⟨trivial, ?_⟩
            have e25 : bA.tmps[25]?.getD undef = .slice (some ⟨b, o, none⟩) gs.length cl := (hb 25).trans (hdep 0 (by decide))
            have e26 : bA.tmps[26]?.getD undef = .int .i64 (k : Int) := (hb 26).trans (hdep 1 (by decide))
            refine phx_run (.pointer (some ⟨b, o + k * 2, none⟩)) ?_ (Below.refl _ _) rfl
            clear hb hdep hold
            go_simp
          · intro x w1 bA hT hdep hold hb
            refine .inl ⟨trivial, ?_⟩
            have e27 : bA.tmps[27]?.getD undef = .pointer (some ⟨b, o + k * 2, none⟩) := (hb 27).trans (hdep 2 (by decide))
            have cc0 := (hT.cell (p := ⟨b, o + k * 2, none⟩) (block_lt_of_cell y0)).trans y0
            have cc1 := (hT.cell (p := ⟨b, o + k * 2 + 1, none⟩) (block_lt_of_cell y1)).trans y1
            refine phx_run (.agg #[.slice A0 m0 c0, .slice A1 m1 c1]) ?_ (Below.refl _ _) rfl
            clear hb hdep hold
            go_simp
          · intro x w1 bA hT hdep hold hb
            refine .inl ⟨trivial, ?_⟩
            have e28 : bA.tmps[28]?.getD undef = .agg #[.slice A0 m0 c0, .slice A1 m1 c1] := (hb 28).trans (hdep 3 (by decide))
            refine phx_call ?_ ((HVA.out w1 hT).mono fun e w' h => ⟨_, h.1, h.2, rfl⟩)
            clear hb hdep hold
            go_simp
          · intro x w1 bA hT hdep hold hb
            refine .inl ⟨trivial, ?_⟩
            have e29 : bA.tmps[29]?.getD undef = .bool true := (hb 29).trans (hdep 4 (by decide))
            refine phx_run (.bool false) ?_ (Below.refl _ _) rfl
            clear hb hdep hold
            go_simp
          · intro x w1 bA hT hdep hold hb
            refine .inl ⟨trivial, ?_⟩
            have e30 : bA.tmps[30]?.getD undef = .bool false := (hb 30).trans (hdep 5 (by decide))
            refine phx_run (.bool false) ?_ (Below.refl _ _) rfl
            clear hb hdep hold
            go_simp
          · intro x w1 bA hT hdep hold hb
            refine .inl ⟨⟨31, rfl, (hb 31).trans (hdep 6 (by decide))⟩, ?_⟩
            have e1 : bA.tmps[1]?.getD undef = .slice (some ⟨b, o, none⟩) gs.length cl := hb 1
            refine phx_run (.slice (some ⟨b, o, none⟩) gs.length cl) ?_ (Below.refl _ _) rfl
            clear hb hdep hold
            go_simp
          · intro x w1 bA hT hdep hold hb
            refine .inl ⟨⟨31, rfl, (hb 31).trans (hdep 6 (by decide))⟩, ?_⟩
            have e5 : bA.tmps[5]?.getD undef = .int .i64 (k : Int) := hb 5
            refine phx_run (.int .i64 (k : Int)) ?_ (Below.refl _ _) rfl
            clear hb hdep hold
            go_simp
          · intro x w1 bA hT hdep hold hb
            refine .inl ⟨⟨31, rfl, (hb 31).trans (hdep 6 (by decide))⟩, ?_⟩
            have e32 : bA.tmps[32]?.getD undef = .slice (some ⟨b, o, none⟩) gs.length cl := (hb 32).trans (hdep 7 (by decide))
            have e33 : bA.tmps[33]?.getD undef = .int .i64 (k : Int) := (hb 33).trans (hdep 8 (by decide))
            refine phx_run (.pointer (some ⟨b, o + k * 2, none⟩)) ?_ (Below.refl _ _) rfl
            clear hb hdep hold
            go_simp
          · intro x w1 bA hT hdep hold hb
            refine .inl ⟨⟨31, rfl, (hb 31).trans (hdep 6 (by decide))⟩, ?_⟩
            have e34 : bA.tmps[34]?.getD undef = .pointer (some ⟨b, o + k * 2, none⟩) := (hb 34).trans (hdep 9 (by decide))
            have cc0 := (hT.cell (p := ⟨b, o + k * 2, none⟩) (block_lt_of_cell y0)).trans y0
            have cc1 := (hT.cell (p := ⟨b, o + k * 2 + 1, none⟩) (block_lt_of_cell y1)).trans y1
            refine phx_run (.agg #[.slice A0 m0 c0, .slice A1 m1 c1]) ?_ (Below.refl _ _) rfl
            clear hb hdep hold
            go_simp
          · intro x w1 bA hT hdep hold hb
            refine .inl ⟨⟨31, rfl, (hb 31).trans (hdep 6 (by decide))⟩, ?_⟩
            have e35 : bA.tmps[35]?.getD undef = .agg #[.slice A0 m0 c0, .slice A1 m1 c1] := (hb 35).trans (hdep 10 (by decide))
            refine phx_call ?_ ((HLE.out w1 hT).mono fun e w' h => by obtain ⟨C0, p0, q0, C1, p1, q1, h1, h2, h3, h4⟩ := h; exact ⟨_, h1, h4, C0, p0, q0, C1, p1, q1, rfl, h2, h3⟩)
            clear hb hdep hold
            go_simp
          · intro x w1 bA hT hdep hold hb
            refine .inl ⟨⟨31, rfl, (hb 31).trans (hdep 6 (by decide))⟩, ?_⟩
            have e1 : bA.tmps[1]?.getD undef = .slice (some ⟨b, o, none⟩) gs.length cl := hb 1
            refine phx_run (.slice (some ⟨b, o, none⟩) gs.length cl) ?_ (Below.refl _ _) rfl
            clear hb hdep hold
            go_simp
          · intro x w1 bA hT hdep hold hb
            refine .inl ⟨⟨31, rfl, (hb 31).trans (hdep 6 (by decide))⟩, ?_⟩
            have e5 : bA.tmps[5]?.getD undef = .int .i64 (k : Int) := hb 5
            refine phx_run (.int .i64 (k : Int)) ?_ (Below.refl _ _) rfl
            clear hb hdep hold
            go_simp
          · intro x w1 bA hT hdep hold hb
            refine .inl ⟨⟨31, rfl, (hb 31).trans (hdep 6 (by decide))⟩, ?_⟩
            have e37 : bA.tmps[37]?.getD undef = .slice (some ⟨b, o, none⟩) gs.length cl := (hb 37).trans (hdep 12 (by decide))
            have e38 : bA.tmps[38]?.getD undef = .int .i64 (k : Int) := (hb 38).trans (hdep 13 (by decide))
            refine phx_run (.pointer (some ⟨b, o + k * 2, none⟩)) ?_ (Below.refl _ _) rfl
            clear hb hdep hold
            go_simp
          · intro x w1 bA hT hdep hold hb
            refine .inl ⟨⟨31, rfl, (hb 31).trans (hdep 6 (by decide))⟩, ?_⟩
            have e39 : bA.tmps[39]?.getD undef = .pointer (some ⟨b, o + k * 2, none⟩) := (hb 39).trans (hdep 14 (by decide))
            have cc0 := (hT.cell (p := ⟨b, o + k * 2, none⟩) (block_lt_of_cell y0)).trans y0
            have cc1 := (hT.cell (p := ⟨b, o + k * 2 + 1, none⟩) (block_lt_of_cell y1)).trans y1
            refine phx_run (.agg #[.slice A0 m0 c0, .slice A1 m1 c1]) ?_ (Below.refl _ _) rfl
            clear hb hdep hold
            go_simp
          · intro x w1 bA hT hdep hold hb
            refine .inl ⟨⟨31, rfl, (hb 31).trans (hdep 6 (by decide))⟩, ?_⟩
            have p36 := hdep 11 (by decide)
            have e36 : bA.tmps[36]?.getD undef = x 11 := hb 36
            generalize x 11 = x36 at *
            have P36 := Lib.hid (show (fun v w => ∃ C0 p0 q0 C1 p1 q1, v = .agg #[.slice C0 p0 q0, .slice C1 p1 q1] ∧ Ints w (.slice C0 p0 q0) (lstM H).1 ∧ Ints w (.slice C1 p1 q1) (lstM H).2) x36 w1 from p36)
            clear p36
            have e40 : bA.tmps[40]?.getD undef = .agg #[.slice A0 m0 c0, .slice A1 m1 c1] := (hb 40).trans (hdep 15 (by decide))
            obtain ⟨C0, p0, q0, C1, p1, q1, he36, h36, h36b⟩ := P36.out
            subst he36
            have HC36 := Lib.hid (And.intro h36 h36b)
            clear h36 h36b P36
            refine phx_call ?_ ((HSA.out C0 C1 p0 q0 p1 q1 w1 hT HC36.out.1 HC36.out.2).mono fun e w' h => ⟨_, h.1, h.2, rfl⟩)
            clear hb hdep hold
            go_simp
          · intro x w1 bA hT hdep hold hb
            refine .inl ⟨⟨31, rfl, (hb 31).trans (hdep 6 (by decide))⟩, ?_⟩
            have e41 : bA.tmps[41]?.getD undef = .bool bb := (hb 41).trans (hdep 16 (by decide))
            refine phx_run (.bool (!bb)) ?_ (Below.refl _ _) rfl
            clear hb hdep hold
            go_simp
          · intro x w1 bA hT hdep hold hb
            refine .inl ⟨trivial, ?_⟩
            have e31 : bA.tmps[31]?.getD undef = .bool false := (hb 31).trans (hdep 6 (by decide))
            have e42 : bA.tmps[42]?.getD undef = .bool (!bb) := (hb 42).trans (hdep 17 (by decide))
            refine phx_run (.bool (!bb)) ?_ (Below.refl _ _) rfl
            clear hb hdep hold
            go_simp
          intro x w1 hT hall
          have x0e : x 0 = .slice (some ⟨b, o, none⟩) gs.length cl := hall 0 (by decide)
          have x1e : x 1 = .int .i64 (k : Int) := hall 1 (by decide)
          have x2e : x 2 = .pointer (some ⟨b, o + k * 2, none⟩) := hall 2 (by decide)
          have x3e : x 3 = .agg #[.slice A0 m0 c0, .slice A1 m1 c1] := hall 3 (by decide)
          have x4e : x 4 = .bool true := hall 4 (by decide)
          have x5e : x 5 = .bool false := hall 5 (by decide)
          have x6e : x 6 = .bool false := hall 6 (by decide)
          have x7e : x 7 = .slice (some ⟨b, o, none⟩) gs.length cl := hall 7 (by decide)
          have x8e : x 8 = .int .i64 (k : Int) := hall 8 (by decide)
          have x9e : x 9 = .pointer (some ⟨b, o + k * 2, none⟩) := hall 9 (by decide)
          have x10e : x 10 = .agg #[.slice A0 m0 c0, .slice A1 m1 c1] := hall 10 (by decide)
          have p36 := hall 11 (by decide)
          have x12e : x 12 = .slice (some ⟨b, o, none⟩) gs.length cl := hall 12 (by decide)
          have x13e : x 13 = .int .i64 (k : Int) := hall 13 (by decide)
          have x14e : x 14 = .pointer (some ⟨b, o + k * 2, none⟩) := hall 14 (by decide)
          have x15e : x 15 = .agg #[.slice A0 m0 c0, .slice A1 m1 c1] := hall 15 (by decide)
          have x16e : x 16 = .bool bb := hall 16 (by decide)
          have x17e : x 17 = .bool (!bb) := hall 17 (by decide)
          have x18e : x 18 = .bool (!bb) := hall 18 (by decide)
          simp only [putAll, dstOf, Act.put, List.map_cons, List.map_nil, List.setIfInBounds_toArray, List.set_cons_succ, List.set_cons_zero, Nat.reduceAdd, x0e, x1e, x2e, x3e, x4e, x5e, x6e, x7e, x8e, x9e, x10e, x12e, x13e, x14e, x15e, x16e, x17e, x18e]
          clear x0e x1e x2e x3e x4e x5e x6e x7e x8e x9e x10e x12e x13e x14e x15e x16e x17e x18e hall
          have HB5 := Lib.hid (HB.out.trans (hT.mono (Nat.le_of_lt HS.out)))
          have HS5 := Lib.hid (Nat.lt_of_lt_of_le HS.out hT.size)
          clear hT HB HS HVA HLE HSA y0 y1 p36
          cases bb with
          | true =>
            have HO2 := Lib.hid (show ∀ h ∈ gs.take (k + 1), okG h from HAS.out.2 ⟨HO.out, HVH.out, of_decide_eq_true HBB.out.symm⟩)
            clear HO HAS HBB HVH
            go_wp2_with fail
            go_roundw
            case rel => exact ⟨k + 1, by go_num, by omega, HB5, HS5, HO2⟩
            case measure => simp [intOf]; omega
          | false =>
            have HNC := Lib.hid (show ¬ ClG (X, O) gs from fun h => (of_decide_eq_false HBB.out.symm) ((clG_iff.1 h).2.2.1 H HHM.out).2)
            clear HO HAS HBB HVH
            go_wp2_with fail
            go_ret
            exact ⟨⟨false, rfl, by simp [HNC.out]⟩, by rw [← HN0.out]; exact HB5.out⟩
        · have HNC := Lib.hid (show ¬ ClG (X, O) gs from fun h => hv ((clG_iff.1 h).2.2.1 H HHM.out).1)
          have HVA := Lib.hid (fun W (hb : Below wr.heap.size wr W) => (HVA0.out W hb).mono fun e w' (h : _ ∧ _) => show e = .returned (.bool false) ∧ Below W.heap.size W w' from ⟨by
            rw [h.1, refValidB_eq]
            cases h2 : validB H.1 H.2 with
            | false => rfl
            | true => exact absurd ((validB_iff _ _).1 h2) hv, h.2⟩)
          clear hv HVA0 HLE0 HSA0 HAS
          go_upto_region 6 with fail
          refine wp_region_phy (fun a b => Below a.heap.size a b) (fun h k => h.trans (k.mono h.size)) ((Below.refl _ _).drew) (by kernel_rfl) (by kernel_rfl) (by kernel_rfl) (by kernel_rfl) (phiT (fun i => ([some (.slice (some ⟨b, o, none⟩) gs.length cl), some (.int .i64 (k : Int)), some (.pointer (some ⟨b, o + k * 2, none⟩)), some (.agg #[.slice A0 m0 c0, .slice A1 m1 c1]), some (.bool false), some (.bool true), some (.bool true), some (undef), some (undef), some (undef), some (undef), some (undef), some (undef), some (undef), some (undef), some (undef), some (undef), some (undef), some (.bool true)] : List (Option Value)).getD i none) (fun i v w => True)) (fun i v w w' h hb => ?_) ⟨?_, ?_, ?_, ?_, ?_, ?_, ?_, ?_, ?_, ?_, ?_, ?_, ?_, ?_, ?_, ?_, ?_, ?_, ?_, trivial⟩ ?_
          · unfold phiT at h ⊢
            split
            · next u hu => rw [hu] at h; exact h
            · next hu =>
              rw [hu] at h
              exact True.intro
          · intro x w1 bA hT hdep hold hb
            refine .inl ⟨trivial, ?_⟩
            have e1 : bA.tmps[1]?.getD undef = .slice (some ⟨b, o, none⟩) gs.length cl := hb 1
            refine phx_run (.slice (some ⟨b, o, none⟩) gs.length cl) ?_ (Below.refl _ _) rfl
            clear hb hdep hold
            go_simp
          · intro x w1 bA hT hdep hold hb
            refine .inl ⟨trivial, ?_⟩
            have e5 : bA.tmps[5]?.getD undef = .int .i64 (k : Int) := hb 5
            refine phx_run (.int .i64 (k : Int)) ?_ (Below.refl _ _) rfl
            clear hb hdep hold
            go_simp
          · intro x w1 bA hT hdep hold hb
            refine .inl ⟨trivial, ?_⟩
            have e25 : bA.tmps[25]?.getD undef = .slice (some ⟨b, o, none⟩) gs.length cl := (hb 25).trans (hdep 0 (by decide))
            have e26 : bA.tmps[26]?.getD undef = .int .i64 (k : Int) := (hb 26).trans (hdep 1 (by decide))
            refine phx_run (.pointer (some ⟨b, o + k * 2, none⟩)) ?_ (Below.refl _ _) rfl
            clear hb hdep hold
            go_simp
          · intro x w1 bA hT hdep hold hb
            refine .inl ⟨trivial, ?_⟩
            have e27 : bA.tmps[27]?.getD undef = .pointer (some ⟨b, o + k * 2, none⟩) := (hb 27).trans (hdep 2 (by decide))
            have cc0 := (hT.cell (p := ⟨b, o + k * 2, none⟩) (block_lt_of_cell y0)).trans y0
            have cc1 := (hT.cell (p := ⟨b, o + k * 2 + 1, none⟩) (block_lt_of_cell y1)).trans y1
            refine phx_run (.agg #[.slice A0 m0 c0, .slice A1 m1 c1]) ?_ (Below.refl _ _) rfl
            clear hb hdep hold
            go_simp
          · intro x w1 bA hT hdep hold hb
            refine .inl ⟨trivial, ?_⟩
            have e28 : bA.tmps[28]?.getD undef = .agg #[.slice A0 m0 c0, .slice A1 m1 c1] := (hb 28).trans (hdep 3 (by decide))
            refine phx_call ?_ ((HVA.out w1 hT).mono fun e w' h => ⟨_, h.1, h.2, rfl⟩)
            clear hb hdep hold
            go_simp
          · intro x w1 bA hT hdep hold hb
            refine .inl ⟨trivial, ?_⟩
            have e29 : bA.tmps[29]?.getD undef = .bool false := (hb 29).trans (hdep 4 (by decide))
            refine phx_run (.bool true) ?_ (Below.refl _ _) rfl
            clear hb hdep hold
            go_simp
          · intro x w1 bA hT hdep hold hb
            refine .inl ⟨trivial, ?_⟩
            have e30 : bA.tmps[30]?.getD undef = .bool true := (hb 30).trans (hdep 5 (by decide))
            refine phx_run (.bool true) ?_ (Below.refl _ _) rfl
            clear hb hdep hold
            go_simp
          · intro x w1 bA hT hdep hold hb
            exact .inr ⟨⟨31, rfl, .inl ((hb 31).trans (hdep 6 (by decide)))⟩, rfl⟩
          · intro x w1 bA hT hdep hold hb
            exact .inr ⟨⟨31, rfl, .inl ((hb 31).trans (hdep 6 (by decide)))⟩, rfl⟩
          · intro x w1 bA hT hdep hold hb
            exact .inr ⟨⟨31, rfl, .inl ((hb 31).trans (hdep 6 (by decide)))⟩, rfl⟩
          · intro x w1 bA hT hdep hold hb
            exact .inr ⟨⟨31, rfl, .inl ((hb 31).trans (hdep 6 (by decide)))⟩, rfl⟩
          · intro x w1 bA hT hdep hold hb
            exact .inr ⟨⟨31, rfl, .inl ((hb 31).trans (hdep 6 (by decide)))⟩, rfl⟩
          · intro x w1 bA hT hdep hold hb
            exact .inr ⟨⟨31, rfl, .inl ((hb 31).trans (hdep 6 (by decide)))⟩, rfl⟩
          · intro x w1 bA hT hdep hold hb
            exact .inr ⟨⟨31, rfl, .inl ((hb 31).trans (hdep 6 (by decide)))⟩, rfl⟩
          · intro x w1 bA hT hdep hold hb
            exact .inr ⟨⟨31, rfl, .inl ((hb 31).trans (hdep 6 (by decide)))⟩, rfl⟩
          · intro x w1 bA hT hdep hold hb
            exact .inr ⟨⟨31, rfl, .inl ((hb 31).trans (hdep 6 (by decide)))⟩, rfl⟩
          · intro x w1 bA hT hdep hold hb
            exact .inr ⟨⟨31, rfl, .inl ((hb 31).trans (hdep 6 (by decide)))⟩, rfl⟩
          · intro x w1 bA hT hdep hold hb
            exact .inr ⟨⟨31, rfl, .inl ((hb 31).trans (hdep 6 (by decide)))⟩, rfl⟩
          · intro x w1 bA hT hdep hold hb
            refine .inl ⟨trivial, ?_⟩
            have e31 : bA.tmps[31]?.getD undef = .bool true := (hb 31).trans (hdep 6 (by decide))
            refine phx_run (.bool true) ?_ (Below.refl _ _) rfl
            clear hb hdep hold
            go_simp
          intro x w1 hT hall
          have x0e : x 0 = .slice (some ⟨b, o, none⟩) gs.length cl := hall 0 (by decide)
          have x1e : x 1 = .int .i64 (k : Int) := hall 1 (by decide)
          have x2e : x 2 = .pointer (some ⟨b, o + k * 2, none⟩) := hall 2 (by decide)
          have x3e : x 3 = .agg #[.slice A0 m0 c0, .slice A1 m1 c1] := hall 3 (by decide)
          have x4e : x 4 = .bool false := hall 4 (by decide)
          have x5e : x 5 = .bool true := hall 5 (by decide)
          have x6e : x 6 = .bool true := hall 6 (by decide)
          have x7e : x 7 = undef := hall 7 (by decide)
          have x8e : x 8 = undef := hall 8 (by decide)
          have x9e : x 9 = undef := hall 9 (by decide)
          have x10e : x 10 = undef := hall 10 (by decide)
          have x11e : x 11 = undef := hall 11 (by decide)
          have x12e : x 12 = undef := hall 12 (by decide)
          have x13e : x 13 = undef := hall 13 (by decide)
          have x14e : x 14 = undef := hall 14 (by decide)
          have x15e : x 15 = undef := hall 15 (by decide)
          have x16e : x 16 = undef := hall 16 (by decide)
          have x17e : x 17 = undef := hall 17 (by decide)
          have x18e : x 18 = .bool true := hall 18 (by decide)
          simp only [putAll, dstOf, Act.put, List.map_cons, List.map_nil, List.setIfInBounds_toArray, List.set_cons_succ, List.set_cons_zero, Nat.reduceAdd, x0e, x1e, x2e, x3e, x4e, x5e, x6e, x7e, x8e, x9e, x10e, x11e, x12e, x13e, x14e, x15e, x16e, x17e, x18e]
          clear x0e x1e x2e x3e x4e x5e x6e x7e x8e x9e x10e x11e x12e x13e x14e x15e x16e x17e x18e hall
          have HB5 := Lib.hid (HB.out.trans (hT.mono (Nat.le_of_lt HS.out)))
          clear hT HB HS HVA y0 y1
          go_wp2_with fail
          go_ret
          exact ⟨⟨false, rfl, by simp [HNC.out]⟩, by rw [← HN0.out]; exact HB5.out⟩
      · obtain rfl : k = gs.length := by omega
        have HOK := Lib.hid (show ∀ h ∈ gs, okG h by have := HO.out; rwa [List.take_length] at this)
        clear HO
        go_wp2_with fail
        obtain ⟨wo1, hwo1⟩ : ∃ W, W = wr := ⟨_, rfl⟩
        clear hwo1
        go_loopw [6] (fun i wr => ∃ k : Nat, i = .int .i64 (k : Int) ∧ k ≤ gs.length ∧ Hid (Below n0 w wr) ∧ Hid (n0 < wr.heap.size) ∧ Hid (∀ h ∈ gs.take k, ∀ z, Fol h z → z ∈ gs)) (fun i _ => gs.length - (intOf i).toNat)
        case atStart => exact ⟨0, rfl, Nat.zero_le _, HB, HS, Lib.hid (fun h hh => by simp at hh)⟩
        case round =>
          clear HB HS
          obtain ⟨k, rfl, hk, HB, HS, HO⟩ := hrel
          by_cases hlt : k < gs.length
          · obtain ⟨b, o, A0, m0, c0, A1, m1, c1, rfl, hbl, y0, y1, hq⟩ := hg.at_ hlt
            have hbw : Below w.heap.size w wr := by rw [← HN0.out]; exact HB.out
            have y0 := (hbw.cell (p := ⟨b, o + k * 2, none⟩) hbl).trans y0
            have y1 := (hbw.cell (p := ⟨b, o + k * 2 + 1, none⟩) hbl).trans y1
            have HAS := Lib.hid (all_step (P := fun h => ∀ z, Fol h z → z ∈ gs) hlt)
            obtain ⟨H, hH⟩ : ∃ H : Gd, H = gs[k] := ⟨_, rfl⟩
            rw [← hH] at hq HAS
            have HHM := Lib.hid (show H ∈ gs by rw [hH]; exact List.getElem_mem hlt)
            have HVH := Lib.hid (HOK.out H HHM.out).1
            have HFL := Lib.hid (refFollow_any (.slice A0 m0 c0) (.slice A1 m1 c1) H.1 H.2 wr (hq.1.below hbw) (hq.2.below hbw) HVH.out)
            clear hq hbl hH hbw
            have z1 : (k : Int) < (gs.length : Int) := by omega
            go_wp2_with (go_at_call 24; refine HFL.out.mono ?_; rintro e5 w5 ⟨F0, nf, cf, fs, rfl, hfs, hif, hb5⟩; obtain rfl := hfs.len; have HFS := Lib.hid hfs; have HIF := Lib.hid hif; have HB5 := Lib.hid (HB.out.trans (hb5.mono (Nat.le_of_lt HS.out))); have HS5 := Lib.hid (Nat.lt_of_lt_of_le HS.out hb5.size); have HGG := Lib.hid hb5; clear hfs hif hb5 y0 y1)
            obtain ⟨wo2, hwo2⟩ : ∃ W, W = w5 := ⟨_, rfl⟩
            have HW2 := Lib.hid hwo2
            clear hwo2
            go_loopw [8] (fun i wr => ∃ j : Nat, i = .int .i64 (j : Int) ∧ j ≤ fs.length ∧ Hid (Below n0 w wr) ∧ Hid (n0 < wr.heap.size) ∧ Hid (Below w5.heap.size w5 wr) ∧ Hid (∀ z ∈ fs.take j, z ∈ gs)) (fun i _ => fs.length - (intOf i).toNat)
            case atStart => exact ⟨0, rfl, Nat.zero_le _, HB5, HS5, Lib.hid (Below.refl _ _), Lib.hid (fun h hh => by simp at hh)⟩
            case round =>
              clear HB5 HS5
              obtain ⟨j, rfl, hj, HB5, HS5, HB6, HO2⟩ := hrel
              by_cases hlt2 : j < fs.length
              · obtain ⟨b2, o2, D0, m2, d0, D1, m3, d1, rfl, hbl2, u0, u1, hq2⟩ := HFS.out.at_ hlt2
                have u0 := (HB6.out.cell (p := ⟨b2, o2 + j * 2, none⟩) hbl2).trans u0
                have u1 := (HB6.out.cell (p := ⟨b2, o2 + j * 2 + 1, none⟩) hbl2).trans u1
                have HAS2 := Lib.hid (all_step (P := fun z => z ∈ gs) hlt2)
                have HFZ := Lib.hid ((HIF.out.2.2 _).1 (List.getElem_mem hlt2))
                obtain ⟨Z, hZ⟩ : ∃ Z : Gd, Z = fs[j] := ⟨_, rfl⟩
                rw [← hZ] at hq2 HAS2 HFZ
                have hzb : Z.1.length ≤ 1000 ∧ Z.2.length ≤ 1000 := by
                  obtain ⟨y, hy, e⟩ := fol_vd HFZ.out HVH.out
                  have h1 := (lstM_vd hy).most
                  have h2 := (lstM_vd hy).len
                  rw [e] at h1 h2
                  omega
                have HII := Lib.hid (HI.out _ HB5.out _ _ _ _ (hq2.1.below HB6.out) (hq2.2.below HB6.out) hzb.1 hzb.2)
                clear hq2 hbl2 hZ hzb
                have z2 : (j : Int) < (fs.length : Int) := by omega
                have z3 := HIF.out.2.1
                by_cases hin : Z ∈ gs
                · rw [decide_eq_true (show (Z.1, Z.2) ∈ gs from hin)] at HII
                  have HO3 := Lib.hid (HAS2.out.2 ⟨HO2.out, hin⟩)
                  clear hin HO2 HAS2
                  go_wp2_with (go_at_call 25; refine HII.out.mono ?_; rintro e7 w7 ⟨rfl, hb7⟩; have HB7 := Lib.hid (HB5.out.trans (hb7.mono (Nat.le_of_lt HS5.out))); have HS7 := Lib.hid (Nat.lt_of_lt_of_le HS5.out hb7.size); have HB8 := Lib.hid (HB6.out.trans (hb7.mono HB6.out.size)); clear hb7 u0 u1)
                  go_roundw
                  case rel => exact ⟨j + 1, by go_num, by omega, HB7, HS7, HB8, HO3⟩
                  case measure => simp [intOf]; omega
                · rw [decide_eq_false (show ¬ (Z.1, Z.2) ∈ gs from hin)] at HII
                  have HNC := Lib.hid (show ¬ ClG (X, O) gs from fun h => hin ((clG_iff.1 h).2.2.2 H HHM.out Z HFZ.out))
                  clear hin HO2 HAS2
                  go_wp2_with (go_at_call 25; refine HII.out.mono ?_; rintro e7 w7 ⟨rfl, hb7⟩; have HB7 := Lib.hid (HB5.out.trans (hb7.mono (Nat.le_of_lt HS5.out))); clear hb7 u0 u1)
                  go_ret
                  exact ⟨⟨false, rfl, by simp [HNC.out]⟩, by rw [← HN0.out]; exact HB7.out⟩
              · obtain rfl : j = fs.length := by omega
                have HO3 := Lib.hid (HAS.out.2 ⟨HO.out, fun z hz => by have := HO2.out; rw [List.take_length] at this; exact this z ((HIF.out.2.2 z).2 hz)⟩)
                clear HO2 HAS
                go_wp2_with fail
                go_roundw
                case rel => exact ⟨k + 1, by go_num, by omega, HB5, HS5, HO3⟩
                case measure => simp [intOf]; omega
          · obtain rfl : k = gs.length := by omega
            have HYC := Lib.hid (show ClG (X, O) gs from clG_iff.2 ⟨HVD.out, HIN.out, HOK.out, by have := HO.out; rwa [List.take_length] at this⟩)
            clear HO
            go_wp2_with fail
            go_ret
            exact ⟨⟨true, rfl, by simp [HYC.out]⟩, by rw [← HN0.out]; exact HB.out⟩
  · have HVD := Lib.hid (show ¬ ClG (X, O) gs from fun h => hv h.2.1)
    rw [show validB X O = false from by
      cases h : validB X O with
      | false => rfl
      | true => exact absurd ((validB_iff X O).1 h) hv] at HV1
    clear hv
    go_wp2_with (go_at_call 8; refine HV1.out.mono ?_; rintro e2 w2 ⟨rfl, hb2⟩; have HB2 := Lib.hid (HB1.out.trans (hb2.mono (Nat.le_of_lt HQ1.out.lt))))
    go_ret
    exact ⟨⟨false, rfl, by simp [HVD.out]⟩, by rw [← HN0.out]; exact HB2.out⟩
end Go.Proofs.YteliflcbegcdlaaGreatDoor
