/- The reference's Closed (layer 45). -/
/- UnknotClosed: the plain law, and lists of grids cut in parts. -/
/- The law UnknotClosed: the walk. -/
import Derived.Test.YteliflcbegcdlaaGreatDoorZFlw
import Derived.Test.YteliflcbegcdlaaGreatDoorZVer
import Derived.Test.YteliflcbegcdlaaGreatDoorZAwu
import Derived.Test.YteliflcbegcdlaaGreatDoorZSlb
namespace Go.Proofs.YteliflcbegcdlaaGreatDoor
open Go.RowKit Go.Shelf
set_option linter.unusedVariables false
/-- the first tests of Closed -/
def okG (h : Gd) : Prop := VdG h ∧ lstM h = h
theorem clG_iff {g : Gd} {gs : List Gd} : ClG g gs ↔ VdG g ∧ lstM g ∈ gs ∧ (∀ h ∈ gs, okG h) ∧ ∀ h ∈ gs, ∀ z, Fol h z → z ∈ gs := by
  constructor
  · rintro ⟨h1, h2, h3, h4, h5⟩
    exact ⟨h2, h4, fun h hh => ⟨h1 h hh, h3 h hh⟩, fun h hh z hz => by
      obtain ⟨ms, y, hm, e⟩ := fol_nbrs (h1 h hh) hz
      rw [← e]; exact h5 h hh ms y hm⟩
  · rintro ⟨h1, h2, h3, h4⟩
    exact ⟨fun h hh => (h3 h hh).1, h1, fun h hh => (h3 h hh).2, h2, fun h hh ms z hm => h4 h hh _ (nbrs_fol (h3 h hh).1 hm)⟩
theorem all_step {α : Type} {P : α → Prop} {l : List α} {k : Nat} (h : k < l.length) : (∀ x ∈ l.take (k + 1), P x) ↔ (∀ x ∈ l.take k, P x) ∧ P l[k] := by
  rw [List.take_succ_eq_append_getElem h]
  constructor
  · intro q
    exact ⟨fun x hx => q x (List.mem_append_left _ hx), q _ (List.mem_append_right _ (by simp))⟩
  · rintro ⟨q1, q2⟩ x hx
    rcases List.mem_append.1 hx with hx | hx
    · exact q1 x hx
    · rw [List.mem_singleton.1 hx]; exact q2
set_option maxHeartbeats 8000000 in
set_option maxRecDepth 100000 in
theorem refClosed_any (vx vo : Value) (X O : List Int) (Al : Option Addr) (nl cl : Nat) (gs : List Gd) (w : World) (hX : Ints w vx X) (hO : Ints w vo O) (lX : X.length ≤ 1000) (lO : O.length ≤ 1000) (hg : Gds w (.slice Al nl cl) gs) (hgl : gs.length ≤ 1000000000) (hgb : ∀ h ∈ gs, h.1.length ≤ 1000 ∧ h.2.length ≤ 1000) :
    Calls Tryz.prog 13 #[.agg #[vx, vo], .slice Al nl cl] w fun e w' => (∃ b, e = .returned (.bool b) ∧ (b = true ↔ ClG (X, O) gs)) ∧ Below w.heap.size w w' := by
  obtain rfl := hg.len
  have HV := Lib.hid (fun W (hb : Below w.heap.size w W) => refValid_any vx vo X O W (hX.below hb) (hO.below hb) lX lO)
  have HLS := Lib.hid (fun W (hb : Below w.heap.size w W) (hv : Vd X O) => refLeast_any vx vo X O W (hX.below hb) (hO.below hb) hv)
  have HI := Lib.hid (fun W (hb : Below w.heap.size w W) (va vb : Value) (Y R : List Int) (h1 : Ints W va Y) (h2 : Ints W vb R) (l1 : Y.length ≤ 1000) (l2 : R.length ≤ 1000) => refIn_any Al gs.length cl gs va vb Y R W (hg.below hb) hgl hgb h1 h2 l1 l2)
  obtain ⟨A, c, rfl, -, -⟩ := hX
  obtain ⟨A', c', rfl, -, -⟩ := hO
  clear lX lO
  go_enter Tryz.func13, Tryz.ntmps13
  go_upto_region 1 with fail
  have hal := (Below.refl w.heap.size w).alloc (Nat.le_refl _) (.cells #[.slice A X.length c, .slice A' O.length c'] 24)
  have HQ1 := Lib.hid (heap_box (w := w) (t := 24) (a := .slice A X.length c) (b := .slice A' O.length c') w.heap.size rfl)
  have HB1 := Lib.hid hal
  clear hal
  generalize w.alloc (.cells #[.slice A X.length c, .slice A' O.length c'] 24) = w1 at HB1 HQ1 ⊢
  obtain ⟨n0, hn0⟩ : ∃ n, n = w.heap.size := ⟨_, rfl⟩
  rw [← hn0] at HQ1 HB1 HV HLS HI ⊢
  have HN0 := Lib.hid hn0
  clear hn0
  have y0 := HQ1.out.cell 0
  have y1 := HQ1.out.cell 1
  have HV1 := Lib.hid (HV.out w1 HB1.out)
  rw [refValidB_eq] at HV1
  by_cases hv : Vd X O
  · have HVD := Lib.hid (show VdG (X, O) from hv)
    rw [(validB_iff X O).2 hv] at HV1
    clear hv
    by_cases hin : lstM (X, O) ∈ gs
    rotate_left
    · have HNC := Lib.hid (show ¬ ClG (X, O) gs from fun h => hin (clG_iff.1 h).2.1)
      go_wp2_with (first | (go_at_call 8; refine HV1.out.mono ?_; rintro e2 w2 ⟨rfl, hb2⟩; have HB2 := Lib.hid (HB1.out.trans (hb2.mono (Nat.le_of_lt HQ1.out.lt))); have HQ2 := Lib.hid (HQ1.out.below hb2 HQ1.out.lt); have y0 := HQ2.out.cell 0; have y1 := HQ2.out.cell 1) | (go_at_call 23; refine (HLS.out _ HB2.out HVD.out).mono ?_; rintro e3 w3 ⟨C0, p0, q0, C1, p1, q1, rfl, hZ1, hZ2, hb3⟩; have HB3 := Lib.hid (HB2.out.trans (hb3.mono (Nat.le_of_lt HQ2.out.lt))); have HSI := Lib.hid (Nat.lt_of_lt_of_le HQ2.out.lt hb3.size)) | (go_at_call 25; refine (HI.out _ HB3.out _ _ _ _ hZ1 hZ2 (by have := (lstM_vd HVD.out).most; omega) (by have := (lstM_vd HVD.out).most; have := (lstM_vd HVD.out).len; omega)).mono ?_; rw [decide_eq_false (show ¬ ((lstM (X, O)).1, (lstM (X, O)).2) ∈ gs from hin)]; rintro e4 w4 ⟨rfl, hb4⟩; have HB4 := Lib.hid (HB3.out.trans (hb4.mono (Nat.le_of_lt HSI.out)))))
      go_ret
      exact ⟨⟨false, rfl, by simp [HNC.out]⟩, by rw [← HN0.out]; exact HB4.out⟩
    have HIN := Lib.hid hin
    clear hin
    go_wp2_with (first | (go_at_call 8; refine HV1.out.mono ?_; rintro e2 w2 ⟨rfl, hb2⟩; have HB2 := Lib.hid (HB1.out.trans (hb2.mono (Nat.le_of_lt HQ1.out.lt))); have HQ2 := Lib.hid (HQ1.out.below hb2 HQ1.out.lt); have y0 := HQ2.out.cell 0; have y1 := HQ2.out.cell 1) | (go_at_call 23; refine (HLS.out _ HB2.out HVD.out).mono ?_; rintro e3 w3 ⟨C0, p0, q0, C1, p1, q1, rfl, hZ1, hZ2, hb3⟩; have HB3 := Lib.hid (HB2.out.trans (hb3.mono (Nat.le_of_lt HQ2.out.lt))); have HSI := Lib.hid (Nat.lt_of_lt_of_le HQ2.out.lt hb3.size)) | (go_at_call 25; refine (HI.out _ HB3.out _ _ _ _ hZ1 hZ2 (by have := (lstM_vd HVD.out).most; omega) (by have := (lstM_vd HVD.out).most; have := (lstM_vd HVD.out).len; omega)).mono ?_; rw [decide_eq_true (show ((lstM (X, O)).1, (lstM (X, O)).2) ∈ gs from HIN.out)]; rintro e4 w4 ⟨rfl, hb4⟩; have HB4 := Lib.hid (HB3.out.trans (hb4.mono (Nat.le_of_lt HSI.out))); have HS4 := Lib.hid (Nat.lt_of_lt_of_le HSI.out hb4.size); clear hZ1 hZ2 hb2 hb3 hb4 y0 y1 HB2 HB3 HQ2 HSI))
    clear y0 y1 HV1 HB1 HQ1 HV HLS
    go_loopw [5] (fun i wr => ∃ k : Nat, i = .int .i64 (k : Int) ∧ k ≤ gs.length ∧ Hid (Below n0 w wr) ∧ Hid (n0 < wr.heap.size) ∧ Hid (∀ h ∈ gs.take k, okG h)) (fun i _ => gs.length - (intOf i).toNat)
    case atStart => exact ⟨0, rfl, Nat.zero_le _, HB4, HS4, Lib.hid (fun h hh => by simp at hh)⟩
    case round =>
      clear HB4 HS4
      obtain ⟨k, rfl, hk, HB, HS, HO⟩ := hrel
      by_cases hlt : k < gs.length
      · obtain ⟨b, o, A0, m0, c0, A1, m1, c1, rfl, hbl, y0, y1, hq⟩ := hg.at_ hlt
        have hbw : Below w.heap.size w wr := by rw [← HN0.out]; exact HB.out
        have y0 := (hbw.cell (p := ⟨b, o + k * 2, none⟩) hbl).trans y0
        have y1 := (hbw.cell (p := ⟨b, o + k * 2 + 1, none⟩) hbl).trans y1
        have hm := hgb _ (List.getElem_mem hlt)
        have HAS := Lib.hid (all_step (P := okG) hlt)
        obtain ⟨H, hH⟩ : ∃ H : Gd, H = gs[k] := ⟨_, rfl⟩
        rw [← hH] at hm hq HAS
        have hq1 : Ints wr (.slice A0 m0 c0) H.1 := hq.1.below hbw
        have hq2 : Ints wr (.slice A1 m1 c1) H.2 := hq.2.below hbw
        have HHM := Lib.hid (show H ∈ gs by rw [hH]; exact List.getElem_mem hlt)
        have HVA0 := Lib.hid (fun W (hb : Below wr.heap.size wr W) => refValid_any (.slice A0 m0 c0) (.slice A1 m1 c1) H.1 H.2 W (hq1.below hb) (hq2.below hb) hm.1 hm.2)
        have HLE0 := Lib.hid (fun (hv : Vd H.1 H.2) W (hb : Below wr.heap.size wr W) => refLeast_any (.slice A0 m0 c0) (.slice A1 m1 c1) H.1 H.2 W (hq1.below hb) (hq2.below hb) hv)
        have HSA0 := Lib.hid (fun (hv : VdG H) (C0 C1 : Option Addr) (p0 q0 p1 q1 : Nat) W (hb : Below wr.heap.size wr W) (i1 : Ints W (.slice C0 p0 q0) (lstM H).1) (i2 : Ints W (.slice C1 p1 q1) (lstM H).2) => refSame_any (.slice C0 p0 q0) (.slice C1 p1 q1) (.slice A0 m0 c0) (.slice A1 m1 c1) (lstM H).1 (lstM H).2 H.1 H.2 W i1 i2 (hq1.below hb) (hq2.below hb) (by have := (lstM_vd hv).most; omega) (by have := (lstM_vd hv).most; have := (lstM_vd hv).len; omega) hm.1 hm.2)
        clear hq hq1 hq2 hm hbl hH hbw
        have z1 : (k : Int) < (gs.length : Int) := by omega
        by_cases hv : VdG H
        · have HVH := Lib.hid hv
          have HLE := Lib.hid (HLE0.out hv)
          have HVA := Lib.hid (fun W (hb : Below wr.heap.size wr W) => (HVA0.out W hb).mono fun e w' (h : _ ∧ _) => show e = .returned (.bool true) ∧ Below W.heap.size W w' from ⟨by rw [h.1, refValidB_eq, (validB_iff _ _).2 HVH.out], h.2⟩)
          have hsa := HSA0.out hv
          obtain ⟨bb, hbb⟩ : ∃ b, b = decide (((lstM H).1, (lstM H).2) = (H.1, H.2)) := ⟨_, rfl⟩
          rw [← hbb] at hsa
          have HSA := Lib.hid hsa
          have HBB := Lib.hid hbb
          clear hv hsa hbb HVA0 HLE0 HSA0
          go_upto_region 6 with fail
          refine wp_region_phy (fun a b => Below a.heap.size a b) (fun h k => h.trans (k.mono h.size)) ((Below.refl _ _).drew) (by kernel_rfl) (by kernel_rfl) (by kernel_rfl) (by kernel_rfl) (phiT (fun i => ([some (.slice (some ⟨b, o, none⟩) gs.length cl), some (.int .i64 (k : Int)), some (.pointer (some ⟨b, o + k * 2, none⟩)), some (.agg #[.slice A0 m0 c0, .slice A1 m1 c1]), some (.bool true), some (.bool false), some (.bool false), some (.slice (some ⟨b, o, none⟩) gs.length cl), some (.int .i64 (k : Int)), some (.pointer (some ⟨b, o + k * 2, none⟩)), some (.agg #[.slice A0 m0 c0, .slice A1 m1 c1]), none, some (.slice (some ⟨b, o, none⟩) gs.length cl), some (.int .i64 (k : Int)), some (.pointer (some ⟨b, o + k * 2, none⟩)), some (.agg #[.slice A0 m0 c0, .slice A1 m1 c1]), some (.bool bb), some (.bool (!bb)), some (.bool (!bb))] : List (Option Value)).getD i none) (fun i v w => (if i = 11 then (fun v w => ∃ C0 p0 q0 C1 p1 q1, v = .agg #[.slice C0 p0 q0, .slice C1 p1 q1] ∧ Ints w (.slice C0 p0 q0) (lstM H).1 ∧ Ints w (.slice C1 p1 q1) (lstM H).2) v w else True))) (fun i v w w' h hb => ?_) ⟨?_, ?_, ?_, ?_, ?_, ?_, ?_, ?_, ?_, ?_, ?_, ?_, ?_, ?_, ?_, ?_, ?_, ?_, ?_, trivial⟩ ?_
          · unfold phiT at h ⊢
            split
            · next u hu => rw [hu] at h; exact h
            · next hu =>
              rw [hu] at h
              simp only at h ⊢
              by_cases q11 : i = 11
              · rw [if_pos q11] at h ⊢; exact by obtain ⟨C0, p0, q0, C1, p1, q1, h1, h2, h3⟩ := h; exact ⟨C0, p0, q0, C1, p1, q1, h1, h2.below hb, h3.below hb⟩
              · rw [if_neg q11] at h ⊢
                trivial
          · intro x w1 bA hT hdep hold hb
            refine .inl ⟨trivial, ?_⟩
            have e1 : bA.tmps[1]?.getD undef = .slice (some ⟨b, o, none⟩) gs.length cl := hb 1
            refine phx_run (.slice (some ⟨b, o, none⟩) gs.length cl) ?_ (Below.refl _ _) rfl
            clear hb hdep hold
            go_simp
          · intro x w1 bA hT hdep hold hb
            refine .inl ⟨trivial, ?_⟩
            have e5 : bA.tmps[5]?.getD undef = .int .i64 (k : Int) := hb 5
            refine phx_run (.int .i64 (k : Int)) ?_ (Below.refl _ _) rfl
            clear hb hdep hold
            go_simp
          · intro x w1 bA hT hdep hold hb
            refine .inl ⟨trivial, ?_⟩
            have e25 : bA.tmps[25]?.getD undef = .slice (some ⟨b, o, none⟩) gs.length cl := (hb 25).trans (hdep 0 (by decide))
            have e26 : bA.tmps[26]?.getD undef = .int .i64 (k : Int) := (hb 26).trans (hdep 1 (by decide))
            refine phx_run (.pointer (some ⟨b, o + k * 2, none⟩)) ?_ (Below.refl _ _) rfl
            clear hb hdep hold
            go_simp
          · intro x w1 bA hT hdep hold hb
            refine .inl ⟨trivial, ?_⟩
            have e27 : bA.tmps[27]?.getD undef = .pointer (some ⟨b, o + k * 2, none⟩) := (hb 27).trans (hdep 2 (by decide))
            have cc0 := (hT.cell (p := ⟨b, o + k * 2, none⟩) (block_lt_of_cell y0)).trans y0
            have cc1 := (hT.cell (p := ⟨b, o + k * 2 + 1, none⟩) (block_lt_of_cell y1)).trans y1
            refine phx_run (.agg #[.slice A0 m0 c0, .slice A1 m1 c1]) ?_ (Below.refl _ _) rfl
            clear hb hdep hold
            go_simp
          · intro x w1 bA hT hdep hold hb
            refine .inl ⟨trivial, ?_⟩
            have e28 : bA.tmps[28]?.getD undef = .agg #[.slice A0 m0 c0, .slice A1 m1 c1] := (hb 28).trans (hdep 3 (by decide))
            refine phx_call ?_ ((HVA.out w1 hT).mono fun e w' h => ⟨_, h.1, h.2, rfl⟩)
            clear hb hdep hold
            go_simp
          · intro x w1 bA hT hdep hold hb
            refine .inl ⟨trivial, ?_⟩
            have e29 : bA.tmps[29]?.getD undef = .bool true := (hb 29).trans (hdep 4 (by decide))
            refine phx_run (.bool false) ?_ (Below.refl _ _) rfl
            clear hb hdep hold
            go_simp
          · intro x w1 bA hT hdep hold hb
            refine .inl ⟨trivial, ?_⟩
            have e30 : bA.tmps[30]?.getD undef = .bool false := (hb 30).trans (hdep 5 (by decide))
            refine phx_run (.bool false) ?_ (Below.refl _ _) rfl
            clear hb hdep hold
            go_simp
          · intro x w1 bA hT hdep hold hb
            refine .inl ⟨⟨31, rfl, (hb 31).trans (hdep 6 (by decide))⟩, ?_⟩
            have e1 : bA.tmps[1]?.getD undef = .slice (some ⟨b, o, none⟩) gs.length cl := hb 1
            refine phx_run (.slice (some ⟨b, o, none⟩) gs.length cl) ?_ (Below.refl _ _) rfl
            clear hb hdep hold
            go_simp
          · intro x w1 bA hT hdep hold hb
            refine .inl ⟨⟨31, rfl, (hb 31).trans (hdep 6 (by decide))⟩, ?_⟩
            have e5 : bA.tmps[5]?.getD undef = .int .i64 (k : Int) := hb 5
            refine phx_run (.int .i64 (k : Int)) ?_ (Below.refl _ _) rfl
            clear hb hdep hold
            go_simp
          · intro x w1 bA hT hdep hold hb
            refine .inl ⟨⟨31, rfl, (hb 31).trans (hdep 6 (by decide))⟩, ?_⟩
            have e32 : bA.tmps[32]?.getD undef = .slice (some ⟨b, o, none⟩) gs.length cl := (hb 32).trans (hdep 7 (by decide))
            have e33 : bA.tmps[33]?.getD undef = .int .i64 (k : Int) := (hb 33).trans (hdep 8 (by decide))
            refine phx_run (.pointer (some ⟨b, o + k * 2, none⟩)) ?_ (Below.refl _ _) rfl
            clear hb hdep hold
            go_simp
          · intro x w1 bA hT hdep hold hb
            refine .inl ⟨⟨31, rfl, (hb 31).trans (hdep 6 (by decide))⟩, ?_⟩
            have e34 : bA.tmps[34]?.getD undef = .pointer (some ⟨b, o + k * 2, none⟩) := (hb 34).trans (hdep 9 (by decide))
            have cc0 := (hT.cell (p := ⟨b, o + k * 2, none⟩) (block_lt_of_cell y0)).trans y0
            have cc1 := (hT.cell (p := ⟨b, o + k * 2 + 1, none⟩) (block_lt_of_cell y1)).trans y1
            refine phx_run (.agg #[.slice A0 m0 c0, .slice A1 m1 c1]) ?_ (Below.refl _ _) rfl
            clear hb hdep hold
            go_simp
          · intro x w1 bA hT hdep hold hb
            refine .inl ⟨⟨31, rfl, (hb 31).trans (hdep 6 (by decide))⟩, ?_⟩
            have e35 : bA.tmps[35]?.getD undef = .agg #[.slice A0 m0 c0, .slice A1 m1 c1] := (hb 35).trans (hdep 10 (by decide))
            refine phx_call ?_ ((HLE.out w1 hT).mono fun e w' h => by obtain ⟨C0, p0, q0, C1, p1, q1, h1, h2, h3, h4⟩ := h; exact ⟨_, h1, h4, C0, p0, q0, C1, p1, q1, rfl, h2, h3⟩)
            clear hb hdep hold
            go_simp
          · intro x w1 bA hT hdep hold hb
            refine .inl ⟨⟨31, rfl, (hb 31).trans (hdep 6 (by decide))⟩, ?_⟩
            have e1 : bA.tmps[1]?.getD undef = .slice (some ⟨b, o, none⟩) gs.length cl := hb 1
            refine phx_run (.slice (some ⟨b, o, none⟩) gs.length cl) ?_ (Below.refl _ _) rfl
            clear hb hdep hold
            go_simp
          · intro x w1 bA hT hdep hold hb
            refine .inl ⟨⟨31, rfl, (hb 31).trans (hdep 6 (by decide))⟩, ?_⟩
            have e5 : bA.tmps[5]?.getD undef = .int .i64 (k : Int) := hb 5
            refine phx_run (.int .i64 (k : Int)) ?_ (Below.refl _ _) rfl
            clear hb hdep hold
            go_simp
          · intro x w1 bA hT hdep hold hb
            refine .inl ⟨⟨31, rfl, (hb 31).trans (hdep 6 (by decide))⟩, ?_⟩
            have e37 : bA.tmps[37]?.getD undef = .slice (some ⟨b, o, none⟩) gs.length cl := (hb 37).trans (hdep 12 (by decide))
            have e38 : bA.tmps[38]?.getD undef = .int .i64 (k : Int) := (hb 38).trans (hdep 13 (by decide))
            refine phx_run (.pointer (some ⟨b, o + k * 2, none⟩)) ?_ (Below.refl _ _) rfl
            clear hb hdep hold
            go_simp
          · intro x w1 bA hT hdep hold hb
            refine .inl ⟨⟨31, rfl, (hb 31).trans (hdep 6 (by decide))⟩, ?_⟩
            have e39 : bA.tmps[39]?.getD undef = .pointer (some ⟨b, o + k * 2, none⟩) := (hb 39).trans (hdep 14 (by decide))
            have cc0 := (hT.cell (p := ⟨b, o + k * 2, none⟩) (block_lt_of_cell y0)).trans y0
            have cc1 := (hT.cell (p := ⟨b, o + k * 2 + 1, none⟩) (block_lt_of_cell y1)).trans y1
            refine phx_run (.agg #[.slice A0 m0 c0, .slice A1 m1 c1]) ?_ (Below.refl _ _) rfl
            clear hb hdep hold
            go_simp
          · intro x w1 bA hT hdep hold hb
            refine .inl ⟨⟨31, rfl, (hb 31).trans (hdep 6 (by decide))⟩, ?_⟩
            have p36 := hdep 11 (by decide)
            have e36 : bA.tmps[36]?.getD undef = x 11 := hb 36
            generalize x 11 = x36 at *
            have P36 := Lib.hid (show (fun v w => ∃ C0 p0 q0 C1 p1 q1, v = .agg #[.slice C0 p0 q0, .slice C1 p1 q1] ∧ Ints w (.slice C0 p0 q0) (lstM H).1 ∧ Ints w (.slice C1 p1 q1) (lstM H).2) x36 w1 from p36)
            clear p36
            have e40 : bA.tmps[40]?.getD undef = .agg #[.slice A0 m0 c0, .slice A1 m1 c1] := (hb 40).trans (hdep 15 (by decide))
            obtain ⟨C0, p0, q0, C1, p1, q1, he36, h36, h36b⟩ := P36.out
            subst he36
            have HC36 := Lib.hid (And.intro h36 h36b)
            clear h36 h36b P36
            refine phx_call ?_ ((HSA.out C0 C1 p0 q0 p1 q1 w1 hT HC36.out.1 HC36.out.2).mono fun e w' h => ⟨_, h.1, h.2, rfl⟩)
            clear hb hdep hold
            go_simp
          · intro x w1 bA hT hdep hold hb
            refine .inl ⟨⟨31, rfl, (hb 31).trans (hdep 6 (by decide))⟩, ?_⟩
            have e41 : bA.tmps[41]?.getD undef = .bool bb := (hb 41).trans (hdep 16 (by decide))
            refine phx_run (.bool (!bb)) ?_ (Below.refl _ _) rfl
            clear hb hdep hold
            go_simp
          · intro x w1 bA hT hdep hold hb
            refine .inl ⟨trivial, ?_⟩
            have e31 : bA.tmps[31]?.getD undef = .bool false := (hb 31).trans (hdep 6 (by decide))
            have e42 : bA.tmps[42]?.getD undef = .bool (!bb) := (hb 42).trans (hdep 17 (by decide))
            refine phx_run (.bool (!bb)) ?_ (Below.refl _ _) rfl
            clear hb hdep hold
            go_simp
          intro x w1 hT hall
          have x0e : x 0 = .slice (some ⟨b, o, none⟩) gs.length cl := hall 0 (by decide)
          have x1e : x 1 = .int .i64 (k : Int) := hall 1 (by decide)
          have x2e : x 2 = .pointer (some ⟨b, o + k * 2, none⟩) := hall 2 (by decide)
          have x3e : x 3 = .agg #[.slice A0 m0 c0, .slice A1 m1 c1] := hall 3 (by decide)
          have x4e : x 4 = .bool true := hall 4 (by decide)
          have x5e : x 5 = .bool false := hall 5 (by decide)
          have x6e : x 6 = .bool false := hall 6 (by decide)
          have x7e : x 7 = .slice (some ⟨b, o, none⟩) gs.length cl := hall 7 (by decide)
          have x8e : x 8 = .int .i64 (k : Int) := hall 8 (by decide)
          have x9e : x 9 = .pointer (some ⟨b, o + k * 2, none⟩) := hall 9 (by decide)
          have x10e : x 10 = .agg #[.slice A0 m0 c0, .slice A1 m1 c1] := hall 10 (by decide)
          have p36 := hall 11 (by decide)
          have x12e : x 12 = .slice (some ⟨b, o, none⟩) gs.length cl := hall 12 (by decide)
          have x13e : x 13 = .int .i64 (k : Int) := hall 13 (by decide)
          have x14e : x 14 = .pointer (some ⟨b, o + k * 2, none⟩) := hall 14 (by decide)
          have x15e : x 15 = .agg #[.slice A0 m0 c0, .slice A1 m1 c1] := hall 15 (by decide)
          have x16e : x 16 = .bool bb := hall 16 (by decide)
          have x17e : x 17 = .bool (!bb) := hall 17 (by decide)
          have x18e : x 18 = .bool (!bb) := hall 18 (by decide)
          simp only [putAll, dstOf, Act.put, List.map_cons, List.map_nil, List.setIfInBounds_toArray, List.set_cons_succ, List.set_cons_zero, Nat.reduceAdd, x0e, x1e, x2e, x3e, x4e, x5e, x6e, x7e, x8e, x9e, x10e, x12e, x13e, x14e, x15e, x16e, x17e, x18e]
          clear x0e x1e x2e x3e x4e x5e x6e x7e x8e x9e x10e x12e x13e x14e x15e x16e x17e x18e hall
          have HB5 := Lib.hid (HB.out.trans (hT.mono (Nat.le_of_lt HS.out)))
          have HS5 := Lib.hid (Nat.lt_of_lt_of_le HS.out hT.size)
          clear hT HB HS HVA HLE HSA y0 y1 p36
          cases bb with
          | true =>
            have HO2 := Lib.hid (show ∀ h ∈ gs.take (k + 1), okG h from HAS.out.2 ⟨HO.out, HVH.out, of_decide_eq_true HBB.out.symm⟩)
            clear HO HAS HBB HVH
            go_wp2_with fail
            go_roundw
            case rel => exact ⟨k + 1, by go_num, by omega, HB5, HS5, HO2⟩
            case measure => simp [intOf]; omega
          | false =>
            have HNC := Lib.hid (show ¬ ClG (X, O) gs from fun h => (of_decide_eq_false HBB.out.symm) ((clG_iff.1 h).2.2.1 H HHM.out).2)
            clear HO HAS HBB HVH
            go_wp2_with fail
            go_ret
            exact ⟨⟨false, rfl, by simp [HNC.out]⟩, by rw [← HN0.out]; exact HB5.out⟩
        · have HNC := Lib.hid (show ¬ ClG (X, O) gs from fun h => hv ((clG_iff.1 h).2.2.1 H HHM.out).1)
          have HVA := Lib.hid (fun W (hb : Below wr.heap.size wr W) => (HVA0.out W hb).mono fun e w' (h : _ ∧ _) => show e = .returned (.bool false) ∧ Below W.heap.size W w' from ⟨by
            rw [h.1, refValidB_eq]
            cases h2 : validB H.1 H.2 with
            | false => rfl
            | true => exact absurd ((validB_iff _ _).1 h2) hv, h.2⟩)
          clear hv HVA0 HLE0 HSA0 HAS
          go_upto_region 6 with fail
          refine wp_region_phy (fun a b => Below a.heap.size a b) (fun h k => h.trans (k.mono h.size)) ((Below.refl _ _).drew) (by kernel_rfl) (by kernel_rfl) (by kernel_rfl) (by kernel_rfl) (phiT (fun i => ([some (.slice (some ⟨b, o, none⟩) gs.length cl), some (.int .i64 (k : Int)), some (.pointer (some ⟨b, o + k * 2, none⟩)), some (.agg #[.slice A0 m0 c0, .slice A1 m1 c1]), some (.bool false), some (.bool true), some (.bool true), some (undef), some (undef), some (undef), some (undef), some (undef), some (undef), some (undef), some (undef), some (undef), some (undef), some (undef), some (.bool true)] : List (Option Value)).getD i none) (fun i v w => True)) (fun i v w w' h hb => ?_) ⟨?_, ?_, ?_, ?_, ?_, ?_, ?_, ?_, ?_, ?_, ?_, ?_, ?_, ?_, ?_, ?_, ?_, ?_, ?_, trivial⟩ ?_
          · unfold phiT at h ⊢
            split
            · next u hu => rw [hu] at h; exact h
            · next hu =>
              rw [hu] at h
              exact True.intro
          · intro x w1 bA hT hdep hold hb
            refine .inl ⟨trivial, ?_⟩
            have e1 : bA.tmps[1]?.getD undef = .slice (some ⟨b, o, none⟩) gs.length cl := hb 1
            refine phx_run (.slice (some ⟨b, o, none⟩) gs.length cl) ?_ (Below.refl _ _) rfl
            clear hb hdep hold
            go_simp
          · intro x w1 bA hT hdep hold hb
            refine .inl ⟨trivial, ?_⟩
            have e5 : bA.tmps[5]?.getD undef = .int .i64 (k : Int) := hb 5
            refine phx_run (.int .i64 (k : Int)) ?_ (Below.refl _ _) rfl
            clear hb hdep hold
            go_simp
          · intro x w1 bA hT hdep hold hb
            refine .inl ⟨trivial, ?_⟩
            have e25 : bA.tmps[25]?.getD undef = .slice (some ⟨b, o, none⟩) gs.length cl := (hb 25).trans (hdep 0 (by decide))
            have e26 : bA.tmps[26]?.getD undef = .int .i64 (k : Int) := (hb 26).trans (hdep 1 (by decide))
            refine phx_run (.pointer (some ⟨b, o + k * 2, none⟩)) ?_ (Below.refl _ _) rfl
            clear hb hdep hold
            go_simp
          · intro x w1 bA hT hdep hold hb
            refine .inl ⟨trivial, ?_⟩
            have e27 : bA.tmps[27]?.getD undef = .pointer (some ⟨b, o + k * 2, none⟩) := (hb 27).trans (hdep 2 (by decide))
            have cc0 := (hT.cell (p := ⟨b, o + k * 2, none⟩) (block_lt_of_cell y0)).trans y0
            have cc1 := (hT.cell (p := ⟨b, o + k * 2 + 1, none⟩) (block_lt_of_cell y1)).trans y1
            refine phx_run (.agg #[.slice A0 m0 c0, .slice A1 m1 c1]) ?_ (Below.refl _ _) rfl
            clear hb hdep hold
            go_simp
          · intro x w1 bA hT hdep hold hb
            refine .inl ⟨trivial, ?_⟩
            have e28 : bA.tmps[28]?.getD undef = .agg #[.slice A0 m0 c0, .slice A1 m1 c1] := (hb 28).trans (hdep 3 (by decide))
            refine phx_call ?_ ((HVA.out w1 hT).mono fun e w' h => ⟨_, h.1, h.2, rfl⟩)
            clear hb hdep hold
            go_simp
          · intro x w1 bA hT hdep hold hb
            refine .inl ⟨trivial, ?_⟩
            have e29 : bA.tmps[29]?.getD undef = .bool false := (hb 29).trans (hdep 4 (by decide))
            refine phx_run (.bool true) ?_ (Below.refl _ _) rfl
            clear hb hdep hold
            go_simp
          · intro x w1 bA hT hdep hold hb
            refine .inl ⟨trivial, ?_⟩
            have e30 : bA.tmps[30]?.getD undef = .bool true := (hb 30).trans (hdep 5 (by decide))
            refine phx_run (.bool true) ?_ (Below.refl _ _) rfl
            clear hb hdep hold
            go_simp
          · intro x w1 bA hT hdep hold hb
            exact .inr ⟨⟨31, rfl, .inl ((hb 31).trans (hdep 6 (by decide)))⟩, rfl⟩
          · intro x w1 bA hT hdep hold hb
            exact .inr ⟨⟨31, rfl, .inl ((hb 31).trans (hdep 6 (by decide)))⟩, rfl⟩
          · intro x w1 bA hT hdep hold hb
            exact .inr ⟨⟨31, rfl, .inl ((hb 31).trans (hdep 6 (by decide)))⟩, rfl⟩
          · intro x w1 bA hT hdep hold hb
            exact .inr ⟨⟨31, rfl, .inl ((hb 31).trans (hdep 6 (by decide)))⟩, rfl⟩
          · intro x w1 bA hT hdep hold hb
            exact .inr ⟨⟨31, rfl, .inl ((hb 31).trans (hdep 6 (by decide)))⟩, rfl⟩
          · intro x w1 bA hT hdep hold hb
            exact .inr ⟨⟨31, rfl, .inl ((hb 31).trans (hdep 6 (by decide)))⟩, rfl⟩
          · intro x w1 bA hT hdep hold hb
            exact .inr ⟨⟨31, rfl, .inl ((hb 31).trans (hdep 6 (by decide)))⟩, rfl⟩
          · intro x w1 bA hT hdep hold hb
            exact .inr ⟨⟨31, rfl, .inl ((hb 31).trans (hdep 6 (by decide)))⟩, rfl⟩
          · intro x w1 bA hT hdep hold hb
            exact .inr ⟨⟨31, rfl, .inl ((hb 31).trans (hdep 6 (by decide)))⟩, rfl⟩
          · intro x w1 bA hT hdep hold hb
            exact .inr ⟨⟨31, rfl, .inl ((hb 31).trans (hdep 6 (by decide)))⟩, rfl⟩
          · intro x w1 bA hT hdep hold hb
            exact .inr ⟨⟨31, rfl, .inl ((hb 31).trans (hdep 6 (by decide)))⟩, rfl⟩
          · intro x w1 bA hT hdep hold hb
            refine .inl ⟨trivial, ?_⟩
            have e31 : bA.tmps[31]?.getD undef = .bool true := (hb 31).trans (hdep 6 (by decide))
            refine phx_run (.bool true) ?_ (Below.refl _ _) rfl
            clear hb hdep hold
            go_simp
          intro x w1 hT hall
          have x0e : x 0 = .slice (some ⟨b, o, none⟩) gs.length cl := hall 0 (by decide)
          have x1e : x 1 = .int .i64 (k : Int) := hall 1 (by decide)
          have x2e : x 2 = .pointer (some ⟨b, o + k * 2, none⟩) := hall 2 (by decide)
          have x3e : x 3 = .agg #[.slice A0 m0 c0, .slice A1 m1 c1] := hall 3 (by decide)
          have x4e : x 4 = .bool false := hall 4 (by decide)
          have x5e : x 5 = .bool true := hall 5 (by decide)
          have x6e : x 6 = .bool true := hall 6 (by decide)
          have x7e : x 7 = undef := hall 7 (by decide)
          have x8e : x 8 = undef := hall 8 (by decide)
          have x9e : x 9 = undef := hall 9 (by decide)
          have x10e : x 10 = undef := hall 10 (by decide)
          have x11e : x 11 = undef := hall 11 (by decide)
          have x12e : x 12 = undef := hall 12 (by decide)
          have x13e : x 13 = undef := hall 13 (by decide)
          have x14e : x 14 = undef := hall 14 (by decide)
          have x15e : x 15 = undef := hall 15 (by decide)
          have x16e : x 16 = undef := hall 16 (by decide)
          have x17e : x 17 = undef := hall 17 (by decide)
          have x18e : x 18 = .bool true := hall 18 (by decide)
          simp only [putAll, dstOf, Act.put, List.map_cons, List.map_nil, List.setIfInBounds_toArray, List.set_cons_succ, List.set_cons_zero, Nat.reduceAdd, x0e, x1e, x2e, x3e, x4e, x5e, x6e, x7e, x8e, x9e, x10e, x11e, x12e, x13e, x14e, x15e, x16e, x17e, x18e]
          clear x0e x1e x2e x3e x4e x5e x6e x7e x8e x9e x10e x11e x12e x13e x14e x15e x16e x17e x18e hall
          have HB5 := Lib.hid (HB.out.trans (hT.mono (Nat.le_of_lt HS.out)))
          clear hT HB HS HVA y0 y1
          go_wp2_with fail
          go_ret
          exact ⟨⟨false, rfl, by simp [HNC.out]⟩, by rw [← HN0.out]; exact HB5.out⟩
      · obtain rfl : k = gs.length := by omega
        have HOK := Lib.hid (show ∀ h ∈ gs, okG h by have := HO.out; rwa [List.take_length] at this)
        clear HO
        go_wp2_with fail
        obtain ⟨wo1, hwo1⟩ : ∃ W, W = wr := ⟨_, rfl⟩
        clear hwo1
        go_loopw [6] (fun i wr => ∃ k : Nat, i = .int .i64 (k : Int) ∧ k ≤ gs.length ∧ Hid (Below n0 w wr) ∧ Hid (n0 < wr.heap.size) ∧ Hid (∀ h ∈ gs.take k, ∀ z, Fol h z → z ∈ gs)) (fun i _ => gs.length - (intOf i).toNat)
        case atStart => exact ⟨0, rfl, Nat.zero_le _, HB, HS, Lib.hid (fun h hh => by simp at hh)⟩
        case round =>
          clear HB HS
          obtain ⟨k, rfl, hk, HB, HS, HO⟩ := hrel
          by_cases hlt : k < gs.length
          · obtain ⟨b, o, A0, m0, c0, A1, m1, c1, rfl, hbl, y0, y1, hq⟩ := hg.at_ hlt
            have hbw : Below w.heap.size w wr := by rw [← HN0.out]; exact HB.out
            have y0 := (hbw.cell (p := ⟨b, o + k * 2, none⟩) hbl).trans y0
            have y1 := (hbw.cell (p := ⟨b, o + k * 2 + 1, none⟩) hbl).trans y1
            have HAS := Lib.hid (all_step (P := fun h => ∀ z, Fol h z → z ∈ gs) hlt)
            obtain ⟨H, hH⟩ : ∃ H : Gd, H = gs[k] := ⟨_, rfl⟩
            rw [← hH] at hq HAS
            have HHM := Lib.hid (show H ∈ gs by rw [hH]; exact List.getElem_mem hlt)
            have HVH := Lib.hid (HOK.out H HHM.out).1
            have HFL := Lib.hid (refFollow_any (.slice A0 m0 c0) (.slice A1 m1 c1) H.1 H.2 wr (hq.1.below hbw) (hq.2.below hbw) HVH.out)
            clear hq hbl hH hbw
            have z1 : (k : Int) < (gs.length : Int) := by omega
            go_wp2_with (go_at_call 24; refine HFL.out.mono ?_; rintro e5 w5 ⟨F0, nf, cf, fs, rfl, hfs, hif, hb5, _⟩; obtain rfl := hfs.len; have HFS := Lib.hid hfs; have HIF := Lib.hid hif; have HB5 := Lib.hid (HB.out.trans (hb5.mono (Nat.le_of_lt HS.out))); have HS5 := Lib.hid (Nat.lt_of_lt_of_le HS.out hb5.size); have HGG := Lib.hid hb5; clear hfs hif hb5 y0 y1)
            obtain ⟨wo2, hwo2⟩ : ∃ W, W = w5 := ⟨_, rfl⟩
            have HW2 := Lib.hid hwo2
            clear hwo2
            go_loopw [8] (fun i wr => ∃ j : Nat, i = .int .i64 (j : Int) ∧ j ≤ fs.length ∧ Hid (Below n0 w wr) ∧ Hid (n0 < wr.heap.size) ∧ Hid (Below w5.heap.size w5 wr) ∧ Hid (∀ z ∈ fs.take j, z ∈ gs)) (fun i _ => fs.length - (intOf i).toNat)
            case atStart => exact ⟨0, rfl, Nat.zero_le _, HB5, HS5, Lib.hid (Below.refl _ _), Lib.hid (fun h hh => by simp at hh)⟩
            case round =>
              clear HB5 HS5
              obtain ⟨j, rfl, hj, HB5, HS5, HB6, HO2⟩ := hrel
              by_cases hlt2 : j < fs.length
              · obtain ⟨b2, o2, D0, m2, d0, D1, m3, d1, rfl, hbl2, u0, u1, hq2⟩ := HFS.out.at_ hlt2
                have u0 := (HB6.out.cell (p := ⟨b2, o2 + j * 2, none⟩) hbl2).trans u0
                have u1 := (HB6.out.cell (p := ⟨b2, o2 + j * 2 + 1, none⟩) hbl2).trans u1
                have HAS2 := Lib.hid (all_step (P := fun z => z ∈ gs) hlt2)
                have HFZ := Lib.hid ((HIF.out.2.2 _).1 (List.getElem_mem hlt2))
                obtain ⟨Z, hZ⟩ : ∃ Z : Gd, Z = fs[j] := ⟨_, rfl⟩
                rw [← hZ] at hq2 HAS2 HFZ
                have hzb : Z.1.length ≤ 1000 ∧ Z.2.length ≤ 1000 := by
                  obtain ⟨y, hy, e⟩ := fol_vd HFZ.out HVH.out
                  have h1 := (lstM_vd hy).most
                  have h2 := (lstM_vd hy).len
                  rw [e] at h1 h2
                  omega
                have HII := Lib.hid (HI.out _ HB5.out _ _ _ _ (hq2.1.below HB6.out) (hq2.2.below HB6.out) hzb.1 hzb.2)
                clear hq2 hbl2 hZ hzb
                have z2 : (j : Int) < (fs.length : Int) := by omega
                have z3 := HIF.out.2.1
                by_cases hin : Z ∈ gs
                · rw [decide_eq_true (show (Z.1, Z.2) ∈ gs from hin)] at HII
                  have HO3 := Lib.hid (HAS2.out.2 ⟨HO2.out, hin⟩)
                  clear hin HO2 HAS2
                  go_wp2_with (go_at_call 25; refine HII.out.mono ?_; rintro e7 w7 ⟨rfl, hb7⟩; have HB7 := Lib.hid (HB5.out.trans (hb7.mono (Nat.le_of_lt HS5.out))); have HS7 := Lib.hid (Nat.lt_of_lt_of_le HS5.out hb7.size); have HB8 := Lib.hid (HB6.out.trans (hb7.mono HB6.out.size)); clear hb7 u0 u1)
                  go_roundw
                  case rel => exact ⟨j + 1, by go_num, by omega, HB7, HS7, HB8, HO3⟩
                  case measure => simp [intOf]; omega
                · rw [decide_eq_false (show ¬ (Z.1, Z.2) ∈ gs from hin)] at HII
                  have HNC := Lib.hid (show ¬ ClG (X, O) gs from fun h => hin ((clG_iff.1 h).2.2.2 H HHM.out Z HFZ.out))
                  clear hin HO2 HAS2
                  go_wp2_with (go_at_call 25; refine HII.out.mono ?_; rintro e7 w7 ⟨rfl, hb7⟩; have HB7 := Lib.hid (HB5.out.trans (hb7.mono (Nat.le_of_lt HS5.out))); clear hb7 u0 u1)
                  go_ret
                  exact ⟨⟨false, rfl, by simp [HNC.out]⟩, by rw [← HN0.out]; exact HB7.out⟩
              · obtain rfl : j = fs.length := by omega
                have HO3 := Lib.hid (HAS.out.2 ⟨HO.out, fun z hz => by have := HO2.out; rw [List.take_length] at this; exact this z ((HIF.out.2.2 z).2 hz)⟩)
                clear HO2 HAS
                go_wp2_with fail
                go_roundw
                case rel => exact ⟨k + 1, by go_num, by omega, HB5, HS5, HO3⟩
                case measure => simp [intOf]; omega
          · obtain rfl : k = gs.length := by omega
            have HYC := Lib.hid (show ClG (X, O) gs from clG_iff.2 ⟨HVD.out, HIN.out, HOK.out, by have := HO.out; rwa [List.take_length] at this⟩)
            clear HO
            go_wp2_with fail
            go_ret
            exact ⟨⟨true, rfl, by simp [HYC.out]⟩, by rw [← HN0.out]; exact HB.out⟩
  · have HVD := Lib.hid (show ¬ ClG (X, O) gs from fun h => hv h.2.1)
    rw [show validB X O = false from by
      cases h : validB X O with
      | false => rfl
      | true => exact absurd ((validB_iff X O).1 h) hv] at HV1
    clear hv
    go_wp2_with (go_at_call 8; refine HV1.out.mono ?_; rintro e2 w2 ⟨rfl, hb2⟩; have HB2 := Lib.hid (HB1.out.trans (hb2.mono (Nat.le_of_lt HQ1.out.lt))))
    go_ret
    exact ⟨⟨false, rfl, by simp [HVD.out]⟩, by rw [← HN0.out]; exact HB2.out⟩
end Go.Proofs.YteliflcbegcdlaaGreatDoor

namespace Go.Proofs.YteliflcbegcdlaaGreatDoor
open Go.RowKit Go.Shelf
set_option linter.unusedVariables false
theorem Run.nd {most : Int} {short : Bool} {s : St} {r : Res} (h : Run most short s r) : StP s → ∀ K, r = .done K → (K.map En.key).Nodup := by
  induction h with
  | done h => intro hs K e; injection e with e; subst e; exact hs.nd
  | found h hsh h2 => intro hs K e; cases e
  | fuel h hsh ha => intro hs K e; cases e
  | @step s s' g W r h hsh ha hr ih =>
    intro hs K e
    obtain ⟨hs1, hvg⟩ := hs.next h
    exact ih (addAll_stp _ hs1 (fun p hp => nbrs_vd hvg (show (p.1, p.2) ∈ nbrs g from hp)) ha) K e
theorem Exq.nd {most : Int} {short : Bool} {g : Gd} {r : Res} (hv : VdG g) (h : Exq most short g r) : ∀ K, r = .done K → (K.map En.key).Nodup := by
  cases h with
  | none h => intro K e; cases e
  | some h hr => exact hr.nd (StP.start.add hv h)
theorem alg_in {g0 : Gd} {K : List En} {A S : List Gd} (h : Alg g0 K A) (h0 : lstM g0 ∈ S) (hcl : ∀ c ∈ S, ∀ z, Fol c z → z ∈ S) : ∀ (n i : Nat) (e : En) (a : Gd), i < n → K[i]? = some e → A[i]? = some a → e.key ∈ S
  | 0, i, e, a, hi, _, _ => by omega
  | n + 1, i, e, a, hi, hK, hA => by
    obtain ⟨hv, hk, hf⟩ := h.2 i e a hK hA
    rcases hf with ⟨_, _, rfl⟩ | ⟨j, b, e', hj, k1, k2, k3, k4⟩
    · rw [← hk]; exact h0
    · have hb := h.2 j e' b k1 k2
      have h1 := alg_in h h0 hcl n j e' b (by omega) k1 k2
      rw [← hk]
      exact hcl _ h1 _ (by rw [← hb.2.1]; exact (Fol.tl hb.1 (Tl.least hb.1)).1 (nbrs_fol hb.1 k4))
theorem less_no {g : Gd} {K : List En} {gs : List Gd} (hv : VdG g) (hd : Dn g false K) (hp : gs.Perm (K.map En.key)) (hn : (K.map En.key).Nodup) {k : Nat} (hk : k < gs.length) : ¬ ClG g (gs.take k ++ gs.drop (k + 1)) := by
  intro hc
  obtain ⟨_, h1, _, h2⟩ := clG_iff.1 hc
  obtain ⟨A, hA, _, _⟩ := hd
  have hgn : gs.Nodup := (hp.nodup_iff).2 hn
  have hm : gs[k] ∈ K.map En.key := hp.mem_iff.1 (List.getElem_mem hk)
  obtain ⟨e, he, hek⟩ := List.mem_map.1 hm
  obtain ⟨i, hi⟩ := List.getElem?_of_mem he
  have hlt : i < A.length := by rw [hA.1]; exact (List.getElem?_eq_some_iff.1 hi).1
  have h3 := alg_in hA h1 h2 (i + 1) i e _ (by omega) hi (List.getElem?_eq_getElem hlt)
  rw [hek] at h3
  have e1 : gs = gs.take k ++ gs[k] :: gs.drop (k + 1) := by rw [← List.drop_eq_getElem_cons hk, List.take_append_drop]
  generalize gs[k] = z at e1 h3
  rw [e1, List.nodup_append] at hgn
  obtain ⟨_, n2, n3⟩ := hgn
  rw [List.nodup_cons] at n2
  rcases List.mem_append.1 h3 with h3 | h3
  · exact n3 z h3 z (by simp) rfl
  · exact n2.1 h3
/-! ### memory -/
theorem eG_len (x : GV) : (eG x).length = 2 := rfl
theorem al_of {w : World} : ∀ {ps : List GV} {gs : List Gd}, ps.length = gs.length → (∀ (i : Nat) p g, ps[i]? = some p → gs[i]? = some g → GvI w p g) → Al w ps gs
  | [], [], _, _ => trivial
  | p :: ps, g :: gs, hl, h => ⟨h 0 p g rfl rfl, al_of (by simpa using hl) fun i q x h1 h2 => h (i + 1) q x (by simpa using h1) (by simpa using h2)⟩
  | [], g :: gs, hl, _ => by simp at hl
  | p :: ps, [], hl, _ => by simp at hl
theorem gds_sl {w : World} {v : Value} {gs : List Gd} (h : Gds w v gs) : ∃ cs, SlA eG w v cs ∧ Al w cs gs := by
  obtain ⟨A, c, rfl, hc, hx⟩ := h
  have hf : ∃ f : Nat → GV, ∀ k (hk : k < gs.length), ∃ b o, A = some ⟨b, o, none⟩ ∧ w.cell? ⟨b, o + k * 2, none⟩ = some (sv (f k).1) ∧ w.cell? ⟨b, o + k * 2 + 1, none⟩ = some (sv (f k).2) ∧ GvI w (f k) gs[k] := by
    have each : ∀ k (hk : k < gs.length), ∃ q : GV, ∃ b o, A = some ⟨b, o, none⟩ ∧ w.cell? ⟨b, o + k * 2, none⟩ = some (sv q.1) ∧ w.cell? ⟨b, o + k * 2 + 1, none⟩ = some (sv q.2) ∧ GvI w q gs[k] := fun k hk => by
      obtain ⟨b, o, q, e1, h1, h2, h3⟩ := hx k _ (List.getElem?_eq_getElem hk)
      exact ⟨q, b, o, e1, h1, h2, h3⟩
    refine ⟨fun k => if h : k < gs.length then (each k h).choose else ((none, 0, 0), (none, 0, 0)), fun k hk => ?_⟩
    simp only [dif_pos hk]
    exact (each k hk).choose_spec
  obtain ⟨f, hf⟩ := hf
  have hl : ((List.range gs.length).map f).length = gs.length := by simp
  refine ⟨(List.range gs.length).map f, ⟨A, c, by rw [hl], by rw [hl]; exact hc, fun j q hq => ?_⟩, al_of hl fun i p g h1 h2 => ?_⟩
  · have hj : j < gs.length * 2 := by
      have := (List.getElem?_eq_some_iff.1 hq).1
      rw [flat_len eG_len, hl] at this; exact this
    have hm : j % 2 < 2 := Nat.mod_lt _ (by omega)
    have hjj : j = j / 2 * 2 + j % 2 := by omega
    obtain ⟨b, o, e1, c1, c2, _⟩ := hf (j / 2) (by omega)
    refine ⟨b, o, e1, ?_⟩
    rw [hjj, flat_get eG_len _ (j / 2) (j % 2) (by rw [hl]; omega) hm] at hq
    have he : ((List.range gs.length).map f)[j / 2]'(by rw [hl]; omega) = f (j / 2) := by simp
    rw [he] at hq
    rw [hjj, ← Nat.add_assoc]
    rcases (show j % 2 = 0 ∨ j % 2 = 1 by omega) with e | e
    · rw [e] at hq ⊢
      simp only [eG, List.getElem?_cons_zero] at hq
      rw [Nat.add_zero, c1]; exact hq
    · rw [e] at hq ⊢
      simp only [eG, List.getElem?_cons_succ, List.getElem?_cons_zero] at hq
      rw [c2]; exact hq
  · have hk : i < gs.length := (List.getElem?_eq_some_iff.1 h2).1
    obtain ⟨_, _, _, _, _, h3⟩ := hf i hk
    rw [List.getElem?_map, List.getElem?_range hk] at h1
    injection h1 with h1
    rw [List.getElem?_eq_getElem hk] at h2
    injection h2 with h2
    rw [← h1, ← h2]; exact h3
theorem sl_gds {w : World} {v : Value} {cs : List GV} {gs : List Gd} (h : SlA eG w v cs) (ha : Al w cs gs) : Gds w v gs := by
  obtain ⟨A, c, rfl, hc, hx⟩ := h
  have hl := ha.len
  refine ⟨A, c, by rw [hl], by omega, fun k x hk => ?_⟩
  have hlt : k < cs.length := by rw [hl]; exact (List.getElem?_eq_some_iff.1 hk).1
  have g0 := flat_get eG_len cs k 0 hlt (by omega)
  have g1 := flat_get eG_len cs k 1 hlt (by omega)
  obtain ⟨b, o, e1, h1⟩ := hx (k * 2 + 0) (sv cs[k].1) (by rw [g0]; rfl)
  obtain ⟨b', o', e2, h2⟩ := hx (k * 2 + 1) (sv cs[k].2) (by rw [g1]; rfl)
  rw [e1] at e2
  injection e2 with e2
  injection e2 with e2 e3 _
  subst e2; subst e3
  exact ⟨b, o, cs[k], e1, h1, by rw [Nat.add_assoc]; exact h2, ha.get k _ _ (List.getElem?_eq_getElem hlt) hk⟩
theorem Al.take {w : World} : ∀ (k : Nat) {ps : List GV} {gs : List Gd}, Al w ps gs → Al w (ps.take k) (gs.take k)
  | 0, ps, gs, _ => by simp [Al]
  | k + 1, [], [], _ => by simp [Al]
  | k + 1, p :: ps, g :: gs, h => ⟨h.1, Al.take k h.2⟩
  | k + 1, [], g :: gs, h => h.elim
  | k + 1, p :: ps, [], h => h.elim
theorem Al.drop {w : World} : ∀ (k : Nat) {ps : List GV} {gs : List Gd}, Al w ps gs → Al w (ps.drop k) (gs.drop k)
  | 0, ps, gs, h => h
  | k + 1, [], [], _ => by simp [Al]
  | k + 1, p :: ps, g :: gs, h => Al.drop k h.2
  | k + 1, [], g :: gs, h => h.elim
  | k + 1, p :: ps, [], h => h.elim
theorem Al.append {w : World} : ∀ {ps : List GV} {gs : List Gd} {qs : List GV} {hs : List Gd}, Al w ps gs → Al w qs hs → Al w (ps ++ qs) (gs ++ hs)
  | [], [], qs, hs, _, h => h
  | p :: ps, g :: gs, qs, hs, h, h' => ⟨h.1, Al.append h.2 h'⟩
  | [], g :: gs, _, _, h, _ => h.elim
  | p :: ps, [], _, _, h, _ => h.elim
theorem Al.below {w w' : World} {ps : List GV} {gs : List Gd} (h : Al w ps gs) (hb : Below w.heap.size w w') : Al w' ps gs := h.imp fun p g k => ⟨Ints.below k.1 hb, Ints.below k.2 hb⟩
/-- an append of elements in a region that draws its order -/
theorem step_appA {α : Type} {e : TypeId} {sz : Nat} {enc : α → List Value} {base : Nat} {w : World} {v u : Value} {xs ys : List α} {P : Program} {ops : Array Oper} {o : Oper} {a : Act} {K : Act → World → Prop} {Q : Exit → Act → World → Prop} {F : Prop} (hgd : o.guard = none) (E : ElA P e sz enc) (s x : Operand) (t t2 : TypeId) (ho : o.op = .call { callee := .builtin .append, args := #[s, x], argTypes := #[t, t2] })
    (ht : P.underlying t = some (.slice e)) (ht2 : P.underlying t2 = some (.slice e))
    (hv : a.eval s = v) (h : OwnA e sz enc base w v xs) (hx : a.eval x = u) (hu : SlA enc w u ys) (hlen : xs.length + ys.length ≤ 1000000000) (hbase : base ≤ w.heap.size)
    (hK : ∀ v' w', OwnA e sz enc base w' v' (xs ++ ys) → Below base w w' → (∀ k, k < w.heap.size → v.ownBlock ≠ some k → w'.heap[k]? = w.heap[k]?) → K (a.put o.dst v') w') : if Region.wanted o (yielded ops a.tmps) = true then Oper.wp P o a w K Q else F := by
  have hw : Region.wanted o (yielded ops a.tmps) = true := by simp [Region.wanted, hgd]
  rw [if_pos hw]
  exact wp_appA E s x t t2 ho ht ht2 hv h hx hu hlen hbase fun v' w' h1 h2 h3 h4 => hK v' w' h1 h2 h3
end Go.Proofs.YteliflcbegcdlaaGreatDoor

namespace Go.Proofs.YteliflcbegcdlaaGreatDoor
open Go.RowKit Go.Shelf
set_option linter.unusedVariables false
theorem bool_of_iff {f : FuncId} {args : Array Value} {w : World} {B : Nat} {P : Prop} {bb : Bool} (hb : bb = true ↔ P) (h : Calls Tryz.prog f args w fun e w' => (∃ b, e = .returned (.bool b) ∧ (b = true ↔ P)) ∧ Below B w w') : Calls Tryz.prog f args w fun e w' => e = .returned (.bool bb) ∧ Below B w w' :=
  h.mono fun e w' h => by
    obtain ⟨⟨b, h1, h2⟩, h3⟩ := h
    refine ⟨?_, h3⟩
    have : b = bb := by
      cases b <;> cases bb <;> simp_all
    rw [h1, this]
set_option maxHeartbeats 8000000 in
set_option maxRecDepth 100000 in
theorem closed_law (v0 v1 vl : Value) (X O : List Int) (gs : List Gd) (drop : Int) (w : World) (hX : Ints w v0 X) (hO : Ints w v1 O) (hg : Gds w vl gs) (hd : 0 ≤ drop ∧ drop ≤ 65535) (hgl : gs.length ≤ 9223372036854775807) (ht : Tb w) :
    Calls Tryz.prog 4 #[.agg #[v0, v1], vl, .int .u16 drop] w fun e w' => e = .returned (.bool true) ∧ Below w.heap.size w w' := by
  have HT := Lib.hid (fun W (hb : Below w.heap.size w W) => ht.below hb)
  have HX := Lib.hid (fun W (hb : Below w.heap.size w W) => hX.below hb)
  have HO := Lib.hid (fun W (hb : Below w.heap.size w W) => hO.below hb)
  have HGS := Lib.hid (fun W (hb : Below w.heap.size w W) => hg.below hb)
  obtain ⟨A0, c0, rfl, -, -⟩ := hX
  obtain ⟨A1, c1, rfl, -, -⟩ := hO
  have hg0 := hg
  obtain ⟨Al, cl, rfl, -, -⟩ := hg
  have HD := Lib.hid hd
  obtain ⟨n, hn⟩ : ∃ n, n = X.length := ⟨_, rfl⟩
  obtain ⟨m, hm⟩ : ∃ n, n = O.length := ⟨_, rfl⟩
  rw [← hn] at HX ⊢
  rw [← hm] at HO ⊢
  have HN := Lib.hid hn
  have HM := Lib.hid hm
  clear ht hn hm hd
  go_enter Tryz.func4, Tryz.ntmps4
  go_upto_region 1 with fail
  have hal := (Below.refl w.heap.size w).alloc (Nat.le_refl _) (.cells #[.slice A0 n c0, .slice A1 m c1] 24)
  have YG := Lib.hid (show Arr (w.alloc (.cells #[.slice A0 n c0, .slice A1 m c1] 24)) w.heap.size 24 [.slice A0 n c0, .slice A1 m c1] from Arr.new w _ [_, _])
  have HB1 := Lib.hid hal
  generalize w.alloc (.cells #[.slice A0 n c0, .slice A1 m c1] 24) = w1 at YG HB1 ⊢
  clear hal
  obtain ⟨B, hB⟩ : ∃ B, B = w.heap.size := ⟨_, rfl⟩
  rw [← hB] at YG HB1 HT HX HO HGS ⊢
  have HB0 := Lib.hid hB
  clear hB
  have HAW := Lib.hid (awake45 w1 (HT.out _ HB1.out))
  go_upto_region 3 with (go_at_call 5; refine HAW.out.mono ?_; rintro e2 w2 ⟨rfl, hb2⟩)
  have HB2 := Lib.hid (HB1.out.trans (hb2.mono (Nat.le_of_lt YG.out.lt)))
  have YG2 := Lib.hid (YG.out.below hb2 YG.out.lt)
  clear hb2 YG HB1 HAW
  have y0 := YG2.out.cell 0
  have y1 := YG2.out.cell 1
  have hg := great45_any A0 A1 n c0 m c1 4 w2
  obtain ⟨gb, hgb⟩ : ∃ gb, gb = (decide ((4 : Int) < (n : Int)) || decide ((4 : Int) < (m : Int))) := ⟨_, rfl⟩
  rw [← hgb] at hg
  have HGB := Lib.hid hgb
  have HG := Lib.hid hg
  clear hg hgb
  cases gb with
  | true =>
    go_wp2_with (go_at_call 6; refine HG.out.mono ?_; rintro e3 w3 ⟨rfl, hb3⟩; have HB3 := Lib.hid (HB2.out.trans (hb3.mono (Nat.le_of_lt YG2.out.lt))))
    go_ret
    exact ⟨rfl, by rw [← HB0.out]; exact HB3.out⟩
  | false =>
  have h4 : n ≤ 4 ∧ m ≤ 4 := by
    have h5 := HGB.out
    simp only [Bool.false_eq, Bool.or_eq_false_iff, decide_eq_false_iff_not] at h5
    omega
  have H4 := Lib.hid h4
  clear h4 HGB
  by_cases h6 : 6 < gs.length
  · have z6 : (6 : Int) < (gs.length : Int) := by omega
    go_wp2_with (go_at_call 6; refine HG.out.mono ?_; rintro e3 w3 ⟨rfl, hb3⟩; have HB3 := Lib.hid (HB2.out.trans (hb3.mono (Nat.le_of_lt YG2.out.lt))))
    go_ret
    exact ⟨rfl, by rw [← HB0.out]; exact HB3.out⟩
  have z6 : ¬ (6 : Int) < (gs.length : Int) := by omega
  go_wp2_with (go_at_call 6; refine HG.out.mono ?_; rintro e3 w3 ⟨rfl, hb3⟩; have HB3 := Lib.hid (HB2.out.trans (hb3.mono (Nat.le_of_lt YG2.out.lt))); have YG3 := Lib.hid (YG2.out.below hb3 YG2.out.lt); clear hb3 y0 y1)
  clear z6 HG HB2 YG2
  have hg6 : gs.length ≤ 6 := by omega
  go_loopw [24] (fun i wr => ∃ k : Nat, i = .int .i64 (k : Int) ∧ k ≤ gs.length ∧ Hid (Below B w wr) ∧ Hid (Arr wr B 24 [.slice A0 n c0, .slice A1 m c1]) ∧ Hid (∀ h ∈ gs.take k, h.1.length ≤ 4 ∧ h.2.length ≤ 4)) (fun i _ => gs.length - (intOf i).toNat)
  case atStart => exact ⟨0, rfl, Nat.zero_le _, HB3, YG3, Lib.hid (fun h hh => by simp at hh)⟩
  case round =>
    clear HB3 YG3
    obtain ⟨k, rfl, hk, HB, YG, HA⟩ := hrel
    by_cases hlt : k < gs.length
    · obtain ⟨b, o, D0, m0, d0, D1, m1, d1, rfl, hbl, u0, u1, hq⟩ := hg0.at_ hlt
      have hbw : Below w.heap.size w wr := by rw [← HB0.out]; exact HB.out
      have u0 := (hbw.cell (p := ⟨b, o + k * 2, none⟩) hbl).trans u0
      have u1 := (hbw.cell (p := ⟨b, o + k * 2 + 1, none⟩) hbl).trans u1
      have HAS := Lib.hid (all_step (P := fun h : Gd => h.1.length ≤ 4 ∧ h.2.length ≤ 4) hlt)
      have e1 : m0 = gs[k].1.length := ints_len hq.1
      have e2 : m1 = gs[k].2.length := ints_len hq.2
      have E12 := Lib.hid (And.intro e1 e2)
      clear hq hbl hbw e1 e2
      have z1 : (k : Int) < (gs.length : Int) := by omega
      go_upto_region 8 with fail
      have hal := (Below.refl wr.heap.size wr).alloc (Nat.le_refl _) (.cells #[.slice D0 m0 d0, .slice D1 m1 d1] 24)
      have HB5 := Lib.hid (HB.out.trans (hal.mono (Nat.le_of_lt YG.out.lt)))
      have YG5 := Lib.hid (YG.out.below hal YG.out.lt)
      have HQ5 := Lib.hid (heap_box (w := wr) (t := 24) (a := .slice D0 m0 d0) (b := .slice D1 m1 d1) wr.heap.size rfl)
      generalize wr.alloc (.cells #[.slice D0 m0 d0, .slice D1 m1 d1] 24) = w5 at HB5 YG5 HQ5 ⊢
      generalize wr.heap.size = b8 at HQ5 ⊢
      clear hal HB YG u0 u1
      have u0 := HQ5.out.cell 0
      have u1 := HQ5.out.cell 1
      have hg := great45_any D0 D1 m0 d0 m1 d1 4 w5
      obtain ⟨gb, hgb⟩ : ∃ gb, gb = (decide ((4 : Int) < (m0 : Int)) || decide ((4 : Int) < (m1 : Int))) := ⟨_, rfl⟩
      rw [← hgb] at hg
      have HGB := Lib.hid hgb
      have HG := Lib.hid hg
      clear hg hgb
      cases gb with
      | true =>
        go_wp2_with (go_at_call 6; refine HG.out.mono ?_; rintro e3 w7 ⟨rfl, hb3⟩; have HB7 := Lib.hid (HB5.out.trans (hb3.mono (Nat.le_of_lt YG5.out.lt))))
        go_ret
        exact ⟨rfl, by rw [← HB0.out]; exact HB7.out⟩
      | false =>
        have h4 : m0 ≤ 4 ∧ m1 ≤ 4 := by
          have h5 := HGB.out
          simp only [Bool.false_eq, Bool.or_eq_false_iff, decide_eq_false_iff_not] at h5
          omega
        have HA2 := Lib.hid (HAS.out.2 ⟨HA.out, by have := E12.out; omega⟩)
        clear h4 HGB HAS HA E12
        go_wp2_with (go_at_call 6; refine HG.out.mono ?_; rintro e3 w7 ⟨rfl, hb3⟩; have HB7 := Lib.hid (HB5.out.trans (hb3.mono (Nat.le_of_lt YG5.out.lt))); have YG7 := Lib.hid (YG5.out.below hb3 YG5.out.lt); clear hb3 u0 u1)
        go_roundw
        case rel => exact ⟨k + 1, by go_num, by omega, HB7, YG7, HA2⟩
        case measure => simp [intOf]; omega
    · obtain rfl : k = gs.length := by omega
      have HA4 := Lib.hid (show ∀ h ∈ gs, h.1.length ≤ 1000 ∧ h.2.length ≤ 1000 from fun h hh => by
        have h1 := HA.out
        rw [List.take_length] at h1
        have := h1 h hh
        omega)
      have YG5 := YG
      have HB5 := HB
      have bb0 : ∃ bb : Bool, (bb = true ↔ ClG (X, O) gs) := by
        by_cases h : ClG (X, O) gs
        · exact ⟨true, by simp [h]⟩
        · exact ⟨false, by simp [h]⟩
      obtain ⟨bb, hbb⟩ := bb0
      have hwb : ∀ W, Below wr.heap.size wr W → Below B w W := fun W hb => HB.out.trans (hb.mono (Nat.le_of_lt YG.out.lt))
      have HC1 := Lib.hid (fun W (hb : Below wr.heap.size wr W) => bool_of_iff hbb (Closed2_any (.slice A0 n c0) (.slice A1 m c1) X O Al gs.length cl gs W (HX.out _ (hwb W hb)) (HO.out _ (hwb W hb)) (by have := H4.out; have := HN.out; omega) (by have := H4.out; have := HM.out; omega) (HGS.out _ (hwb W hb)) (by omega) HA4.out (HT.out _ (hwb W hb))))
      have HC2 := Lib.hid (fun W (hb : Below wr.heap.size wr W) => bool_of_iff hbb (refClosed_any (.slice A0 n c0) (.slice A1 m c1) X O Al gs.length cl gs W (HX.out _ (hwb W hb)) (HO.out _ (hwb W hb)) (by have := H4.out; have := HN.out; omega) (by have := H4.out; have := HM.out; omega) (HGS.out _ (hwb W hb)) (by omega) HA4.out))
      clear hbb hwb HA HB YG
      go_upto_region 11 with fail
      refine wp_region_phy (fun a b => Below a.heap.size a b) (fun h k => h.trans (k.mono h.size)) ((Below.refl _ _).drew) (by kernel_rfl) (by kernel_rfl) (by kernel_rfl) (by kernel_rfl) (phiT (fun i => ([some (.agg #[.slice A0 n c0, .slice A1 m c1]), some (.slice Al gs.length cl), some (.bool bb), some (.agg #[.slice A0 n c0, .slice A1 m c1]), some (.slice Al gs.length cl), some (.bool bb), some (.bool false)] : List (Option Value)).getD i none) (fun i v w => True)) (fun i v w w' h hb => ?_) ⟨?_, ?_, ?_, ?_, ?_, ?_, ?_, trivial⟩ ?_
      · unfold phiT at h ⊢
        split
        · next u hu => rw [hu] at h; exact h
        · next hu =>
          rw [hu] at h
          exact True.intro
      · intro x w1 bA hT hdep hold hb
        refine .inl ⟨trivial, ?_⟩
        have e3 : bA.tmps[3]?.getD undef = .pointer (some ⟨B, 0, none⟩) := hb 3
        have cc0 := (YG5.out.below hT YG5.out.lt).cell 0
        have cc1 := (YG5.out.below hT YG5.out.lt).cell 1
        refine phx_run (.agg #[.slice A0 n c0, .slice A1 m c1]) ?_ (Below.refl _ _) rfl
        clear hb hdep hold
        go_simp
      · intro x w1 bA hT hdep hold hb
        refine .inl ⟨trivial, ?_⟩
        have e1 : bA.tmps[1]?.getD undef = .slice Al gs.length cl := hb 1
        refine phx_run (.slice Al gs.length cl) ?_ (Below.refl _ _) rfl
        clear hb hdep hold
        go_simp
      · intro x w1 bA hT hdep hold hb
        refine .inl ⟨trivial, ?_⟩
        have e31 : bA.tmps[31]?.getD undef = .agg #[.slice A0 n c0, .slice A1 m c1] := (hb 31).trans (hdep 0 (by decide))
        have e32 : bA.tmps[32]?.getD undef = .slice Al gs.length cl := (hb 32).trans (hdep 1 (by decide))
        refine phx_call ?_ ((HC1.out w1 hT).mono fun e w' h => ⟨_, h.1, h.2, rfl⟩)
        clear hb hdep hold
        go_simp
      · intro x w1 bA hT hdep hold hb
        refine .inl ⟨trivial, ?_⟩
        have e3 : bA.tmps[3]?.getD undef = .pointer (some ⟨B, 0, none⟩) := hb 3
        have cc0 := (YG5.out.below hT YG5.out.lt).cell 0
        have cc1 := (YG5.out.below hT YG5.out.lt).cell 1
        refine phx_run (.agg #[.slice A0 n c0, .slice A1 m c1]) ?_ (Below.refl _ _) rfl
        clear hb hdep hold
        go_simp
      · intro x w1 bA hT hdep hold hb
        refine .inl ⟨trivial, ?_⟩
        have e1 : bA.tmps[1]?.getD undef = .slice Al gs.length cl := hb 1
        refine phx_run (.slice Al gs.length cl) ?_ (Below.refl _ _) rfl
        clear hb hdep hold
        go_simp
      · intro x w1 bA hT hdep hold hb
        refine .inl ⟨trivial, ?_⟩
        have e34 : bA.tmps[34]?.getD undef = .agg #[.slice A0 n c0, .slice A1 m c1] := (hb 34).trans (hdep 3 (by decide))
        have e35 : bA.tmps[35]?.getD undef = .slice Al gs.length cl := (hb 35).trans (hdep 4 (by decide))
        refine phx_call ?_ ((HC2.out w1 hT).mono fun e w' h => ⟨_, h.1, h.2, rfl⟩)
        clear hb hdep hold
        go_simp
      · intro x w1 bA hT hdep hold hb
        refine .inl ⟨trivial, ?_⟩
        have e33 : bA.tmps[33]?.getD undef = .bool bb := (hb 33).trans (hdep 2 (by decide))
        have e36 : bA.tmps[36]?.getD undef = .bool bb := (hb 36).trans (hdep 5 (by decide))
        have zb : (bb != bb) = false := by simp
        refine phx_run (.bool false) ?_ (Below.refl _ _) rfl
        clear hb hdep hold
        go_simp
      intro x w1 hT hall
      have x0e : x 0 = .agg #[.slice A0 n c0, .slice A1 m c1] := hall 0 (by decide)
      have x1e : x 1 = .slice Al gs.length cl := hall 1 (by decide)
      have x2e : x 2 = .bool bb := hall 2 (by decide)
      have x3e : x 3 = .agg #[.slice A0 n c0, .slice A1 m c1] := hall 3 (by decide)
      have x4e : x 4 = .slice Al gs.length cl := hall 4 (by decide)
      have x5e : x 5 = .bool bb := hall 5 (by decide)
      have x6e : x 6 = .bool false := hall 6 (by decide)
      simp only [putAll, dstOf, Act.put, List.map_cons, List.map_nil, List.setIfInBounds_toArray, List.set_cons_succ, List.set_cons_zero, Nat.reduceAdd, x0e, x1e, x2e, x3e, x4e, x5e, x6e]
      clear x0e x1e x2e x3e x4e x5e x6e hall
      have HB6 := Lib.hid (HB5.out.trans (hT.mono (Nat.le_of_lt YG5.out.lt)))
      have YG6 := Lib.hid (YG5.out.below hT YG5.out.lt)
      clear hT HC1 HC2 HB5 YG5
      have y0 := YG6.out.cell 0
      have y1 := YG6.out.cell 1
      have HR := Lib.hid (Reached_any (.slice A0 n c0) (.slice A1 m c1) X O 200 w1 (HX.out _ HB6.out) (HO.out _ HB6.out) (by have := H4.out; have := HN.out; omega) (by have := H4.out; have := HM.out; omega) (by decide) (HT.out _ HB6.out))
      go_wp2_with fail
      refine HR.out.mono ?_
      rintro e7 w7 hr7
      have HB7 := Lib.hid (HB6.out.trans (hr7.1.mono (Nat.le_of_lt YG6.out.lt)))
      have YG7 := Lib.hid (YG6.out.below hr7.1 YG6.out.lt)
      clear y0 y1 HR HB6 YG6
      rcases hr7.2 with ⟨_, rfl⟩ | ⟨_, _, rfl⟩ | ⟨hv, _, r, hr, ⟨rfl, rfl⟩ | ⟨K, v, all, rfl, hp, _, hgd, rfl⟩⟩
      · clear hr7
        go_wp2_with fail
        go_ret
        exact ⟨rfl, by rw [← HB0.out]; exact HB7.out⟩
      · clear hr7
        go_wp2_with fail
        go_ret
        exact ⟨rfl, by rw [← HB0.out]; exact HB7.out⟩
      · clear hr7
        go_wp2_with fail
        go_ret
        exact ⟨rfl, by rw [← HB0.out]; exact HB7.out⟩
      have hdn := (Exq.pl (g := (X, O)) hv hr).1 K rfl
      have hnd := Exq.nd (g := (X, O)) hv hr K rfl
      have hmost := hr.most K (.inl rfl)
      have hal := hp.length_eq
      rw [List.length_map] at hal
      have HCL := Lib.hid (show ClG (X, O) all from ⟨ver_vd hdn hp, ver_closed hv hdn hp⟩)
      have HNO := Lib.hid (fun k (hk : k < all.length) => less_no hv hdn hp hnd hk)
      have HLN := Lib.hid (show 0 < all.length ∧ all.length ≤ 200 from ⟨List.length_pos_of_mem HCL.out.2.2.2.1, by
        have e2 : (200 : Int).toNat = 200 := rfl
        omega⟩)
      have HVB := Lib.hid (show ∀ h ∈ all, h.1.length ≤ 1000 ∧ h.2.length ≤ 1000 from fun h hh => by
        have h1 := (HCL.out.1 h hh).most
        have h2 := (HCL.out.1 h hh).len
        omega)
      have HGD := Lib.hid hgd
      obtain ⟨A2, cl2, rfl, hcl2, hx2⟩ := hgd
      have hA2 : ∃ b o, A2 = some ⟨b, o, none⟩ := by
        obtain ⟨b, o, _, e, _⟩ := hx2 0 _ (List.getElem?_eq_getElem HLN.out.1)
        exact ⟨b, o, e⟩
      obtain ⟨bA, oA, rfl⟩ := hA2
      clear hx2
      clear hr7 hv hr hp hdn hnd hmost hal
      have y0 := YG7.out.cell 0
      have y1 := YG7.out.cell 1
      have HC3 := Lib.hid (bool_of_iff (bb := true) (by simp [HCL.out]) (Closed2_any (.slice A0 n c0) (.slice A1 m c1) X O (some ⟨bA, oA, none⟩) all.length cl2 all w7 (HX.out _ HB7.out) (HO.out _ HB7.out) (by have := H4.out; have := HN.out; omega) (by have := H4.out; have := HM.out; omega) HGD.out (by have := HLN.out; omega) HVB.out (HT.out _ HB7.out)))
      obtain ⟨kk, hkk⟩ : ∃ kk : Nat, kk = drop.toNat % all.length := ⟨_, rfl⟩
      have hkl : kk < all.length := by rw [hkk]; exact Nat.mod_lt _ HLN.out.1
      have hd := HD.out
      have hl := HLN.out
      have zr : Int.tmod drop (all.length : Int) = (kk : Int) := by
        rw [hkk, Int.tmod_eq_emod_of_nonneg hd.1, Int.natCast_emod, Int.toNat_of_nonneg hd.1]
      have zn : ¬ ((all.length : Int) = 0) := by omega
      have zn2 : ¬ (all = []) := by intro h; rw [h] at hl; simp at hl
      have zn3 : ¬ (all.length = 0) := by omega
      have zw : IntKind.i64.wrap drop = drop := IntWalk.i64_in _ (by omega)
      clear hkk
      go_upto_region 19 with (go_at_call 12; refine HC3.out.mono ?_; rintro e8 w8 ⟨rfl, hb8⟩; have HB8 := Lib.hid (HB7.out.trans (hb8.mono (Nat.le_of_lt YG7.out.lt))); have YG8 := Lib.hid (YG7.out.below hb8 YG7.out.lt); have HGD8 := Lib.hid (HGD.out.below hb8); clear hb8 y0 y1)
      have z2 : (kk : Int) ≤ (cl2 : Int) := by omega
      have z3 : (kk : Int) ≤ (all.length : Int) := by omega
      have z4 : (kk : Int) + 1 ≤ (all.length : Int) := by omega
      have z5 : IntKind.i64.wrap ((kk : Int) + 1) = (kk : Int) + 1 := IntWalk.i64_in _ (by omega)
      have z7 : (0 : Int) ≤ (kk : Int) + 1 := by omega
      have z8 : (kk : Int) ≤ (kk : Int) + 1 := by omega
      obtain ⟨cs, hsl, hal⟩ := gds_sl HGD8.out
      have HAL := Lib.hid hal
      have hcl := hal.len
      have HCL2 := Lib.hid (show cs.length ≤ 200 by omega)
      have HS1 := Lib.hid (show ∀ W, Below w8.heap.size w8 W → SlA eG W (.slice (some ⟨bA, oA, none⟩) kk cl2) (cs.take kk) from fun W hb => by
        have h := (hsl.below hb).sub eG_len (by omega) (lo := 0) (hi := kk) (by omega) (by omega) cl2 (by omega) (some ⟨bA, oA, none⟩) (fun _ => by simp [Addr.add])
        simpa using h)
      have HS2 := Lib.hid (show ∀ W, Below w8.heap.size w8 W → SlA eG W (.slice (if cl2 = kk + 1 then some ⟨bA, oA, none⟩ else some ⟨bA, oA + (kk + 1) * 2, none⟩) (all.length - (kk + 1)) (cl2 - (kk + 1))) (cs.drop (kk + 1)) from fun W hb => by
        have h := (hsl.below hb).sub eG_len (by omega) (lo := kk + 1) (hi := all.length) (by omega) (by omega) (cl2 - (kk + 1)) (by omega) (if cl2 = kk + 1 then some ⟨bA, oA, none⟩ else some ⟨bA, oA + (kk + 1) * 2, none⟩) (fun hh => by
          rw [if_neg (by omega)]
          simp only [Option.map_some, Addr.add]
          rw [if_neg (by omega)])
        rw [← hcl, List.take_length] at h
        rw [hcl] at h
        exact h)
      clear hal hsl hcl
      go_cut [12] (fun s12 wx => ∃ A3 n3 c3, s12 = .slice A3 n3 c3 ∧ Gds wx (.slice A3 n3 c3) (all.take kk ++ all.drop (kk + 1)) ∧ Below w8.heap.size w8 wx)
      case first =>
        by_cases hz : cl2 = kk + 1
        · rw [if_pos hz] at HS2
          subst hz
          rw [show all.length - (kk + 1) = 0 by omega, Nat.sub_self] at HS2
          go_region_law (first
            | (refine step_appA rfl elG.toElA (.tmp 54) (.tmp 57) 27 27 rfl Tryz.underlying27 Tryz.underlying27 rfl (OwnA.emptyAt (base := w8.heap.size) (by omega) (by simp only [heap_push, heap_drew, Array.getElem?_push, Array.size_push]; repeat (first | rw [if_pos trivial] | rw [if_neg (by omega)]))) rfl (HS1.out _ (by repeat (first | exact Below.refl _ _ | refine Below.drew ?_ | refine Below.alloc ?_ (by simp <;> omega) _))) (by have := HCL2.out; simp; omega) (by simp <;> omega) ?_; intro v1 w9 hown1 hb1 hk1; have hB1 : Below w8.heap.size w8 w9 := Below.trans (by repeat (first | exact Below.refl _ _ | refine Below.drew ?_ | refine Below.alloc ?_ (by simp <;> omega) _)) hb1; clear hk1 hb1)
            | (refine step_appA rfl elG.toElA (.tmp 58) (.tmp 62) 27 27 rfl Tryz.underlying27 Tryz.underlying27 rfl hown1 rfl (HS2.out _ hB1) (by have := HCL2.out; simp; omega) hB1.size ?_; intro v2 w10 hown2 hb4 hk4; have hB4 := hB1.trans hb4; clear hk4 hb4))
          all_goals
            go_wp2_with fail
            go_meet
            have hown3 := hown2
            simp only [List.nil_append] at hown3
            obtain ⟨A3, c3, hv3⟩ := hown3.form
            subst hv3
            exact ⟨_, _, _, rfl, sl_gds hown3.sl (((HAL.out.below hB4).take kk).append ((HAL.out.below hB4).drop (kk + 1))), hB4⟩
        · rw [if_neg hz] at HS2
          go_region_law (first
            | (refine step_appA rfl elG.toElA (.tmp 54) (.tmp 57) 27 27 rfl Tryz.underlying27 Tryz.underlying27 rfl (OwnA.emptyAt (base := w8.heap.size) (by omega) (by simp only [heap_push, heap_drew, Array.getElem?_push, Array.size_push]; repeat (first | rw [if_pos trivial] | rw [if_neg (by omega)]))) rfl (HS1.out _ (by repeat (first | exact Below.refl _ _ | refine Below.drew ?_ | refine Below.alloc ?_ (by simp <;> omega) _))) (by have := HCL2.out; simp; omega) (by simp <;> omega) ?_; intro v1 w9 hown1 hb1 hk1; have hB1 : Below w8.heap.size w8 w9 := Below.trans (by repeat (first | exact Below.refl _ _ | refine Below.drew ?_ | refine Below.alloc ?_ (by simp <;> omega) _)) hb1; clear hk1 hb1)
            | (refine step_appA rfl elG.toElA (.tmp 58) (.tmp 62) 27 27 rfl Tryz.underlying27 Tryz.underlying27 rfl hown1 rfl (HS2.out _ hB1) (by have := HCL2.out; simp; omega) hB1.size ?_; intro v2 w10 hown2 hb4 hk4; have hB4 := hB1.trans hb4; clear hk4 hb4))
          all_goals
            go_wp2_with fail
            go_meet
            have hown3 := hown2
            simp only [List.nil_append] at hown3
            obtain ⟨A3, c3, hv3⟩ := hown3.form
            subst hv3
            exact ⟨_, _, _, rfl, sl_gds hown3.sl (((HAL.out.below hB4).take kk).append ((HAL.out.below hB4).drop (kk + 1))), hB4⟩
      case rest =>
        clear z2 z3 z4 z5 z7 z8 zr zn zn2 zn3 zw HAL HS1 HS2 HCL2
        obtain ⟨A3, n3, c3, rfl, hgl3, hb9⟩ := hcut
        have HB9 := Lib.hid (HB8.out.trans (hb9.mono (Nat.le_of_lt YG8.out.lt)))
        have YG9 := Lib.hid (YG8.out.below hb9 YG8.out.lt)
        have HLS := Lib.hid hgl3
        have hNO := HNO.out kk hkl
        have HL3 := Lib.hid (show (all.take kk ++ all.drop (kk + 1)).length ≤ 200 by simp; omega)
        have HV3 := Lib.hid (show ∀ h ∈ all.take kk ++ all.drop (kk + 1), h.1.length ≤ 1000 ∧ h.2.length ≤ 1000 from fun h hh => by
          rcases List.mem_append.1 hh with hh | hh
          · exact HVB.out h (List.mem_of_mem_take hh)
          · exact HVB.out h (List.mem_of_mem_drop hh))
        have HC4 := Lib.hid (bool_of_iff (bb := false) (by simp [hNO]) (Closed2_any (.slice A0 n c0) (.slice A1 m c1) X O A3 n3 c3 (all.take kk ++ all.drop (kk + 1)) wc (HX.out _ HB9.out) (HO.out _ HB9.out) (by have := H4.out; have := HN.out; omega) (by have := H4.out; have := HM.out; omega) HLS.out (by have := HL3.out; omega) HV3.out (HT.out _ HB9.out)))
        clear hNO hgl3 hb9
        have y0 := YG9.out.cell 0
        have y1 := YG9.out.cell 1
        go_wp2_with (go_at_call 12; refine HC4.out.mono ?_; rintro e10 w10 ⟨rfl, hb10⟩)
        go_ret
        exact ⟨rfl, by rw [← HB0.out]; exact HB9.out.trans (hb10.mono (Nat.le_of_lt YG9.out.lt))⟩
end Go.Proofs.YteliflcbegcdlaaGreatDoor
