/- polymatrix.Normal. -/
import Derived.Test.YtbkgpfalljgdcaaGreatDoorZMvs
import Derived.Test.YtbkgpfalljgdcaaGreatDoorZTmo
import Derived.Test.YtbkgpfalljgdcaaGreatDoorZMdt
namespace Go.Proofs.YtbkgpfalljgdcaaGreatDoor
open Go.RowKit
set_option linter.unusedVariables false

abbrev LPn := List (Int × Int)
def negL (l : List (Int × Int)) : List (Int × Int) := l.map fun t => (t.1, -t.2)
theorem cf_negL (l : List (Int × Int)) (e : Int) : cf (negL l) e = - cf l e := by
  induction l with
  | nil => rfl
  | cons t l ih =>
    have h : negL (t :: l) = (t.1, -t.2) :: negL l := rfl
    rw [h, cf_cons, cf_cons, ih]
    simp only
    split <;> omega
theorem negL_can {l : List (Int × Int)} (h : Can l) : Can (negL l) := by
  refine ⟨?_, fun t ht => ?_⟩
  · unfold Srt negL
    rw [List.pairwise_map]
    exact h.srt
  · obtain ⟨s, hs, rfl⟩ := List.mem_map.1 ht
    have := h.nz s hs
    simp only; omega
theorem negL_lim {l : List (Int × Int)} (h : Lim l) : Lim (negL l) := by
  refine ⟨fun t ht => ?_, fun t ht => ?_⟩
  · obtain ⟨s, hs, rfl⟩ := List.mem_map.1 ht
    have := h.co s hs
    simp only; omega
  · obtain ⟨s, hs, rfl⟩ := List.mem_map.1 ht
    exact h.ex s hs
theorem lowL_negL (l : List (Int × Int)) : lowL (negL l) = lowL l := by cases l <;> rfl
theorem neg_is {l : List (Int × Int)} {r : Pol} (hc : Can l) (hl : Lim l) (h : CombP (fun _ b => -b) (some []) (some l) r) : r = some (negL l) := by
  rcases h with ⟨m, rfl, h1, h2, h3⟩ | ⟨_, e, h1⟩
  · rw [h1.ext (negL_can hc) fun e => by rw [h3, cf_negL]]
  · exfalso
    have h2 := hl.cf hc e
    exact h1 ⟨by show _ ≤ - cf l e; omega, by show - cf l e ≤ _; omega⟩
/-- the normal form's sign -/
def nsL (l : List (Int × Int)) : List (Int × Int) := if cf l (lowL l) < 0 then negL l else l
/-- the normal form -/
def norP : Pol → Pol
  | none => none
  | some l => if l.length = 0 then some l else movP (fun e => e + -lowL l) (some (nsL l))
theorem Arr.farP {w : World} {g b : Nat} {t : TypeId} {cs : List Value} (h : Arr w b t cs) (hne : g ≠ b) (u1 u2 : Value) : Arr ((w.setCell ⟨g, 0, none⟩ u1).setCell ⟨g, 1, none⟩ u2) b t cs := (Below.heap_setCell _ _ _ b (Ne.symm hne)).trans ((Below.heap_setCell _ _ _ b (Ne.symm hne)).trans h)
theorem norP_some (l : List (Int × Int)) : norP (some l) = if l.length = 0 then some l else movP (fun e => e + -lowL l) (some (nsL l)) := rfl
set_option maxHeartbeats 4000000 in
set_option maxRecDepth 100000 in
theorem Normal_any (vp : Value) (p : Pol) (w : World) (hp : PolyV w vp p) (okp : okP p) :
    Calls Tryz.prog 29 #[vp] w fun e w' => ∃ v, e = .returned v ∧ PolyV w' v (norP p) ∧ Below w.heap.size w w' := by
  have HPV := Lib.hid (fun W (hb : Below w.heap.size w W) => hp.below hb)
  have HBG := Lib.hid (fun W v (h : PolyV W v p) => Big_any v p W h)
  have HZE := Lib.hid (fun W v (h : PolyV W v p) => Zero_any v p W h okp)
  obtain ⟨b1, A, n, c, rfl, j1, j2⟩ := hp.parts
  have HJ := Lib.hid j1
  clear hp j1 j2
  have hW : ∀ W, W = ((w.alloc (.cells #[.bool b1, .slice A n c] 40)).alloc (.cells #[.bool false, .slice none 0 0] 40)) → Arr W w.heap.size 40 [.bool b1, .slice A n c] ∧ Arr W (w.heap.size + 1) 40 [.bool false, .slice none 0 0] ∧ Below w.heap.size w W := by
    intro W hW
    subst hW
    exact ⟨(Arr.new _ _ [_, _]).alloc _, Arr.newAt (w.alloc _) _ [_, _] _ (by simp), ((Below.refl _ _).alloc (Nat.le_refl _) _).alloc (by simp) _⟩
  go_enter Tryz.func29, Tryz.ntmps29
  go_upto_region 1 with fail
  generalize ((w.alloc (.cells #[.bool b1, .slice A n c] 40)).alloc (.cells #[.bool false, .slice none 0 0] 40)) = w3 at hW ⊢
  obtain ⟨qp, qr, hb3⟩ := hW w3 rfl
  obtain ⟨gp, hgp⟩ : ∃ g, g = w.heap.size := ⟨_, rfl⟩
  obtain ⟨gr_, hgr⟩ : ∃ g, g = w.heap.size + 1 := ⟨_, rfl⟩
  rw [← hgr] at qr ⊢
  rw [← hgp] at qp hgr ⊢
  have HG := Lib.hid (show w.heap.size ≤ gp ∧ w.heap.size ≤ gr_ ∧ gp ≠ gr_ ∧ gp < w3.heap.size from ⟨by omega, by omega, by omega, qp.lt⟩)
  have HQP := Lib.hid qp
  have HQR := Lib.hid qr
  have HB3 := Lib.hid hb3
  have HP3 := Lib.hid (HPV.out w3 hb3)
  clear hW qp qr hb3 hgp hgr HPV
  cases p with
  | none =>
    have y0 := HQP.out.cell 0
    have y1 := HQP.out.cell 1
    have HBX := Lib.hid (HBG.out _ _ HP3.out)
    simp only [Option.isNone_none] at HBX
    go_upto_region 2 with (go_at_call 42; refine HBX.out.mono ?_; rintro e w4 ⟨rfl, hb4⟩)
    have HQP4 := Lib.hid (HQP.out.below hb4 HQP.out.lt)
    have HP4 := Lib.hid (HP3.out.below hb4)
    have qr := HQR.out.below hb4 HQR.out.lt
    have HBF := Lib.hid (HB3.out.trans (hb4.mono HB3.out.size))
    clear hb4 y0 y1 HBX HBG HZE HQP HP3 HQR HB3
    have y0 := HQP4.out.cell 0
    have y1 := HQP4.out.cell 1
    have x0 := qr.cell 0
    have x1 := qr.cell 1
    have f0 := qr.frozen 0
    have f1 := qr.frozen 1
    have HV := Lib.hid (HP4.out.box qr (.bool b1) (.slice A n c))
    have hres := Lib.hid ((qr.set 0 (.bool b1)).set 1 (.slice A n c))
    clear qr
    go_wp2_with fail
    refine bodyPost_ret (v := .agg #[.bool b1, .slice A n c]) (results_c Tryz.results29 _ _ gr_ 40 _ _ rfl hres.out Tryz.underlying40 rfl info_poly) rfl ?_
    exact ⟨_, rfl, HV.out, (HBF.out.setCell (p := ⟨gr_, 0, none⟩) HG.out.2.1 _).setCell (p := ⟨gr_, 1, none⟩) HG.out.2.1 _⟩
  | some l =>
    obtain ⟨hcan, hlim⟩ := okp
    have hlow := lowL_lim hlim
    have y0 := HQP.out.cell 0
    have y1 := HQP.out.cell 1
    have HBX := Lib.hid (HBG.out _ _ HP3.out)
    simp only [Option.isNone_some] at HBX
    obtain ⟨zb, hzb⟩ : ∃ zb, zb = zeroB (some l) := ⟨_, rfl⟩
    rw [← hzb] at HZE
    have HZB := Lib.hid (show zb = decide (l.length = 0) by rw [hzb]; cases l <;> simp [zeroB])
    clear hzb
    have HZQ := Lib.hid (fun W (hb : Below w3.heap.size w3 W) => HZE.out W _ (HP3.out.below hb))
    go_upto_if 8 with (first | (go_at_call 42; refine HBX.out.mono ?_; rintro e w4 ⟨rfl, hb4⟩; have HB4 := Lib.hid hb4; have y2 := (HQP.out.below hb4 HQP.out.lt).cell 0; have y3 := (HQP.out.below hb4 HQP.out.lt).cell 1; clear hb4 y0 y1) | (go_at_call 44; refine (HZQ.out _ HB4.out).mono ?_; rintro e w5 ⟨rfl, hb5⟩))
    have HB5 := Lib.hid (HB4.out.trans (hb5.mono HB4.out.size))
    have HQP5 := Lib.hid (HQP.out.below HB5.out HQP.out.lt)
    have HQR5 := Lib.hid (HQR.out.below HB5.out HQR.out.lt)
    have HP5 := Lib.hid (HP3.out.below HB5.out)
    have HBW5 := Lib.hid (HB3.out.trans (HB5.out.mono HB3.out.size))
    have hsz5 := Lib.hid (show gp < w5.heap.size by have := HG.out.2.2.2; have := HB5.out.size; omega)
    clear hb5 y2 y3 HBX HBG HZE HZQ HB4 HB5 HQP HP3 HQR HB3
    cases zb with
    | true =>
      have HZ := Lib.hid (of_decide_eq_true HZB.out.symm)
      have y0 := HQP5.out.cell 0
      have y1 := HQP5.out.cell 1
      have x0 := HQR5.out.cell 0
      have x1 := HQR5.out.cell 1
      have f0 := HQR5.out.frozen 0
      have f1 := HQR5.out.frozen 1
      have HV := Lib.hid (HP5.out.box HQR5.out (.bool b1) (.slice A n c))
      have hres := Lib.hid ((HQR5.out.set 0 (.bool b1)).set 1 (.slice A n c))
      clear HZB
      go_wp2_with fail
      refine bodyPost_ret (v := .agg #[.bool b1, .slice A n c]) (results_c Tryz.results29 _ _ gr_ 40 _ _ rfl hres.out Tryz.underlying40 rfl info_poly) rfl ?_
      exact ⟨_, rfl, by rw [norP_some, if_pos HZ.out]; exact HV.out, (HBW5.out.setCell (p := ⟨gr_, 0, none⟩) HG.out.2.1 _).setCell (p := ⟨gr_, 1, none⟩) HG.out.2.1 _⟩
    | false =>
      have HNE := Lib.hid (of_decide_eq_false HZB.out.symm)
      have HLO := Lib.hid (fun W v (h : PolyV W v (some l)) => Low_any v (some l) W h ⟨hcan, hlim⟩)
      have HCO := Lib.hid (fun e W v (h : PolyV W v (some l)) => Coef_any v (some l) e W h ⟨hcan, hlim⟩)
      have HNG := Lib.hid (fun W v (h : PolyV W v (some l)) => (show Calls Tryz.prog 47 #[v] W (fun e w' => ∃ v, e = .returned v ∧ PolyV w' v (some (negL l)) ∧ Below W.heap.size W w') from (Neg_any v (some l) W h ⟨hcan, hlim⟩).mono (by
        rintro e w' ⟨v, r, h1, h2, h3, h4⟩
        rw [neg_is hcan hlim h3] at h2
        exact ⟨v, h1, h2, h4⟩)))
      simp only [Option.getD_some] at HLO HCO
      have HOKN := Lib.hid (show okP (some (negL l)) from ⟨negL_can hcan, negL_lim hlim⟩)
      have HOKL := Lib.hid (show okP (some l) from ⟨hcan, hlim⟩)
      have HLN := Lib.hid (lowL_negL l)
      have HNOR := Lib.hid (show norP (some l) = movP (fun e => e + -lowL l) (some (nsL l)) by rw [norP_some, if_neg HNE.out])
      have HNS := Lib.hid (show nsL l = if cf l (lowL l) < 0 then negL l else l from rfl)
      obtain ⟨res, hre⟩ : ∃ r, r = norP (some l) := ⟨_, rfl⟩
      rw [← hre] at HNOR
      have HRE := Lib.hid hre
      clear hre
      generalize nsL l = l2 at *
      obtain ⟨lo, hlo⟩ : ∃ x, x = lowL l := ⟨_, rfl⟩
      rw [← hlo] at HLO HLN HNOR HNS hlow
      have HLOE := Lib.hid hlo
      obtain ⟨co, hco⟩ : ∃ x, x = cf l lo := ⟨_, rfl⟩
      rw [← hco] at HNS
      have HCO2 := Lib.hid (HCO.out lo)
      rw [← hco] at HCO2
      clear hlo hco HCO HZB hcan hlim
      go_upto_region 3 with fail
      refine wp_region_phy (fun a b => Below a.heap.size a b) (fun h k => h.trans (k.mono h.size)) ((Below.refl _ _).drew) (by kernel_rfl) (by kernel_rfl) (by kernel_rfl) (by kernel_rfl) (phiT (fun i => ([some (.agg #[.bool b1, .slice A n c]), some (.agg #[.bool b1, .slice A n c]), some (.int .i64 lo), some (.int .i64 co), some (.bool (decide (co < 0)))] : List (Option Value)).getD i none) (fun i v w => True)) (fun i v w w' h hb => ?_) ⟨?_, ?_, ?_, ?_, ?_, trivial⟩ ?_
      · unfold phiT at h ⊢
        split
        · next u hu => rw [hu] at h; exact h
        · next hu =>
          rw [hu] at h
          exact True.intro
      · intro x w1 bA hT hdep hold hb
        refine .inl ⟨trivial, ?_⟩
        have e1 : bA.tmps[1]?.getD undef = .pointer (some ⟨gp, 0, none⟩) := hb 1
        have cc0 := (HQP5.out.below hT HQP5.out.lt).cell 0
        have cc1 := (HQP5.out.below hT HQP5.out.lt).cell 1
        refine phx_run (.agg #[.bool b1, .slice A n c]) ?_ (Below.refl _ _) rfl
        clear hb hdep hold
        go_simp
      · intro x w1 bA hT hdep hold hb
        refine .inl ⟨trivial, ?_⟩
        have e1 : bA.tmps[1]?.getD undef = .pointer (some ⟨gp, 0, none⟩) := hb 1
        have cc0 := (HQP5.out.below hT HQP5.out.lt).cell 0
        have cc1 := (HQP5.out.below hT HQP5.out.lt).cell 1
        refine phx_run (.agg #[.bool b1, .slice A n c]) ?_ (Below.refl _ _) rfl
        clear hb hdep hold
        go_simp
      · intro x w1 bA hT hdep hold hb
        refine .inl ⟨trivial, ?_⟩
        have e11 : bA.tmps[11]?.getD undef = .agg #[.bool b1, .slice A n c] := (hb 11).trans (hdep 1 (by decide))
        refine phx_call ?_ ((HLO.out w1 _ (HP5.out.below hT)).mono fun e w' h => ⟨_, h.1, h.2, rfl⟩)
        clear hb hdep hold
        go_simp
      · intro x w1 bA hT hdep hold hb
        refine .inl ⟨trivial, ?_⟩
        have e10 : bA.tmps[10]?.getD undef = .agg #[.bool b1, .slice A n c] := (hb 10).trans (hdep 0 (by decide))
        have e12 : bA.tmps[12]?.getD undef = .int .i64 lo := (hb 12).trans (hdep 2 (by decide))
        refine phx_call ?_ ((HCO2.out w1 _ (HP5.out.below hT)).mono fun e w' h => ⟨_, h.1, h.2, rfl⟩)
        clear hb hdep hold
        go_simp
      · intro x w1 bA hT hdep hold hb
        refine .inl ⟨trivial, ?_⟩
        have e13 : bA.tmps[13]?.getD undef = .int .i64 co := (hb 13).trans (hdep 3 (by decide))
        refine phx_run (.bool (decide (co < 0))) ?_ (Below.refl _ _) rfl
        clear hb hdep hold
        go_simp
      intro x w1 hT hall
      have x0e : x 0 = .agg #[.bool b1, .slice A n c] := hall 0 (by decide)
      have x1e : x 1 = .agg #[.bool b1, .slice A n c] := hall 1 (by decide)
      have x2e : x 2 = .int .i64 lo := hall 2 (by decide)
      have x3e : x 3 = .int .i64 co := hall 3 (by decide)
      have x4e : x 4 = .bool (decide (co < 0)) := hall 4 (by decide)
      simp only [putAll, dstOf, Act.put, List.map_cons, List.map_nil, List.setIfInBounds_toArray, List.set_cons_succ, List.set_cons_zero, Nat.reduceAdd, x0e, x1e, x2e, x3e, x4e]
      clear x0e x1e x2e x3e x4e hall
      have HQP6 := Lib.hid (HQP5.out.below hT HQP5.out.lt)
      have HQR6 := Lib.hid (HQR5.out.below hT HQR5.out.lt)
      have HP6 := Lib.hid (HP5.out.below hT)
      have HBW6 := Lib.hid (HBW5.out.trans (hT.mono HBW5.out.size))
      have hsz6 := Lib.hid (show gp < w1.heap.size by have := hsz5.out; have := (show Below w5.heap.size w5 w1 from hT).size; omega)
      clear hT HQP5 HQR5 HP5 HBW5 hsz5 HCO2
      generalize w1 = w6 at *
      by_cases hneg : co < 0
      · rw [if_pos hneg] at HNS
        have y0 := HQP6.out.cell 0
        have y1 := HQP6.out.cell 1
        have HNG6 := Lib.hid (HNG.out _ _ HP6.out)
        go_wp2_with fail
        refine HNG6.out.mono ?_
        rintro e w7 ⟨v7, rfl, hv7, hb7⟩
        obtain ⟨b2, A2, n2, c2, rfl, j5, j6⟩ := hv7.parts
        have q7 := HQP6.out.below hb7 HQP6.out.lt
        have r7 := HQR6.out.below hb7 HQR6.out.lt
        have f0 := q7.frozen 0
        have f1 := q7.frozen 1
        have x0 := q7.cell 0
        have x1 := q7.cell 1
        have HQP7 := Lib.hid (show Arr ((w7.setCell ⟨gp, 0, none⟩ (.bool b2)).setCell ⟨gp, 1, none⟩ (.slice A2 n2 c2)) gp 40 [.bool b2, .slice A2 n2 c2] from (q7.set 0 (.bool b2)).set 1 (.slice A2 n2 c2))
        have HP7 := Lib.hid (show PolyV ((w7.setCell ⟨gp, 0, none⟩ (.bool b2)).setCell ⟨gp, 1, none⟩ (.slice A2 n2 c2)) (.agg #[.bool b2, .slice A2 n2 c2]) (some l2) from by
          rw [HNS.out]; exact hv7.box q7 _ _)
        have HQR7 := Lib.hid (show Arr ((w7.setCell ⟨gp, 0, none⟩ (.bool b2)).setCell ⟨gp, 1, none⟩ (.slice A2 n2 c2)) gr_ 40 [.bool false, .slice none 0 0] from r7.farP HG.out.2.2.1 _ _)
        have HBW7 := Lib.hid (((HBW6.out.trans (hb7.mono HBW6.out.size)).setCell (p := ⟨gp, 0, none⟩) HG.out.1 (.bool b2)).setCell (p := ⟨gp, 1, none⟩) HG.out.1 (.slice A2 n2 c2))
        have HOK2 := Lib.hid (show okP (some l2) by rw [HNS.out]; exact HOKN.out)
        have HLL2 := Lib.hid (show lowL l2 = lo by rw [HNS.out]; exact HLN.out)
        clear q7 r7 hv7 hb7 j5 j6 y0 y1 HNG6 HQP6 HQR6 HP6 HBW6 hsz6
        go_upto_region 5 with fail
        clear f0 f1 x0 x1
        generalize (w7.setCell ⟨gp, 0, none⟩ (.bool b2)).setCell ⟨gp, 1, none⟩ (.slice A2 n2 c2) = w8 at *
        have HLO2 := Lib.hid (fun W v (h : PolyV W v (some l2)) => (show Calls Tryz.prog 46 #[v] W (fun e w' => e = .returned (.int .i64 lo) ∧ Below W.heap.size W w') from by
          have h1 := Low_any v (some l2) W h HOK2.out
          rw [show lowL ((some l2 : Pol).getD []) = lo from HLL2.out] at h1
          exact h1))
        have HSH := Lib.hid (fun W v (h : PolyV W v (some l2)) => (show Calls Tryz.prog 48 #[v, .int .i64 (-lo)] W (fun e w' => ∃ v, e = .returned v ∧ PolyV w' v res ∧ Below W.heap.size W w') from by
          have h1 := Shift_any v (some l2) (-lo) W h HOK2.out (by omega)
          rw [← HNOR.out] at h1
          exact h1))
        have HNW := Lib.hid (show IntKind.i64.wrap (-lo) = -lo from IntWalk.i64_in _ (by omega))
        refine wp_region_phx (fun a b => Below a.heap.size a b) (fun h k => h.trans (k.mono h.size)) ((Below.refl _ _).drew) 5 (by kernel_rfl) (by kernel_rfl) (by kernel_rfl) (by kernel_rfl) rfl (by kernel_rfl) (phiT (fun i => ([some (.agg #[.bool b2, .slice A2 n2 c2]), some (.agg #[.bool b2, .slice A2 n2 c2]), some (.int .i64 lo), some (.int .i64 (-lo)), none, some (undef)] : List (Option Value)).getD i none) (fun i v w => (if i = 4 then (fun v w => PolyV w v res) v w else True))) (fun i v w w' h hb => ?_) (fun _ W => ∃ (b : Bool) (A : Option Addr) (n c : Nat), Arr W gr_ 40 [.bool b, .slice A n c] ∧ PolyV W (.agg #[.bool b, .slice A n c]) res ∧ Below w.heap.size w W) ⟨?_, ?_, ?_, ?_, ?_, ?_, trivial⟩ ?_
        · unfold phiT at h ⊢
          split
          · next u hu => rw [hu] at h; exact h
          · next hu =>
            rw [hu] at h
            simp only at h ⊢
            by_cases q4 : i = 4
            · rw [if_pos q4] at h ⊢; exact PolyV.below h hb
            · rw [if_neg q4] at h ⊢
              trivial
        · intro x w1 bA hT hdep hold hb
          refine ⟨fun _ => ?_, fun h => absurd h (by decide)⟩
          refine .inl ⟨trivial, ?_⟩
          have e1 : bA.tmps[1]?.getD undef = .pointer (some ⟨gp, 0, none⟩) := hb 1
          have cc0 := (HQP7.out.below hT HQP7.out.lt).cell 0
          have cc1 := (HQP7.out.below hT HQP7.out.lt).cell 1
          refine phx_run (.agg #[.bool b2, .slice A2 n2 c2]) ?_ (Below.refl _ _) rfl
          clear hb hdep hold
          go_simp
        · intro x w1 bA hT hdep hold hb
          refine ⟨fun _ => ?_, fun h => absurd h (by decide)⟩
          refine .inl ⟨trivial, ?_⟩
          have e1 : bA.tmps[1]?.getD undef = .pointer (some ⟨gp, 0, none⟩) := hb 1
          have cc0 := (HQP7.out.below hT HQP7.out.lt).cell 0
          have cc1 := (HQP7.out.below hT HQP7.out.lt).cell 1
          refine phx_run (.agg #[.bool b2, .slice A2 n2 c2]) ?_ (Below.refl _ _) rfl
          clear hb hdep hold
          go_simp
        · intro x w1 bA hT hdep hold hb
          refine ⟨fun _ => ?_, fun h => absurd h (by decide)⟩
          refine .inl ⟨trivial, ?_⟩
          have e18 : bA.tmps[18]?.getD undef = .agg #[.bool b2, .slice A2 n2 c2] := (hb 18).trans (hdep 1 (by decide))
          refine phx_call ?_ ((HLO2.out w1 _ (HP7.out.below hT)).mono fun e w' h => ⟨_, h.1, h.2, rfl⟩)
          clear hb hdep hold
          go_simp
        · intro x w1 bA hT hdep hold hb
          refine ⟨fun _ => ?_, fun h => absurd h (by decide)⟩
          refine .inl ⟨trivial, ?_⟩
          have e19 : bA.tmps[19]?.getD undef = .int .i64 lo := (hb 19).trans (hdep 2 (by decide))
          have zz := HNW.out
          refine phx_run (.int .i64 (-lo)) ?_ (Below.refl _ _) rfl
          clear hb hdep hold
          go_simp
        · intro x w1 bA hT hdep hold hb
          refine ⟨fun _ => ?_, fun h => absurd h (by decide)⟩
          refine .inl ⟨trivial, ?_⟩
          have e17 : bA.tmps[17]?.getD undef = .agg #[.bool b2, .slice A2 n2 c2] := (hb 17).trans (hdep 0 (by decide))
          have e20 : bA.tmps[20]?.getD undef = .int .i64 (-lo) := (hb 20).trans (hdep 3 (by decide))
          refine phx_call ?_ ((HSH.out w1 _ (HP7.out.below hT)).mono fun e w' h => (by obtain ⟨v, he, hv, hb'⟩ := h; exact ⟨v, he, hb', hv⟩))
          clear hb hdep hold
          go_simp
        · intro x w1 bA hT hdep hold hb
          refine ⟨fun h => absurd h (by decide), fun _ hall => ?_⟩
          refine ⟨trivial, ?_⟩
          have e2 : bA.tmps[2]?.getD undef = .pointer (some ⟨gr_, 0, none⟩) := hb 2
          have e21 : bA.tmps[21]?.getD undef = x 4 := hb 21
          have p21 := Lib.hid (show (fun v w => PolyV w v res) (x 4) w1 from hall 4 (by decide))
          clear hb hdep hold
          obtain ⟨bz, Az, nz, cz, e21b, -, -⟩ := p21.out.parts
          rw [e21b] at e21
          have HPV := Lib.hid (e21b ▸ p21.out)
          have q5 := HQR7.out.below hT HQR7.out.lt
          have Q5b := Lib.hid q5
          have f0 := q5.frozen 0
          have f1 := q5.frozen 1
          have c0 := q5.cell 0
          have c1 := q5.cell 1
          have HBL := Lib.hid (HBW7.out.trans (hT.mono HBW7.out.size))
          clear q5 e21b p21 hT
          refine phx_st (R := fun W => ∃ (b : Bool) (A : Option Addr) (n c : Nat), Arr W gr_ 40 [.bool b, .slice A n c] ∧ PolyV W (.agg #[.bool b, .slice A n c]) res ∧ Below w.heap.size w W) ((w1.setCell ⟨gr_, 0, none⟩ (.bool bz)).setCell ⟨gr_, 1, none⟩ (.slice Az nz cz)) ?_ rfl ⟨bz, Az, nz, cz, (Q5b.out.set 0 _).set 1 _, HPV.out.box Q5b.out _ _, (HBL.out.setCell (p := ⟨gr_, 0, none⟩) HG.out.2.1 _).setCell (p := ⟨gr_, 1, none⟩) HG.out.2.1 _⟩
          go_simp
        intro x9 w9 hR
        simp only [putAll, dstOf, Act.put, List.map_cons, List.map_nil, List.setIfInBounds_toArray, List.set_cons_succ, List.set_cons_zero, Nat.reduceAdd]
        obtain ⟨bz, Az, nz, cz, h1, h2, h3⟩ := hR
        have H1 := Lib.hid h1
        have H2 := Lib.hid h2
        have H3 := Lib.hid h3
        clear h1 h2 h3
        go_wp2_with fail
        refine bodyPost_ret (v := .agg #[.bool bz, .slice Az nz cz]) (results_c Tryz.results29 _ _ gr_ 40 _ _ rfl H1.out Tryz.underlying40 rfl info_poly) rfl ?_
        exact ⟨_, rfl, by rw [← HRE.out]; exact H2.out, H3.out⟩
      · rw [if_neg hneg] at HNS
        have HQP7 := HQP6
        have HQR7 := HQR6
        have HBW7 := HBW6
        have HP7 := Lib.hid (show PolyV w6 (.agg #[.bool b1, .slice A n c]) (some l2) by rw [HNS.out]; exact HP6.out)
        have HOK2 := Lib.hid (show okP (some l2) by rw [HNS.out]; exact HOKL.out)
        have HLL2 := Lib.hid (show lowL l2 = lo by rw [HNS.out]; exact HLOE.out.symm)
        clear HQP6 HQR6 HP6 HBW6 hsz6
        go_wp2_with fail
        go_upto_region 5 with fail
        generalize w6 = w8 at *
        have HLO2 := Lib.hid (fun W v (h : PolyV W v (some l2)) => (show Calls Tryz.prog 46 #[v] W (fun e w' => e = .returned (.int .i64 lo) ∧ Below W.heap.size W w') from by
          have h1 := Low_any v (some l2) W h HOK2.out
          rw [show lowL ((some l2 : Pol).getD []) = lo from HLL2.out] at h1
          exact h1))
        have HSH := Lib.hid (fun W v (h : PolyV W v (some l2)) => (show Calls Tryz.prog 48 #[v, .int .i64 (-lo)] W (fun e w' => ∃ v, e = .returned v ∧ PolyV w' v res ∧ Below W.heap.size W w') from by
          have h1 := Shift_any v (some l2) (-lo) W h HOK2.out (by omega)
          rw [← HNOR.out] at h1
          exact h1))
        have HNW := Lib.hid (show IntKind.i64.wrap (-lo) = -lo from IntWalk.i64_in _ (by omega))
        refine wp_region_phx (fun a b => Below a.heap.size a b) (fun h k => h.trans (k.mono h.size)) ((Below.refl _ _).drew) 5 (by kernel_rfl) (by kernel_rfl) (by kernel_rfl) (by kernel_rfl) rfl (by kernel_rfl) (phiT (fun i => ([some (.agg #[.bool b1, .slice A n c]), some (.agg #[.bool b1, .slice A n c]), some (.int .i64 lo), some (.int .i64 (-lo)), none, some (undef)] : List (Option Value)).getD i none) (fun i v w => (if i = 4 then (fun v w => PolyV w v res) v w else True))) (fun i v w w' h hb => ?_) (fun _ W => ∃ (b : Bool) (A : Option Addr) (n c : Nat), Arr W gr_ 40 [.bool b, .slice A n c] ∧ PolyV W (.agg #[.bool b, .slice A n c]) res ∧ Below w.heap.size w W) ⟨?_, ?_, ?_, ?_, ?_, ?_, trivial⟩ ?_
        · unfold phiT at h ⊢
          split
          · next u hu => rw [hu] at h; exact h
          · next hu =>
            rw [hu] at h
            simp only at h ⊢
            by_cases q4 : i = 4
            · rw [if_pos q4] at h ⊢; exact PolyV.below h hb
            · rw [if_neg q4] at h ⊢
              trivial
        · intro x w1 bA hT hdep hold hb
          refine ⟨fun _ => ?_, fun h => absurd h (by decide)⟩
          refine .inl ⟨trivial, ?_⟩
          have e1 : bA.tmps[1]?.getD undef = .pointer (some ⟨gp, 0, none⟩) := hb 1
          have cc0 := (HQP7.out.below hT HQP7.out.lt).cell 0
          have cc1 := (HQP7.out.below hT HQP7.out.lt).cell 1
          refine phx_run (.agg #[.bool b1, .slice A n c]) ?_ (Below.refl _ _) rfl
          clear hb hdep hold
          go_simp
        · intro x w1 bA hT hdep hold hb
          refine ⟨fun _ => ?_, fun h => absurd h (by decide)⟩
          refine .inl ⟨trivial, ?_⟩
          have e1 : bA.tmps[1]?.getD undef = .pointer (some ⟨gp, 0, none⟩) := hb 1
          have cc0 := (HQP7.out.below hT HQP7.out.lt).cell 0
          have cc1 := (HQP7.out.below hT HQP7.out.lt).cell 1
          refine phx_run (.agg #[.bool b1, .slice A n c]) ?_ (Below.refl _ _) rfl
          clear hb hdep hold
          go_simp
        · intro x w1 bA hT hdep hold hb
          refine ⟨fun _ => ?_, fun h => absurd h (by decide)⟩
          refine .inl ⟨trivial, ?_⟩
          have e18 : bA.tmps[18]?.getD undef = .agg #[.bool b1, .slice A n c] := (hb 18).trans (hdep 1 (by decide))
          refine phx_call ?_ ((HLO2.out w1 _ (HP7.out.below hT)).mono fun e w' h => ⟨_, h.1, h.2, rfl⟩)
          clear hb hdep hold
          go_simp
        · intro x w1 bA hT hdep hold hb
          refine ⟨fun _ => ?_, fun h => absurd h (by decide)⟩
          refine .inl ⟨trivial, ?_⟩
          have e19 : bA.tmps[19]?.getD undef = .int .i64 lo := (hb 19).trans (hdep 2 (by decide))
          have zz := HNW.out
          refine phx_run (.int .i64 (-lo)) ?_ (Below.refl _ _) rfl
          clear hb hdep hold
          go_simp
        · intro x w1 bA hT hdep hold hb
          refine ⟨fun _ => ?_, fun h => absurd h (by decide)⟩
          refine .inl ⟨trivial, ?_⟩
          have e17 : bA.tmps[17]?.getD undef = .agg #[.bool b1, .slice A n c] := (hb 17).trans (hdep 0 (by decide))
          have e20 : bA.tmps[20]?.getD undef = .int .i64 (-lo) := (hb 20).trans (hdep 3 (by decide))
          refine phx_call ?_ ((HSH.out w1 _ (HP7.out.below hT)).mono fun e w' h => (by obtain ⟨v, he, hv, hb'⟩ := h; exact ⟨v, he, hb', hv⟩))
          clear hb hdep hold
          go_simp
        · intro x w1 bA hT hdep hold hb
          refine ⟨fun h => absurd h (by decide), fun _ hall => ?_⟩
          refine ⟨trivial, ?_⟩
          have e2 : bA.tmps[2]?.getD undef = .pointer (some ⟨gr_, 0, none⟩) := hb 2
          have e21 : bA.tmps[21]?.getD undef = x 4 := hb 21
          have p21 := Lib.hid (show (fun v w => PolyV w v res) (x 4) w1 from hall 4 (by decide))
          clear hb hdep hold
          obtain ⟨bz, Az, nz, cz, e21b, -, -⟩ := p21.out.parts
          rw [e21b] at e21
          have HPV := Lib.hid (e21b ▸ p21.out)
          have q5 := HQR7.out.below hT HQR7.out.lt
          have Q5b := Lib.hid q5
          have f0 := q5.frozen 0
          have f1 := q5.frozen 1
          have c0 := q5.cell 0
          have c1 := q5.cell 1
          have HBL := Lib.hid (HBW7.out.trans (hT.mono HBW7.out.size))
          clear q5 e21b p21 hT
          refine phx_st (R := fun W => ∃ (b : Bool) (A : Option Addr) (n c : Nat), Arr W gr_ 40 [.bool b, .slice A n c] ∧ PolyV W (.agg #[.bool b, .slice A n c]) res ∧ Below w.heap.size w W) ((w1.setCell ⟨gr_, 0, none⟩ (.bool bz)).setCell ⟨gr_, 1, none⟩ (.slice Az nz cz)) ?_ rfl ⟨bz, Az, nz, cz, (Q5b.out.set 0 _).set 1 _, HPV.out.box Q5b.out _ _, (HBL.out.setCell (p := ⟨gr_, 0, none⟩) HG.out.2.1 _).setCell (p := ⟨gr_, 1, none⟩) HG.out.2.1 _⟩
          go_simp
        intro x9 w9 hR
        simp only [putAll, dstOf, Act.put, List.map_cons, List.map_nil, List.setIfInBounds_toArray, List.set_cons_succ, List.set_cons_zero, Nat.reduceAdd]
        obtain ⟨bz, Az, nz, cz, h1, h2, h3⟩ := hR
        have H1 := Lib.hid h1
        have H2 := Lib.hid h2
        have H3 := Lib.hid h3
        clear h1 h2 h3
        go_wp2_with fail
        refine bodyPost_ret (v := .agg #[.bool bz, .slice Az nz cz]) (results_c Tryz.results29 _ _ gr_ 40 _ _ rfl H1.out Tryz.underlying40 rfl info_poly) rfl ?_
        exact ⟨_, rfl, by rw [← HRE.out]; exact H2.out, H3.out⟩
end Go.Proofs.YtbkgpfalljgdcaaGreatDoor
