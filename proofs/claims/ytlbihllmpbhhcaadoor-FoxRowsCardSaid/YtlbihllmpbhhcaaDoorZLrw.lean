/- FoxRows: the law's walk. -/
import Derived.Test.YtlbihllmpbhhcaaDoorZArx
namespace Go.Proofs.YtlbihllmpbhhcaaDoor
open Go.RowKit
set_option linter.unusedVariables false

theorem WofR.keepE {W W' : World} {v : Value} (h : WofR W v) (hk : KeepE 41 W W') : WofR W' v := by
  obtain ⟨n, vc, vs, comp, wss, h1, h2, h3⟩ := h
  exact ⟨n, vc, vs, comp, wss, h1, fun W2 hk2 => h2 W2 (hk.trans hk2), h3⟩
/-- the group that wirtinger.Of returns -/
def WofV (b : Bool) (W : World) (v : Value) : Prop := ∃ (n : Int) (Ag : Option Addr) (kg eg : Nat) (Ah : Option Addr) (kh eh : Nat), v = .agg #[.int .i64 n, .slice Ag kg eg, .slice Ah kh eh] ∧ (b = true → WofR W v)
theorem WofV.keepE {b : Bool} {W W' : World} {v : Value} (h : WofV b W v) (hk : KeepE 41 W W') : WofV b W' v := by
  obtain ⟨n, x1, x2, x3, x4, x5, x6, h1, h2⟩ := h
  exact ⟨n, x1, x2, x3, x4, x5, x6, h1, fun hb => (h2 hb).keepE hk⟩
theorem WofV.below {b : Bool} {W W' : World} {v : Value} (h : WofV b W v) (hk : Below W.heap.size W W') : WofV b W' v := h.keepE (KeepE.below hk)
theorem wof_any (vs vm : Value) (S M : List Int) (L : Int) (w : World) (hS : Ints w vs S) (hM : Ints w vm M) :
    Calls Tryd.prog 30 #[.agg #[vs, vm, .int .i64 L]] w fun e w' => ∃ v, e = .returned (.tuple #[v, .int .i64 (if valB S M L = true then 0 else 1)]) ∧ WofV (valB S M L) w' v ∧ Below w.heap.size w w' := by
  cases hv : valB S M L with
  | true =>
    refine (wof_ok vs vm S M L w hS hM hv).mono ?_
    rintro e w' ⟨v, rfl, h1, h2⟩
    refine ⟨v, rfl, ?_, h2⟩
    obtain ⟨n, vc, vg, comp, wss, e1, h3, -⟩ := id h1
    obtain ⟨⟨Ag, eg, e2, -⟩, ⟨Ah, eh, e3, -⟩⟩ := h3 w' (KeepE.below (Below.refl _ _))
    exact ⟨n, Ag, _, eg, Ah, _, eh, by rw [e1, e2, e3], fun _ => h1⟩
  | false =>
    refine (wof_bad vs vm S M L w hS hM hv).mono ?_
    rintro e w' ⟨rfl, h2⟩
    exact ⟨_, rfl, ⟨0, none, 0, 0, none, 0, 0, rfl, fun h => Bool.noConfusion h⟩, h2⟩
/-- the derivative by a generator, as a value -/
def DerV (W : World) (v : Value) (n j : Nat) (ws : List Int) : Prop := ∃ r, PolyV W v (some r) ∧ Can r ∧ Lim r ∧ ∀ e, cf r e = dF (List.replicate n 1) (j : Int) ws e
theorem DerV.below {W W' : World} {v : Value} {n j : Nat} {ws : List Int} (h : DerV W v n j ws) (hb : Below W.heap.size W W') : DerV W' v n j ws := by
  obtain ⟨r, h1, h2⟩ := h
  exact ⟨r, h1.below hb, h2⟩
theorem DerV.keepE {T : TypeId} {W W' : World} {v : Value} {n j : Nat} {ws : List Int} (h : DerV W v n j ws) (hk : KeepE T W W') (hne : 77 ≠ T) : DerV W' v n j ws := by
  obtain ⟨r, h1, h2⟩ := h
  exact ⟨r, h1.keepE hk hne, h2⟩

set_option maxHeartbeats 4000000 in
set_option maxRecDepth 100000 in
theorem rows_law (vs vm : Value) (S M : List Int) (L : Int) (w : World) (hS : Ints w vs S) (hM : Ints w vm M) (lS : S.length ≤ 9223372036854775807) (ht : Tb w) :
    Calls Tryd.prog 8 #[.agg #[vs, vm, .int .i64 L]] w fun e w' => e = .returned (.bool true) ∧ Below w.heap.size w w' := by
  have HT := Lib.hid (fun W (hb : Below w.heap.size w W) => ht.below hb)
  have HOF := Lib.hid (fun W (hb : Below w.heap.size w W) => wof_any vs vm S M L W (hS.below hb) (hM.below hb))
  obtain ⟨A1, c1, rfl, -, -⟩ := hS
  obtain ⟨A2, c2, rfl, -, -⟩ := hM
  have HL64 := Lib.hid (show valB S M L = true → L ≤ 64 from fun h => (valB_ok h).l1)
  obtain ⟨bv, hbv⟩ : ∃ b, b = valB S M L := ⟨_, rfl⟩
  obtain ⟨sl, hsl⟩ : ∃ m, m = S.length := ⟨_, rfl⟩
  obtain ⟨ml, hml⟩ : ∃ m, m = M.length := ⟨_, rfl⟩
  rw [← hbv] at HOF HL64
  rw [← hsl] at lS HOF ⊢
  rw [← hml] at HOF ⊢
  obtain ⟨ev, hev⟩ : ∃ e : Int, e = if bv = true then 0 else 1 := ⟨_, rfl⟩
  rw [← hev] at HOF
  have HEV := Lib.hid hev
  clear ht hbv hsl hml hev
  have hW : ∀ W, W = (w.alloc (.cells #[.slice A1 sl c1, .slice A2 ml c2, .int .i64 L] 61)) → Arr W w.heap.size 61 [.slice A1 sl c1, .slice A2 ml c2, .int .i64 L] ∧ Below w.heap.size w W := by
    intro W hW
    subst hW
    exact ⟨Arr.new _ _ [_, _, _], (Below.refl _ _).alloc (Nat.le_refl _) _⟩
  go_enter Tryd.func8, Tryd.ntmps8
  go_upto_region 1 with fail
  generalize (w.alloc (.cells #[.slice A1 sl c1, .slice A2 ml c2, .int .i64 L] 61)) = w3 at hW ⊢
  obtain ⟨qg, hb3⟩ := hW w3 rfl
  have HQ3 := Lib.hid qg
  have HB3 := Lib.hid hb3
  have HA := Lib.hid (awakeF_any w3 (HT.out w3 hb3))
  clear hW qg hb3
  go_upto_region 3 with (go_at_call 9; refine HA.out.mono ?_; rintro e w4 ⟨rfl, hb4⟩; have qg4 := HQ3.out.below hb4 HQ3.out.lt; have HG4 := Lib.hid qg4; have HB4 := Lib.hid (HB3.out.trans (hb4.mono HB3.out.size)); have y0 := qg4.cell 0; have y1 := qg4.cell 1; have y2 := qg4.cell 2; clear qg4 hb4)
  clear HA HQ3 HB3
  by_cases g1 : (sl : Int) > 9
  · go_wp2_with fail
    go_ret
    exact ⟨rfl, HB4.out⟩
  have hof5 := HOF
  by_cases g2 : L > 10
  · by_cases g3 : L ≤ 64
    · go_wp2_with fail
      go_ret
      exact ⟨rfl, HB4.out⟩
    · obtain rfl : bv = false := by
        cases bv with
        | false => rfl
        | true => exact absurd (HL64.out rfl) g3
      obtain rfl : ev = 1 := by simpa using HEV.out
      clear hof5
      have HOF := Lib.hid (fun W (hb : Below w4.heap.size w4 W) => HOF.out W (HB4.out.trans (hb.mono HB4.out.size)))
      clear HL64 HEV
      go_wp2_with (go_at_call 30; refine (HOF.out w4 (Below.refl _ _)).mono ?_; rintro e w5 ⟨v, rfl, hof, hb5⟩; have HOFV := Lib.hid hof; obtain ⟨gv, Ag, kg, eg, Ah, kh, eh, rfl, -⟩ := hof; have HB5 := Lib.hid (HB4.out.trans (hb5.mono HB4.out.size)); clear hb5)
      go_ret
      exact ⟨rfl, HB5.out.alloc HB5.out.size _⟩
  clear hof5
  have HOF := Lib.hid (fun W (hb : Below w4.heap.size w4 W) => HOF.out W (HB4.out.trans (hb.mono HB4.out.size)))
  go_upto_region 6 with (go_at_call 30; refine (HOF.out w4 (Below.refl _ _)).mono ?_; rintro e w5 ⟨v, rfl, hof, hb5⟩; have HOFV := Lib.hid hof; obtain ⟨gv, Ag, kg, eg, Ah, kh, eh, rfl, -⟩ := hof; have HB5 := Lib.hid (HB4.out.trans (hb5.mono HB4.out.size)); clear hb5)
  have hq5 : Arr (w5.alloc (.cells #[.int .i64 gv, .slice Ag kg eg, .slice Ah kh eh] 41)) w5.heap.size 41 [.int .i64 gv, .slice Ag kg eg, .slice Ah kh eh] ∧ Below w5.heap.size w5 (w5.alloc (.cells #[.int .i64 gv, .slice Ag kg eg, .slice Ah kh eh] 41)) := ⟨Arr.new _ _ [_, _, _], (Below.refl _ _).alloc (Nat.le_refl _) _⟩
  generalize (w5.alloc (.cells #[.int .i64 gv, .slice Ag kg eg, .slice Ah kh eh] 41)) = w5b at *
  obtain ⟨ag, hb5b⟩ := hq5
  have hof := HOFV.out.below hb5b
  have hb5c := HB5.out.trans (hb5b.mono HB5.out.size)
  generalize w5.heap.size = g5 at *
  clear HB5 HOFV hb5b y0 y1 y2 HOF
  clear w5
  obtain ⟨w5, rfl⟩ : ∃ W : World, W = w5b := ⟨_, rfl⟩
  have HB5 := Lib.hid hb5c
  clear hb5c
  cases bv with
  | false =>
    obtain rfl : ev = 1 := by simpa using HEV.out
    clear ag hof HEV HL64
    go_wp2_with fail
    go_ret
    exact ⟨rfl, HB5.out⟩
  | true =>
    obtain rfl : ev = 0 := by simpa using HEV.out
    clear HEV HL64
    obtain ⟨_, _, _, _, _, _, _, _, hofr⟩ := hof
    obtain ⟨n, vc2, vg2, comp, wss, e1, hk, hv, hl, hr⟩ := hofr rfl
    obtain ⟨rfl, rfl, rfl⟩ : gv = (n : Int) ∧ .slice Ag kg eg = vc2 ∧ .slice Ah kh eh = vg2 := by simpa using e1
    have hck := hk w5 (KeepE.below (Below.refl _ _))
    have HMB := Lib.hid (fmatrix_any n (.slice Ag kg eg) (.slice Ah kh eh) comp wss w5 hck.1 hck.2 hv (by omega) (fun ws hw => by have := (hr ws hw).len; omega))
    have hn1000 : n ≤ 1000 := by have := (vldG_parts hv).2.1; omega
    have HN1000 := Lib.hid hn1000
    have HRL := Lib.hid hr
    obtain ⟨m, hm⟩ : ∃ m, m = wss.length := ⟨_, rfl⟩
    rw [← hm] at hl
    have HM := Lib.hid hm
    have HML := Lib.hid hl
    clear hofr e1 hk hv hr hck hn1000 hm hl
    have y0 := ag.cell 0
    have y1 := ag.cell 1
    have y2 := ag.cell 2
    clear ag
    go_upto_region 9 with (go_at_call 17; refine HMB.out.mono ?_; rintro e w6 ⟨v6, N, rfl, hmat, hb6⟩; have HB6 := Lib.hid (HB5.out.trans (hb6.mono HB5.out.size)); clear hb6 y0 y1 y2)
    have HMT := Lib.hid hmat
    obtain ⟨ss, hsl, hoz, -⟩ := hmat
    obtain ⟨A5, c5, rfl⟩ := hoz.form
    have hsm : ss.length = m := by rw [hsl]; exact HM.out.symm
    rw [hsm] at HMT ⊢
    clear hsl hoz hsm HMB
    go_wp2_with fail
    go_loopg [8, 9, 10, 11, 13, 46] m (fun gk s8 s9 s10 s11 s13 s46 wr => ∃ k : Nat, k ≤ m ∧ gk = m - k ∧ s46 = .int .i64 (k : Int) ∧ Below w6.heap.size w6 wr)
    case atStart => exact ⟨0, Nat.zero_le _, rfl, rfl, Below.refl _ _⟩
    case round =>
      obtain ⟨k, hk, rfl, rfl, hbr⟩ := hrel
      have HBR := Lib.hid hbr
      clear hbr
      by_cases hlt : k < m
      · have z1 : (k : Int) < (m : Int) := by omega
        have hkl : k < wss.length := by have := HM.out; omega
        obtain ⟨b, o, sv, rfl, hcell, hrow⟩ := (HMT.out.below HBR.out).at_ hkl
        have hsl := hrow.len
        obtain ⟨s1, s2, s3⟩ := sv
        simp only at hsl
        subst hsl
        change wr.cell? ⟨b, o + k, none⟩ = some (.slice s1 s2 s3) at hcell
        have HRW := Lib.hid hrow
        clear hrow
        obtain ⟨ws, hws⟩ : ∃ ws, ws = wss[k] := ⟨_, rfl⟩
        rw [← hws] at HRW
        have HREL := Lib.hid (show RelIs s2 ws from hws ▸ HRL.out _ (List.getElem_mem hkl))
        clear hws
        go_upto_region 15 with fail
        have h9 : Arr (wr.alloc (.cells #[.bool false, .slice none 0 0] 27)) wr.heap.size 27 [.bool false, .slice none 0 0] ∧ Below wr.heap.size wr (wr.alloc (.cells #[.bool false, .slice none 0 0] 27)) := ⟨Arr.new _ _ [_, _], (Below.refl _ _).alloc (Nat.le_refl _) _⟩
        clear hcell
        have HSZ := Lib.hid (show wr.heap.size < (wr.alloc (.cells #[.bool false, .slice none 0 0] 27)).heap.size by simp)
        generalize (wr.alloc (.cells #[.bool false, .slice none 0 0] 27)) = w9 at *
        obtain ⟨hs9, hb9⟩ := h9
        obtain ⟨wC, rfl⟩ : ∃ W : World, W = wr := ⟨_, rfl⟩
        obtain ⟨sb, hsb⟩ : ∃ b, b = wC.heap.size := ⟨_, rfl⟩
        rw [← hsb] at hs9 HSZ ⊢
        have HSC := Lib.hid (show wC.heap.size ≤ sb from Nat.le_of_eq hsb.symm)
        clear hsb
        have HS9 := Lib.hid hs9
        have HB9 := Lib.hid hb9
        clear hs9 hb9
        go_wp2_with fail
        go_loopg [10, 11, 13, 52] s2 (fun gk s10 s11 s13 s52 wr => ∃ (j : Nat) (P Q : Int) (b9 : Bool) (A9 : Option Addr) (n9 c9 : Nat), j ≤ s2 ∧ gk = s2 - j ∧ s52 = .int .i64 (j : Int) ∧ s10 = .int .i64 P ∧ s11 = .int .i64 Q ∧ Arr wr sb 27 [.bool b9, .slice A9 n9 c9] ∧ SumJ wr (.agg #[.bool b9, .slice A9 n9 c9]) s2 ws j ∧ Hid (PmN s2 ws j P Q) ∧ Below wC.heap.size wC wr)
        case atStart => exact ⟨0, 0, 0, false, none, 0, 0, Nat.zero_le _, rfl, rfl, rfl, rfl, HS9.out, SumJ.zero _ _ _, Lib.hid (PmN.start HREL.out), HB9.out⟩
        case round =>
          obtain ⟨j, P, Q, b9, A9, n9, c9, hj, rfl, rfl, rfl, rfl, hsa, hsr, HPM, hbc⟩ := hrel
          have HSA := Lib.hid hsa
          have HSR := Lib.hid hsr
          have HBC := Lib.hid hbc
          clear hsa hsr hbc
          by_cases hlt2 : j < s2
          · have z2 : (j : Int) < (s2 : Int) := by omega
            obtain ⟨b2, o2, ⟨p1, p2, p3, p4⟩, hs1, yc0, yc1, hder⟩ := (HRW.out.below HBC.out).at_ hlt2
            simp only at hs1 yc0 yc1
            subst hs1
            have HDR := Lib.hid (show DerV wr (.agg #[.bool p1, .slice p2 p3 p4]) s2 j ws from hder)
            clear hder
            go_upto_region 19 with fail
            have h10 : Arr (wr.alloc (.cells #[.bool p1, .slice p2 p3 p4] 27)) wr.heap.size 27 [.bool p1, .slice p2 p3 p4] ∧ Below wr.heap.size wr (wr.alloc (.cells #[.bool p1, .slice p2 p3 p4] 27)) := ⟨Arr.new _ _ [_, _], (Below.refl _ _).alloc (Nat.le_refl _) _⟩
            clear yc0 yc1
            generalize (wr.alloc (.cells #[.bool p1, .slice p2 p3 p4] 27)) = w10 at *
            obtain ⟨hp10, hb10⟩ := h10
            obtain ⟨pb, hpb⟩ : ∃ b, b = wr.heap.size := ⟨_, rfl⟩
            rw [← hpb] at hp10 ⊢
            have HNE := Lib.hid (show pb ≠ sb from fun e => by have := HSA.out.lt; omega)
            have HPB := Lib.hid hp10
            have HSB := Lib.hid (HSA.out.below hb10 HSA.out.lt)
            have HDV := Lib.hid (HDR.out.below hb10)
            have HSV := Lib.hid (HSR.out.below hb10)
            have hbc10 := HBC.out.trans (hb10.mono HBC.out.size)
            clear HBC
            have HBC := Lib.hid hbc10
            clear hbc10 hp10 hb10 hpb HDR
            have HADD := Lib.hid (fun W (hb : Below w10.heap.size w10 W) => sum_add HREL.out HN1000.out hlt2 (.agg #[.bool b9, .slice A9 n9 c9]) (.agg #[.bool p1, .slice p2 p3 p4]) W (HSV.out.below hb) (HDV.out.below hb))
            have c0 := HSB.out.cell 0
            have c1 := HSB.out.cell 1
            have d0 := HPB.out.cell 0
            have d1 := HPB.out.cell 1
            go_upto_region 20 with (go_at_call 23; refine (HADD.out w10 (Below.refl _ _)).mono ?_; rintro e w11 ⟨bz, Az, nz, cz, rfl, hs, hb11⟩; have HS5 := Lib.hid hs; have q5 := HSB.out.below hb11 HSB.out.lt; have HQ5 := Lib.hid q5; have HP5 := Lib.hid (HPB.out.below hb11 HPB.out.lt); have HD5 := Lib.hid (HDV.out.below hb11); have HBL := Lib.hid (HBC.out.trans (hb11.mono HBC.out.size)); clear c0 c1 d0 d1; have c0 := q5.cell 0; have c1 := q5.cell 1; have f0 := q5.frozen 0; have f1 := q5.frozen 1; clear q5 hs hb11)
            have HKE := Lib.hid (show KeepE 27 w11 ((w11.setCell ⟨sb, 0, none⟩ (.bool bz)).setCell ⟨sb, 1, none⟩ (.slice Az nz cz)) from (KeepE.set HQ5.out _).trans (KeepE.set (HQ5.out.set 0 _) _))
            have hs11 := (HQ5.out.set 0 (.bool bz)).set 1 (.slice Az nz cz)
            have hsu11 := HS5.out.keepE HKE.out (by decide)
            have hp11 := (HP5.out.far (p := ⟨sb, 0, none⟩) HNE.out (.bool bz)).far (p := ⟨sb, 1, none⟩) HNE.out (.slice Az nz cz)
            have hd11 := HD5.out.keepE HKE.out (by decide)
            have hbc11 := (HBL.out.setCell (p := ⟨sb, 0, none⟩) HSC.out (.bool bz)).setCell (p := ⟨sb, 1, none⟩) HSC.out (.slice Az nz cz)
            clear HKE HQ5 HP5 HD5 HBL HS5 c0 c1 f0 f1
            change Arr _ sb 27 [.bool bz, .slice Az nz cz] at hs11
            generalize ((w11.setCell ⟨sb, 0, none⟩ (.bool bz)).setCell ⟨sb, 1, none⟩ (.slice Az nz cz)) = w12 at *
            clear w11
            obtain ⟨w11, rfl⟩ : ∃ W : World, W = w12 := ⟨_, rfl⟩
            have HS11 := Lib.hid hs11
            have HSU11 := Lib.hid hsu11
            have HBC11 := Lib.hid hbc11
            have HAUG := Lib.hid (aug_rel HREL.out HN1000.out j (.agg #[.bool p1, .slice p2 p3 p4]) w11 hd11)
            have c0 := hp11.cell 0
            have c1 := hp11.cell 1
            have hPQ := HPM.out.bd
            have hs2 : s2 ≤ 1000 := HN1000.out
            clear hs11 hsu11 hbc11 hp11 hd11 HADD HSV HDV HSB HPB HNE HSA HSR HBC
            rcases HPM.out.step with ⟨hE, hpm2⟩ | ⟨hE, hpm2⟩ | ⟨hE, hpm2⟩
            · have HPM2 := Lib.hid hpm2
              clear hpm2 HPM
              have HAU := Lib.hid (show Calls Tryd.prog 28 #[.agg #[.bool p1, .slice p2 p3 p4]] w11 (fun e w' => e = .returned (.int .i64 (0)) ∧ Below w11.heap.size w11 w') from hE ▸ HAUG.out)
              clear HAUG hE
              go_wp2_with (go_at_call 28; refine HAU.out.mono ?_; rintro e w12 ⟨rfl, hb12⟩; have HB12 := Lib.hid hb12; clear hb12)
              go_roundg (s2 - (j + 1))
              case measure => omega
              case rel => exact ⟨j + 1, P, Q, bz, Az, nz, cz, by omega, rfl, by go_num, by go_num, by go_num, HS11.out.below HB12.out HS11.out.lt, HSU11.out.below HB12.out, HPM2, HBC11.out.trans (HB12.out.mono HBC11.out.size)⟩
            · have HPM2 := Lib.hid hpm2
              clear hpm2 HPM
              have HAU := Lib.hid (show Calls Tryd.prog 28 #[.agg #[.bool p1, .slice p2 p3 p4]] w11 (fun e w' => e = .returned (.int .i64 (1)) ∧ Below w11.heap.size w11 w') from hE ▸ HAUG.out)
              clear HAUG hE
              go_wp2_with (go_at_call 28; refine HAU.out.mono ?_; rintro e w12 ⟨rfl, hb12⟩; have HB12 := Lib.hid hb12; clear hb12)
              go_roundg (s2 - (j + 1))
              case measure => omega
              case rel => exact ⟨j + 1, P + 1, Q, bz, Az, nz, cz, by omega, rfl, by go_num, by go_num, by go_num, HS11.out.below HB12.out HS11.out.lt, HSU11.out.below HB12.out, HPM2, HBC11.out.trans (HB12.out.mono HBC11.out.size)⟩
            · have HPM2 := Lib.hid hpm2
              clear hpm2 HPM
              have HAU := Lib.hid (show Calls Tryd.prog 28 #[.agg #[.bool p1, .slice p2 p3 p4]] w11 (fun e w' => e = .returned (.int .i64 (-1)) ∧ Below w11.heap.size w11 w') from hE ▸ HAUG.out)
              clear HAUG hE
              go_wp2_with (go_at_call 28; refine HAU.out.mono ?_; rintro e w12 ⟨rfl, hb12⟩; have HB12 := Lib.hid hb12; clear hb12)
              go_roundg (s2 - (j + 1))
              case measure => omega
              case rel => exact ⟨j + 1, P, Q + 1, bz, Az, nz, cz, by omega, rfl, by go_num, by go_num, by go_num, HS11.out.below HB12.out HS11.out.lt, HSU11.out.below HB12.out, HPM2, HBC11.out.trans (HB12.out.mono HBC11.out.size)⟩
          · have z2 : ¬ (j : Int) < (s2 : Int) := by omega
            obtain rfl : j = s2 := by omega
            have hPQ := HPM.out.bd
            obtain rfl : P = Q := HPM.out.fin
            have HNIL := Lib.hid (HSR.out.nil HREL.out)
            have HSB := Lib.hid HSA.out
            have HZE := Lib.hid (fun W (hb : Below wr.heap.size wr W) => Zero_any (.agg #[.bool b9, .slice A9 n9 c9]) (some []) W (HNIL.out.below hb) ⟨Can.nil, Lim.nil⟩)
            have HBI := Lib.hid (fun W (hb : Below wr.heap.size wr W) => Big_any (.agg #[.bool b9, .slice A9 n9 c9]) (some []) W (HNIL.out.below hb))
            simp only [zeroB, Option.isNone] at HZE HBI
            clear HPM HSA HSR
            have hP01 : P = 0 ∨ P = 1 := by omega
            have hm64 : m ≤ 64 := HML.out
            clear hPQ
            have c0 := HSB.out.cell 0
            have c1 := HSB.out.cell 1
            rcases hP01 with rfl | rfl
            · go_wp2_with (first
                | (go_at_call 13; refine (HZE.out wr (Below.refl _ _)).mono ?_; rintro e w13 ⟨rfl, hb13⟩; have q5 := HSB.out.below hb13 HSB.out.lt; have HB13 := Lib.hid hb13; clear c0 c1; have c0 := q5.cell 0; have c1 := q5.cell 1; clear q5 hb13)
                | (go_at_call 27; refine (HBI.out w13 HB13.out).mono ?_; rintro e w14 ⟨rfl, hb14⟩; have HB14 := Lib.hid (HB13.out.trans (hb14.mono HB13.out.size)); clear c0 c1 hb14))
              go_roundg (m - (k + 1))
              case measure => omega
              case rel => exact ⟨k + 1, by omega, rfl, by go_num, HBR.out.trans ((HBC.out.trans (HB14.out.mono HBC.out.size)).mono HBR.out.size)⟩
            · go_wp2_with (first
                | (go_at_call 13; refine (HZE.out wr (Below.refl _ _)).mono ?_; rintro e w13 ⟨rfl, hb13⟩; have q5 := HSB.out.below hb13 HSB.out.lt; have HB13 := Lib.hid hb13; clear c0 c1; have c0 := q5.cell 0; have c1 := q5.cell 1; clear q5 hb13)
                | (go_at_call 27; refine (HBI.out w13 HB13.out).mono ?_; rintro e w14 ⟨rfl, hb14⟩; have HB14 := Lib.hid (HB13.out.trans (hb14.mono HB13.out.size)); clear c0 c1 hb14))
              go_roundg (m - (k + 1))
              case measure => omega
              case rel => exact ⟨k + 1, by omega, rfl, by go_num, HBR.out.trans ((HBC.out.trans (HB14.out.mono HBC.out.size)).mono HBR.out.size)⟩
      · have z1 : ¬ (k : Int) < (m : Int) := by omega
        go_wp2_with fail
        go_ret
        exact ⟨rfl, HB6.out.trans (HBR.out.mono HB6.out.size)⟩
end Go.Proofs.YtlbihllmpbhhcaaDoor
