/- bivariate.Flip. -/
/- Flip of a polynomial told by a list of terms. -/
/- bivariate.Shift. -/
import Derived.Test.YtbfggncmjdhapaaGreatDoorZBof
namespace Go.Proofs.YtbfggncmjdhapaaGreatDoor
open Go.RowKit Go.Maps
set_option linter.unusedVariables false

/-- a flipped term: a becomes 1/a, z becomes -z -/
def flT (t : T2) : T2 := ((-t.1.1, t.1.2), if t.1.2.tmod 2 = 0 then t.2 else -t.2)
theorem cg2_fl (l : List T2) (e : K2) : cg2 (l.map flT) e = if e.2.tmod 2 = 0 then cg2 l (-e.1, e.2) else - cg2 l (-e.1, e.2) := by
  induction l with
  | nil => simp [cg2]
  | cons t l ih =>
    obtain ⟨⟨x, y⟩, c⟩ := t
    obtain ⟨e1, e2⟩ := e
    rw [List.map_cons, cg2_cons, cg2_cons, ih]
    simp only [flT, Prod.mk.injEq]
    by_cases h2 : y = e2
    · subst h2
      by_cases h1 : -x = e1
      · subst h1
        simp only [Int.neg_neg, and_self, if_true]
        split <;> omega
      · have h3 : ¬ x = -e1 := by omega
        simp only [h1, h3, false_and, if_false]
        split <;> omega
    · simp only [h2, and_false, if_false]
      split <;> omega
theorem flT_bd {l : List T2} (h : Lim2 l) : ∀ t ∈ l.map flT, (-1125899906842624 ≤ t.2 ∧ t.2 ≤ 1125899906842624) ∧ (-1048576 ≤ t.1.1 ∧ t.1.1 ≤ 1048576) ∧ (-1048576 ≤ t.1.2 ∧ t.1.2 ≤ 1048576) := fun t ht => by
  obtain ⟨s, hs, rfl⟩ := List.mem_map.1 ht
  have h1 := h.co s hs
  have h2 := h.ea s hs
  have h3 := h.ez s hs
  simp only [flT]
  refine ⟨?_, by omega, h3⟩
  split <;> omega
theorem hiS_out {l : List T2} {e : K2} (h : ∀ t ∈ l, t.1 ≠ e) : hiS l e = 0 ∧ loS l e = 0 := by
  unfold hiS loS
  constructor <;> refine cg2_out fun t ht => ?_ <;> obtain ⟨s, hs, rfl⟩ := List.mem_map.1 ht <;> exact h s hs
theorem fl_new {l : List T2} (k : Can2 l) {i : Nat} (hi : i < l.length) : ∀ t ∈ (l.take i).map flT, t.1 ≠ (-l[i].1.1, l[i].1.2) := fun t ht => by
  obtain ⟨s, hs, rfl⟩ := List.mem_map.1 ht
  obtain ⟨j, hj, rfl⟩ := List.mem_take_iff_getElem.1 hs
  have h1 := List.pairwise_iff_getElem.1 k.srt j i (by omega) hi (by omega)
  intro e
  simp only [flT, Prod.mk.injEq] at e
  unfold kb at h1
  omega
theorem fl_cb {l : List T2} (h : Lim2 l) : Cb (l.map flT) := fun t ht => by
  have := (flT_bd h t ht).1
  omega
theorem fl_kr {l : List T2} (h : Lim2 l) : Kr (l.map flT) := fun t ht => by
  have := (flT_bd h t ht).2
  exact ⟨by omega, by omega⟩
def FlipR (p : PolB) (w : World) (e : Ending) (w' : World) : Prop := ∃ v r, e = .returned v ∧ PolyB w' v r ∧ (∀ l, p = some l → GthP (cg2 (l.map flT)) r) ∧ (p = none → r = none) ∧ Below w.heap.size w w'
set_option maxHeartbeats 4000000 in
set_option maxRecDepth 100000 in
theorem bFlip_any (vp : Value) (p : PolB) (w : World) (hp : PolyB w vp p) (okp : okB2 p) (hl : lenB p ≤ 1000000) :
    Calls Tryz.prog 29 #[vp] w (FlipR p w) := by
  obtain ⟨A, c, rfl, hx⟩ := hp
  have HPT := Lib.hid (fun W (hb : Below w.heap.size w W) => hx.below hb)
  clear hx
  have hW : ∀ W, W = ((w.alloc (.cells #[.bool p.isNone, .slice A (p.getD []).length c] 27)).alloc (.cells #[.bool false, .slice none 0 0] 27)) → Arr W w.heap.size 27 [.bool p.isNone, .slice A (p.getD []).length c] ∧ Arr W (w.heap.size + 1) 27 [.bool false, .slice none 0 0] ∧ Below w.heap.size w W ∧ W.heap.size = w.heap.size + 2 := by
    intro W hW
    subst hW
    exact ⟨(Arr.new _ _ [_, _]).alloc _, Arr.newAt (w.alloc _) _ [_, _] _ (by simp), ((Below.refl _ _).alloc (Nat.le_refl _) _).alloc (by simp) _, by simp⟩
  go_enter Tryz.func29, Tryz.ntmps29
  go_upto_region 1 with fail
  generalize ((w.alloc (.cells #[.bool p.isNone, .slice A (p.getD []).length c] 27)).alloc (.cells #[.bool false, .slice none 0 0] 27)) = w3 at hW ⊢
  obtain ⟨qp, qr, hb3, hs3⟩ := hW w3 rfl
  clear hW
  have y0 := qp.cell 0
  have y1 := qp.cell 1
  cases p with
  | none =>
    have x0 := qr.cell 0
    have x1 := qr.cell 1
    have f0 := qr.frozen 0
    have f1 := qr.frozen 1
    change w3.cell? ⟨w.heap.size, 0, none⟩ = some (.bool true) at y0
    change w3.cell? ⟨w.heap.size, 1, none⟩ = some (.slice A 0 c) at y1
    have hres := Lib.hid ((qr.set 0 (.bool true)).set 1 (.slice A 0 c))
    have HB3 := Lib.hid hb3
    clear hs3 qp qr hb3
    go_wp2_with fail
    refine bodyPost_ret (v := .agg #[.bool true, .slice A 0 c]) (results_c Tryz.results29 _ _ (w.heap.size + 1) 27 _ _ rfl hres.out Tryz.underlying27 rfl info_polyB) rfl ?_
    exact ⟨_, none, rfl, ⟨A, c, rfl, ⟨A, c, rfl, fun k h => absurd h (Nat.not_lt_zero _)⟩⟩, fun l h => (by cases h), fun _ => rfl, (HB3.out.setCell (p := ⟨w.heap.size + 1, 0, none⟩) (by simp) _).setCell (p := ⟨w.heap.size + 1, 1, none⟩) (by simp) _⟩
  | some l =>
    have hll : l.length ≤ 1000000 := hl
    have HOK := Lib.hid okp
    clear okp hl
    change w3.cell? ⟨w.heap.size, 0, none⟩ = some (.bool false) at y0
    change w3.cell? ⟨w.heap.size, 1, none⟩ = some (.slice A l.length c) at y1
    have hmm := run_makeMapB
    have hW4 : ∀ W, W = w3.alloc (.map #[] 0) → MapB w3.heap.size [] W ∧ Below w.heap.size w W ∧ Arr W (w.heap.size + 1) 27 [.bool false, .slice none 0 0] ∧ TmB W (.slice A l.length c) l ∧ W.cell? ⟨w.heap.size, 1, none⟩ = some (.slice A l.length c) ∧ w.heap.size ≤ w3.heap.size := by
      intro W hW
      subst hW
      have h1 := hb3.alloc hb3.size (.map #[] 0)
      exact ⟨MapB.start w3, h1, qr.alloc _, HPT.out _ h1, (qp.alloc _).cell 1, hb3.size⟩
    have HW4 := Lib.hid hW4
    have HSQ := Lib.hid hs3
    clear hW4 qp qr hb3 hs3
    go_upto_region 4 with fail
    have hW4 := HW4.out
    generalize hw4 : w3.alloc (.map #[] 0) = w4 at hW4 ⊢
    obtain ⟨hm4, hb4, qr4, ht4, z1, hz4⟩ := hW4 w4 rfl
    have hg2 := HSQ.out
    obtain ⟨g, hg⟩ : ∃ g, g = w3.heap.size := ⟨_, rfl⟩
    rw [← hg] at hm4 hg2 hz4 ⊢
    have HBG := Lib.hid hz4
    have HNE := Lib.hid (show w.heap.size + 1 ≠ g by omega)
    have HB4 := Lib.hid hb4
    have HS4 := Lib.hid hb4.size
    have HST := Lib.hid (show MapB g ((l.take 0).map flT) w4 ∧ Arr w4 (w.heap.size + 1) 27 [.bool false, .slice none 0 0] ∧ TmB w4 (.slice A l.length c) l ∧ Oth w.heap.size [g] none w4 w4 from ⟨by simpa using hm4, qr4, ht4, Oth.refl1 _ g w4⟩)
    clear hw4 hW4 HW4 hm4 hb4 qr4 ht4 hg2 hg hz4 y0 y1 HSQ hmm HPT
    go_wp2_with fail
    clear z1
    go_loopg [5, 6, 17] l.length (fun gk s5 s6 s17 wr => ∃ (i : Nat), i ≤ l.length ∧ gk = l.length - i ∧ s17 = .int .i64 (i : Int) ∧ Hid (MapB g ((l.take i).map flT) wr ∧ Arr wr (w.heap.size + 1) 27 [.bool false, .slice none 0 0] ∧ TmB wr (.slice A l.length c) l ∧ Oth w.heap.size [g] none w4 wr))
    case atStart => exact ⟨0, Nat.zero_le _, rfl, rfl, HST⟩
    case round =>
      clear HST
      obtain ⟨i, hi, rfl, rfl, HR⟩ := hrel
      by_cases hlt : i < l.length
      · have z1 : (i : Int) < (l.length : Int) := by omega
        obtain ⟨b, o', rfl, hnn, hc0, hc1, hc2⟩ := HR.out.2.2.1.at_ hlt
        clear hnn
        have hxa := HOK.out.2.ea _ (List.getElem_mem hlt)
        have hxz := HOK.out.2.ez _ (List.getElem_mem hlt)
        have hxc := HOK.out.2.co _ (List.getElem_mem hlt)
        have HTK := Lib.hid (take_mapB hlt flT)
        have HEQ := Lib.hid (show flT l[i] = ((-l[i].1.1, l[i].1.2), if l[i].1.2.tmod 2 = 0 then l[i].2 else -l[i].2) from rfl)
        have HZ := Lib.hid (hiS_out (fl_new HOK.out.1 hlt))
        have HLN := Lib.hid (show ((l.take i).map flT).length ≤ 1000000000000000 by simp; omega)
        generalize hea : l[i].1.1 = ea at *
        generalize hez : l[i].1.2 = ez at *
        generalize hcc : l[i].2 = cc at *
        obtain ⟨done, hdone⟩ : ∃ d, d = (l.take i).map flT := ⟨_, rfl⟩
        obtain ⟨bc, hbc⟩ : ∃ bc, bc = if ez.tmod 2 = 0 then cc else -cc := ⟨_, rfl⟩
        rw [← hbc] at HEQ
        have HNX := Lib.hid (show ∀ W, MapB g (done ++ [((-ea, ez), bc)]) W → MapB g ((l.take (i + 1)).map flT) W from fun W h => by rw [HTK.out, HEQ.out, ← hdone]; exact h)
        rw [← hdone] at HR HZ HLN
        have HRK := Lib.hid (show rkB (-ea, ez) from ⟨by omega, by omega⟩)
        have HBC := Lib.hid (show -1125899906842624 ≤ bc ∧ bc ≤ 1125899906842624 from by rw [hbc]; split <;> omega)
        have HNA := Lib.hid (show IntKind.i64.wrap (-ea) = -ea from IntWalk.i64_in _ (by omega))
        have HGB := Lib.hid HR.out.2.2.2.below.size
        have hres := HR.out.2.1
        clear hdone HEQ HTK hea hez hcc
        obtain ⟨wo, rfl⟩ : ∃ wo, wo = wr := ⟨_, rfl⟩
        have hWo : ∀ W, W = wo.alloc (.cells #[.int .i64 ea, .int .i64 ez, .int .i64 cc] 65) → Arr W wo.heap.size 65 [.int .i64 ea, .int .i64 ez, .int .i64 cc] ∧ Below wo.heap.size wo W := by
          intro W hW
          subst hW
          exact ⟨Arr.new _ _ [_, _, _], (Below.refl _ _).alloc (Nat.le_refl _) _⟩
        have HWO := Lib.hid hWo
        clear hWo hres
        go_upto_region 7 with fail
        have hWo := HWO.out
        generalize (wo.alloc (.cells #[.int .i64 ea, .int .i64 ez, .int .i64 cc] 65)) = w7 at hWo ⊢
        obtain ⟨qt, hb7⟩ := hWo w7 rfl
        have QT := Lib.hid qt
        have HM := Lib.hid (HR.out.1.below hb7)
        have QR := Lib.hid (HR.out.2.1.below hb7 HR.out.2.1.lt)
        have HTM := Lib.hid (HR.out.2.2.1.below hb7)
        have HO7 := Lib.hid (HR.out.2.2.2.grow hb7 (by have := HGB.out; have := HS4.out; omega))
        have HBS := Lib.hid (show w.heap.size ≤ w7.heap.size by have := hb7.size; have := HGB.out; have := HS4.out; omega)
        obtain ⟨Bt, hBt⟩ : ∃ B, B = wo.heap.size := ⟨_, rfl⟩
        rw [← hBt] at QT ⊢
        have x0 := QT.out.cell 0
        have x1 := QT.out.cell 1
        have x2 := QT.out.cell 2
        clear hc0 hc1 hc2 qt hb7 HR hWo HWO hBt
        obtain ⟨base, hbase⟩ : ∃ x, x = w.heap.size := ⟨_, rfl⟩
        have HBB := Lib.hid hbase
        rw [← hbase] at HBG HBS HO7
        clear hbase
        by_cases hev : ez.tmod 2 = 0
        · rw [if_pos hev] at hbc
          subst hbc
          go_upto_region 10 with fail
          clear x0 x1 x2
          refine wp_region_phis 10 (by kernel_rfl) (by kernel_rfl) (by kernel_rfl) (by kernel_rfl) (by kernel_rfl) rfl (by kernel_rfl) (phiT (fun i => ([some (.map (some g)), some (.pointer (some ⟨Bt, 0, none⟩)), some (.int .i64 ea), some (.int .i64 (-ea)), some (.pointer (some ⟨Bt, 1, none⟩)), some (.int .i64 ez), some (.agg #[.int .i64 (-ea), .int .i64 ez]), some (.agg #[.int .i64 0, .int .i64 0]), some (.int .i64 bc), some (.agg #[.int .i64 (0 + bc / 33554432), .int .i64 (0 + bc % 33554432)]), some (undef)] : List (Option Value)).getD i none) (fun i v w => True)) (fun i v w w' h hb => ?_) (fun i => false) (fun i v w hi h k hk => ?_) (fun _ W => MapB g (done ++ [((-ea, ez), bc)]) W ∧ Oth base [g] none w7 W) ⟨?_, ?_, ?_, ?_, ?_, ?_, ?_, ?_, ?_, ?_, ?_, trivial⟩ ?_
          · unfold phiT at h ⊢
            split
            · next u hu => rw [hu] at h; exact h
            · next hu =>
              rw [hu] at h
              exact True.intro
          · simp only [Bool.or_eq_true, decide_eq_true_eq, Bool.false_eq_true] at hi
          · intro x w1 bA hbel hdep hdap hold hb
            refine ⟨fun _ => ?_, fun h => absurd h (by decide)⟩
            have e3 : bA.tmps[3]?.getD undef = .map (some g) := hb 3
            refine phf_run (.map (some g)) rfl ?_ rfl
            clear hb hdep hdap hold
            go_simp
          · intro x w1 bA hbel hdep hdap hold hb
            refine ⟨fun _ => ?_, fun h => absurd h (by decide)⟩
            have e5 : bA.tmps[5]?.getD undef = .pointer (some ⟨Bt, 0, none⟩) := hb 5
            refine phf_run (.pointer (some ⟨Bt, 0, none⟩)) rfl ?_ rfl
            clear hb hdep hdap hold
            go_simp
          · intro x w1 bA hbel hdep hdap hold hb
            refine ⟨fun _ => ?_, fun h => absurd h (by decide)⟩
            have e30 : bA.tmps[30]?.getD undef = .pointer (some ⟨Bt, 0, none⟩) := (hb 30).trans (hdep 1 (by decide))
            have ct := (QT.out.below hbel QT.out.lt).cell 0
            refine phf_run (.int .i64 ea) rfl ?_ rfl
            clear hb hdep hdap hold
            go_simp
          · intro x w1 bA hbel hdep hdap hold hb
            refine ⟨fun _ => ?_, fun h => absurd h (by decide)⟩
            have e31 : bA.tmps[31]?.getD undef = .int .i64 ea := (hb 31).trans (hdep 2 (by decide))
            have cw := HNA.out
            refine phf_run (.int .i64 (-ea)) rfl ?_ rfl
            clear hb hdep hdap hold
            go_simp
          · intro x w1 bA hbel hdep hdap hold hb
            refine ⟨fun _ => ?_, fun h => absurd h (by decide)⟩
            have e5 : bA.tmps[5]?.getD undef = .pointer (some ⟨Bt, 0, none⟩) := hb 5
            refine phf_run (.pointer (some ⟨Bt, 1, none⟩)) rfl ?_ rfl
            clear hb hdep hdap hold
            go_simp
          · intro x w1 bA hbel hdep hdap hold hb
            refine ⟨fun _ => ?_, fun h => absurd h (by decide)⟩
            have e33 : bA.tmps[33]?.getD undef = .pointer (some ⟨Bt, 1, none⟩) := (hb 33).trans (hdep 4 (by decide))
            have ct := (QT.out.below hbel QT.out.lt).cell 1
            refine phf_run (.int .i64 ez) rfl ?_ rfl
            clear hb hdep hdap hold
            go_simp
          · intro x w1 bA hbel hdep hdap hold hb
            refine ⟨fun _ => ?_, fun h => absurd h (by decide)⟩
            have e32 : bA.tmps[32]?.getD undef = .int .i64 (-ea) := (hb 32).trans (hdep 3 (by decide))
            have e34 : bA.tmps[34]?.getD undef = .int .i64 ez := (hb 34).trans (hdep 5 (by decide))
            refine phf_run (.agg #[.int .i64 (-ea), .int .i64 ez]) rfl ?_ rfl
            clear hb hdep hdap hold
            go_simp
          · intro x w1 bA hbel hdep hdap hold hb
            refine ⟨fun _ => ?_, fun h => absurd h (by decide)⟩
            refine phf_run (.agg #[.int .i64 0, .int .i64 0]) rfl ?_ rfl
            clear hb hdep hdap hold
            go_simp
          · intro x w1 bA hbel hdep hdap hold hb
            refine ⟨fun _ => ?_, fun h => absurd h (by decide)⟩
            have e6 : bA.tmps[6]?.getD undef = .int .i64 bc := hb 6
            refine phf_run (.int .i64 bc) rfl ?_ rfl
            clear hb hdep hdap hold
            go_simp
          · intro x w1 bA hbel hdep hdap hold hb
            refine ⟨fun _ => ?_, fun h => absurd h (by decide)⟩
            have e36 : bA.tmps[36]?.getD undef = .agg #[.int .i64 0, .int .i64 0] := (hb 36).trans (hdep 7 (by decide))
            have e37 : bA.tmps[37]?.getD undef = .int .i64 bc := (hb 37).trans (hdep 8 (by decide))
            refine phf_call ?_ ((splus_any 0 0 bc w1 (by omega) (by omega) (by have := HBC.out; omega)).mono fun e w' h => ⟨_, h.1, h.2, rfl, fun e => Bool.noConfusion e⟩)
            clear hb hdep hdap hold
            go_simp
          · intro x w1 bA hbel hdep hdap hold hb
            refine ⟨fun h => absurd h (by decide), fun _ hall => ?_⟩
            have e29 : bA.tmps[29]?.getD undef = .map (some g) := (hb 29).trans (hdep 0 (by decide))
            have e35 : bA.tmps[35]?.getD undef = .agg #[.int .i64 (-ea), .int .i64 ez] := (hb 35).trans (hdep 6 (by decide))
            have e38 : bA.tmps[38]?.getD undef = .agg #[.int .i64 (0 + bc / 33554432), .int .i64 (0 + bc % 33554432)] := (hb 38).trans (hdep 9 (by decide))
            clear hb hdep hdap hold
            have hs1 := HM.out.below hbel
            obtain ⟨W2, hrun, hm2, ho2⟩ := hs1.store (e := (-ea, ez)) (c := bc) HRK.out HLN.out
            rw [HZ.out.1, HZ.out.2] at hrun
            simp only [Int.zero_add] at hrun
            have HM2 := Lib.hid hm2
            have HO2 := Lib.hid (((Oth.refl1 base g w7).grow hbel HBS.out).trans1 (ho2 base HBG.out (Nat.le_trans HBS.out hbel.size)))
            clear hs1 hbel hm2 ho2
            refine phl_store (R := fun W => MapB g (done ++ [((-ea, ez), bc)]) W ∧ Oth base [g] none w7 W) W2 ?_ rfl ⟨HM2.out, HO2.out⟩
            go_simp
          intro x w1 hR
          simp only [putAll, dstOf, Act.put, List.map_cons, List.map_nil, List.setIfInBounds_toArray, List.set_cons_succ, List.set_cons_zero, Nat.reduceAdd]
          have HF := Lib.hid (show MapB g ((l.take (i + 1)).map flT) w1 ∧ Arr w1 (w.heap.size + 1) 27 [.bool false, .slice none 0 0] ∧ TmB w1 (.slice (some ⟨b, o', none⟩) l.length c) l ∧ Oth w.heap.size [g] none w4 w1 from
            ⟨HNX.out _ hR.1, hR.2.at_ QR.out HNE.out, HTM.out.oth hR.2 HM.out, by rw [← HBB.out]; exact HO7.out.trans1 hR.2⟩)
          clear hR
          go_wp2_with fail
          go_roundg (l.length - (i + 1))
          case measure => omega
          case rel => exact ⟨i + 1, by omega, rfl, by go_num, HF⟩
        · rw [if_neg hev] at hbc
          have hnw : IntKind.i64.wrap (-cc) = bc := by rw [← hbc]; exact IntWalk.i64_in _ (by have := HBC.out; omega)
          clear hbc
          go_upto_region 10 with fail
          clear x0 x1 x2
          refine wp_region_phis 10 (by kernel_rfl) (by kernel_rfl) (by kernel_rfl) (by kernel_rfl) (by kernel_rfl) rfl (by kernel_rfl) (phiT (fun i => ([some (.map (some g)), some (.pointer (some ⟨Bt, 0, none⟩)), some (.int .i64 ea), some (.int .i64 (-ea)), some (.pointer (some ⟨Bt, 1, none⟩)), some (.int .i64 ez), some (.agg #[.int .i64 (-ea), .int .i64 ez]), some (.agg #[.int .i64 0, .int .i64 0]), some (.int .i64 bc), some (.agg #[.int .i64 (0 + bc / 33554432), .int .i64 (0 + bc % 33554432)]), some (undef)] : List (Option Value)).getD i none) (fun i v w => True)) (fun i v w w' h hb => ?_) (fun i => false) (fun i v w hi h k hk => ?_) (fun _ W => MapB g (done ++ [((-ea, ez), bc)]) W ∧ Oth base [g] none w7 W) ⟨?_, ?_, ?_, ?_, ?_, ?_, ?_, ?_, ?_, ?_, ?_, trivial⟩ ?_
          · unfold phiT at h ⊢
            split
            · next u hu => rw [hu] at h; exact h
            · next hu =>
              rw [hu] at h
              exact True.intro
          · simp only [Bool.or_eq_true, decide_eq_true_eq, Bool.false_eq_true] at hi
          · intro x w1 bA hbel hdep hdap hold hb
            refine ⟨fun _ => ?_, fun h => absurd h (by decide)⟩
            have e3 : bA.tmps[3]?.getD undef = .map (some g) := hb 3
            refine phf_run (.map (some g)) rfl ?_ rfl
            clear hb hdep hdap hold
            go_simp
          · intro x w1 bA hbel hdep hdap hold hb
            refine ⟨fun _ => ?_, fun h => absurd h (by decide)⟩
            have e5 : bA.tmps[5]?.getD undef = .pointer (some ⟨Bt, 0, none⟩) := hb 5
            refine phf_run (.pointer (some ⟨Bt, 0, none⟩)) rfl ?_ rfl
            clear hb hdep hdap hold
            go_simp
          · intro x w1 bA hbel hdep hdap hold hb
            refine ⟨fun _ => ?_, fun h => absurd h (by decide)⟩
            have e30 : bA.tmps[30]?.getD undef = .pointer (some ⟨Bt, 0, none⟩) := (hb 30).trans (hdep 1 (by decide))
            have ct := (QT.out.below hbel QT.out.lt).cell 0
            refine phf_run (.int .i64 ea) rfl ?_ rfl
            clear hb hdep hdap hold
            go_simp
          · intro x w1 bA hbel hdep hdap hold hb
            refine ⟨fun _ => ?_, fun h => absurd h (by decide)⟩
            have e31 : bA.tmps[31]?.getD undef = .int .i64 ea := (hb 31).trans (hdep 2 (by decide))
            have cw := HNA.out
            refine phf_run (.int .i64 (-ea)) rfl ?_ rfl
            clear hb hdep hdap hold
            go_simp
          · intro x w1 bA hbel hdep hdap hold hb
            refine ⟨fun _ => ?_, fun h => absurd h (by decide)⟩
            have e5 : bA.tmps[5]?.getD undef = .pointer (some ⟨Bt, 0, none⟩) := hb 5
            refine phf_run (.pointer (some ⟨Bt, 1, none⟩)) rfl ?_ rfl
            clear hb hdep hdap hold
            go_simp
          · intro x w1 bA hbel hdep hdap hold hb
            refine ⟨fun _ => ?_, fun h => absurd h (by decide)⟩
            have e33 : bA.tmps[33]?.getD undef = .pointer (some ⟨Bt, 1, none⟩) := (hb 33).trans (hdep 4 (by decide))
            have ct := (QT.out.below hbel QT.out.lt).cell 1
            refine phf_run (.int .i64 ez) rfl ?_ rfl
            clear hb hdep hdap hold
            go_simp
          · intro x w1 bA hbel hdep hdap hold hb
            refine ⟨fun _ => ?_, fun h => absurd h (by decide)⟩
            have e32 : bA.tmps[32]?.getD undef = .int .i64 (-ea) := (hb 32).trans (hdep 3 (by decide))
            have e34 : bA.tmps[34]?.getD undef = .int .i64 ez := (hb 34).trans (hdep 5 (by decide))
            refine phf_run (.agg #[.int .i64 (-ea), .int .i64 ez]) rfl ?_ rfl
            clear hb hdep hdap hold
            go_simp
          · intro x w1 bA hbel hdep hdap hold hb
            refine ⟨fun _ => ?_, fun h => absurd h (by decide)⟩
            refine phf_run (.agg #[.int .i64 0, .int .i64 0]) rfl ?_ rfl
            clear hb hdep hdap hold
            go_simp
          · intro x w1 bA hbel hdep hdap hold hb
            refine ⟨fun _ => ?_, fun h => absurd h (by decide)⟩
            have e6 : bA.tmps[6]?.getD undef = .int .i64 bc := hb 6
            refine phf_run (.int .i64 bc) rfl ?_ rfl
            clear hb hdep hdap hold
            go_simp
          · intro x w1 bA hbel hdep hdap hold hb
            refine ⟨fun _ => ?_, fun h => absurd h (by decide)⟩
            have e36 : bA.tmps[36]?.getD undef = .agg #[.int .i64 0, .int .i64 0] := (hb 36).trans (hdep 7 (by decide))
            have e37 : bA.tmps[37]?.getD undef = .int .i64 bc := (hb 37).trans (hdep 8 (by decide))
            refine phf_call ?_ ((splus_any 0 0 bc w1 (by omega) (by omega) (by have := HBC.out; omega)).mono fun e w' h => ⟨_, h.1, h.2, rfl, fun e => Bool.noConfusion e⟩)
            clear hb hdep hdap hold
            go_simp
          · intro x w1 bA hbel hdep hdap hold hb
            refine ⟨fun h => absurd h (by decide), fun _ hall => ?_⟩
            have e29 : bA.tmps[29]?.getD undef = .map (some g) := (hb 29).trans (hdep 0 (by decide))
            have e35 : bA.tmps[35]?.getD undef = .agg #[.int .i64 (-ea), .int .i64 ez] := (hb 35).trans (hdep 6 (by decide))
            have e38 : bA.tmps[38]?.getD undef = .agg #[.int .i64 (0 + bc / 33554432), .int .i64 (0 + bc % 33554432)] := (hb 38).trans (hdep 9 (by decide))
            clear hb hdep hdap hold
            have hs1 := HM.out.below hbel
            obtain ⟨W2, hrun, hm2, ho2⟩ := hs1.store (e := (-ea, ez)) (c := bc) HRK.out HLN.out
            rw [HZ.out.1, HZ.out.2] at hrun
            simp only [Int.zero_add] at hrun
            have HM2 := Lib.hid hm2
            have HO2 := Lib.hid (((Oth.refl1 base g w7).grow hbel HBS.out).trans1 (ho2 base HBG.out (Nat.le_trans HBS.out hbel.size)))
            clear hs1 hbel hm2 ho2
            refine phl_store (R := fun W => MapB g (done ++ [((-ea, ez), bc)]) W ∧ Oth base [g] none w7 W) W2 ?_ rfl ⟨HM2.out, HO2.out⟩
            go_simp
          intro x w1 hR
          simp only [putAll, dstOf, Act.put, List.map_cons, List.map_nil, List.setIfInBounds_toArray, List.set_cons_succ, List.set_cons_zero, Nat.reduceAdd]
          have HF := Lib.hid (show MapB g ((l.take (i + 1)).map flT) w1 ∧ Arr w1 (w.heap.size + 1) 27 [.bool false, .slice none 0 0] ∧ TmB w1 (.slice (some ⟨b, o', none⟩) l.length c) l ∧ Oth w.heap.size [g] none w4 w1 from
            ⟨HNX.out _ hR.1, hR.2.at_ QR.out HNE.out, HTM.out.oth hR.2 HM.out, by rw [← HBB.out]; exact HO7.out.trans1 hR.2⟩)
          clear hR
          go_wp2_with fail
          go_roundg (l.length - (i + 1))
          case measure => omega
          case rel => exact ⟨i + 1, by omega, rfl, by go_num, HF⟩
      · have z1 : ¬ (i : Int) < (l.length : Int) := by omega
        have hkk : l.take i = l := List.take_of_length_le (by omega)
        rw [hkk] at HR
        have HM := Lib.hid HR.out.1
        have hbe := HB4.out.trans (HR.out.2.2.2.below)
        have qr := HR.out.2.1
        have x0 := qr.cell 0
        have x1 := qr.cell 1
        have f0 := qr.frozen 0
        have f1 := qr.frozen 1
        have HQR := Lib.hid qr
        have HBE := Lib.hid hbe
        have HGA := Lib.hid (gather_any g (l.map flT) wr HR.out.1 (fl_cb HOK.out.2) (fl_kr HOK.out.2) (by simpa using hll))
        clear qr hbe HR hkk x0 x1 f0 f1
        go_wp2_with fail
        refine HGA.out.mono ?_
        rintro e w5 ⟨v, r, rfl, hv, hr, hb5⟩
        obtain ⟨b5, A5, n5, c5, rfl, j5, j6⟩ := hv.parts
        have q5 := HQR.out.below hb5 HQR.out.lt
        have x0 := q5.cell 0
        have x1 := q5.cell 1
        have f0 := q5.frozen 0
        have f1 := q5.frozen 1
        have HRS := Lib.hid ((q5.set 0 (.bool b5)).set 1 (.slice A5 n5 c5))
        have HV := Lib.hid (hv.box q5 (.bool b5) (.slice A5 n5 c5))
        have HRR := Lib.hid hr
        have hb6 := HBE.out.trans (hb5.mono HBE.out.size)
        have HB6 := Lib.hid ((hb6.setCell (p := ⟨w.heap.size + 1, 0, none⟩) (by simp) (.bool b5)).setCell (p := ⟨w.heap.size + 1, 1, none⟩) (by simp) (.slice A5 n5 c5))
        clear j5 j6 hv hr hb5 hb6 q5
        go_wp2_with fail
        refine bodyPost_ret (v := .agg #[.bool b5, .slice A5 n5 c5]) (results_c Tryz.results29 _ _ (w.heap.size + 1) 27 _ _ rfl HRS.out Tryz.underlying27 rfl info_polyB) rfl ?_
        exact ⟨_, r, rfl, HV.out, fun m hm => (by injection hm with hm; subst hm; exact HRR.out), fun h => (by cases h), HB6.out⟩
end Go.Proofs.YtbfggncmjdhapaaGreatDoor

namespace Go.Proofs.YtbfggncmjdhapaaGreatDoor
open Go.RowKit
set_option linter.unusedVariables false

theorem tm2 (x : Int) : x.tmod 2 = 0 ↔ x % 2 = 0 := ⟨fun h => Int.emod_eq_zero_of_dvd (Int.dvd_of_tmod_eq_zero h), fun h => Int.tmod_eq_zero_of_dvd (Int.dvd_of_emod_eq_zero h)⟩
theorem asum2_fl (l : List T2) : asum2 (l.map flT) = asum2 l := by
  induction l with
  | nil => rfl
  | cons t l ih =>
    rw [List.map_cons, asum2, asum2, ih]
    simp only [flT]
    split <;> omega
theorem Ebd.fl {N : Nat} {l : List T2} (h : Ebd N l) : Ebd N (l.map flT) := fun t ht => by
  obtain ⟨s, hs, rfl⟩ := List.mem_map.1 ht
  have := h s hs
  simp only [flT]
  omega
theorem fl_fl (l : List T2) (e : K2) : cg2 ((l.map flT).map flT) e = cg2 l e := by
  obtain ⟨e1, e2⟩ := e
  rw [cg2_fl, cg2_fl]
  simp only [Int.neg_neg]
  split <;> omega
theorem FlipPL {S N : Nat} (vp : Value) (L : List T2) (w : World) (hp : PL w vp L) (bp : Bd2 S N L) (hS : S ≤ 1125899906842624) (hN : N ≤ 1048576) :
    Calls Tryz.prog 29 #[vp] w (PLR (L.map flT) w) := by
  obtain ⟨l, h1, h2, h3, h4⟩ := hp
  obtain ⟨a1, a2, a3⟩ := can_bd h2 h4 bp
  refine (bFlip_any vp (some l) w h1 ⟨h2, h3⟩ (by unfold lenB; simpa using a3)).mono ?_
  rintro e w' ⟨v, r, rfl, hv, hg, _, hb⟩
  obtain ⟨r', rfl, r1, r2, r3⟩ := gth_fits (L := L.map flT) (S := S) (N := N) (hg l rfl) (fun e => by rw [cg2_fl, cg2_fl, h4]) ⟨by rw [asum2_fl]; exact bp.su, bp.eb.fl, by simpa using bp.ln⟩ hS hN
  exact ⟨v, rfl, hb, r', hv, r1, r2, r3⟩
theorem fl_kadd (s t : T2) : (kadd (flT s).1 (flT t).1, (flT s).2 * (flT t).2) = flT (kadd s.1 t.1, s.2 * t.2) := by
  obtain ⟨⟨x, y⟩, c⟩ := s
  obtain ⟨⟨x', y'⟩, c'⟩ := t
  have key : (if y.tmod 2 = 0 then c else -c) * (if y'.tmod 2 = 0 then c' else -c') = if (y + y').tmod 2 = 0 then c * c' else -(c * c') := by
    simp only [tm2]
    by_cases h1 : y % 2 = 0
    · by_cases h2 : y' % 2 = 0
      · rw [if_pos h1, if_pos h2, if_pos (by omega)]
      · rw [if_pos h1, if_neg h2, if_neg (by omega), Int.mul_neg]
    · by_cases h2 : y' % 2 = 0
      · rw [if_neg h1, if_pos h2, if_neg (by omega), Int.neg_mul]
      · rw [if_neg h1, if_neg h2, if_pos (by omega), Int.neg_mul_neg]
  show ((-x + -x', y + y'), (if y.tmod 2 = 0 then c else -c) * (if y'.tmod 2 = 0 then c' else -c')) = ((-(x + x'), y + y'), if (y + y').tmod 2 = 0 then c * c' else -(c * c'))
  rw [key, show -x + -x' = -(x + x') by omega]
theorem fl_mul (l m : List T2) : mulT (l.map flT) (m.map flT) = (mulT l m).map flT := by
  induction l with
  | nil => rfl
  | cons s l ih =>
    rw [List.map_cons, mulT_cons, mulT_cons, ih, List.map_append, List.map_map, List.map_map]
    congr 1
    exact List.map_congr_left fun t _ => fl_kadd s t
end Go.Proofs.YtbfggncmjdhapaaGreatDoor

namespace Go.Proofs.YtbfggncmjdhapaaGreatDoor
open Go.RowKit Go.Maps
set_option linter.unusedVariables false

/-- a shifted term -/
def shT (a z : Int) (t : T2) : T2 := ((t.1.1 + a, t.1.2 + z), t.2)
def shOk (a z : Int) (t : T2) : Bool := wiB (t.1.1 + a) 1048576 && wiB (t.1.2 + z) 1048576
/-- what Shift yields -/
def shB (a z : Int) : PolB → PolB
  | none => none
  | some l => if l.all (shOk a z) = true then some (l.map (shT a z)) else none
theorem wiB_in {v l : Int} : wiB v l = true ↔ -l ≤ v ∧ v ≤ l := by unfold wiB; simp
theorem shB_nil (a z : Int) : shB a z (some []) = some [] := rfl
/-- the state of Shift's loop -/
structure HSt (w : World) (s : Value) (R : List T2) (W : World) : Prop where
  own : OwnB (w.heap.size + 2) W s R
  rr : Arr W (w.heap.size + 2 + 1) 27 [.bool false, s]
  res : Arr W (w.heap.size + 1) 27 [.bool false, .slice none 0 0]
  bel : Below w.heap.size w W
section
variable {w W W' : World} {s : Value} {R : List T2}
theorem HSt.below (h : HSt w s R W) (hb : Below W.heap.size W W') : HSt w s R W' :=
  ⟨h.own.below hb, h.rr.below hb h.rr.lt, h.res.below hb h.res.lt, h.bel.trans (hb.mono h.bel.size)⟩
theorem HSt.app (h : HSt w s R W) {s' : Value} {m : T2} (ho : OwnB (w.heap.size + 2) W' s' (R ++ [m])) (hb : Below (w.heap.size + 2) W W') (hk : ∀ k, k < W.heap.size → s.ownBlock ≠ some k → W'.heap[k]? = W.heap[k]?) : Arr W' (w.heap.size + 2 + 1) 27 [.bool false, s] ∧ HSt w s' (R ++ [m]) (W'.setCell ⟨w.heap.size + 2 + 1, 1, none⟩ s') := by
  have a1 := OwnA.apartB h.own h.rr (by decide)
  have a2 := OwnA.apartB h.own h.res (by decide)
  have q1 : Arr W' (w.heap.size + 2 + 1) 27 [.bool false, s] := (hk _ h.rr.lt a1).trans h.rr
  have q2 : Arr W' (w.heap.size + 1) 27 [.bool false, .slice none 0 0] := (hk _ h.res.lt a2).trans h.res
  refine ⟨q1, ho.keepK fun k hk2 => Below.heap_setCell W' ⟨w.heap.size + 2 + 1, 1, none⟩ s' k (fun e => ?_), q1.set 1 _, q2.far (p := ⟨w.heap.size + 2 + 1, 1, none⟩) (show w.heap.size + 1 ≠ w.heap.size + 2 + 1 by omega) _, (h.bel.trans (hb.mono (by omega))).setCell (p := ⟨w.heap.size + 2 + 1, 1, none⟩) (show w.heap.size ≤ w.heap.size + 2 + 1 by omega) _⟩
  rw [e] at hk2
  exact OwnA.apartB ho q1 (by decide) hk2
end
set_option maxHeartbeats 4000000 in
set_option maxRecDepth 100000 in
theorem bShift_any (vp : Value) (p : PolB) (a z : Int) (w : World) (hp : PolyB w vp p) (okp : okB2 p) (hl : lenB p ≤ 1000000) (ha : -2097152 ≤ a ∧ a ≤ 2097152) (hz : -2097152 ≤ z ∧ z ≤ 2097152) :
    Calls Tryz.prog 17 #[vp, .int .i64 a, .int .i64 z] w fun e w' => ∃ v, e = .returned v ∧ PolyB w' v (shB a z p) ∧ Below w.heap.size w w' := by
  obtain ⟨P, hP⟩ : ∃ P, P = shB a z p := ⟨_, rfl⟩
  rw [← hP]
  have HP := Lib.hid hP
  clear hP
  obtain ⟨A, c, rfl, hx⟩ := hp
  have HPT := Lib.hid (fun W (hb : Below w.heap.size w W) => hx.below hb)
  clear hx
  have hW : ∀ W, W = ((w.alloc (.cells #[.bool p.isNone, .slice A (p.getD []).length c] 27)).alloc (.cells #[.bool false, .slice none 0 0] 27)) → Arr W w.heap.size 27 [.bool p.isNone, .slice A (p.getD []).length c] ∧ Arr W (w.heap.size + 1) 27 [.bool false, .slice none 0 0] ∧ Below w.heap.size w W ∧ W.heap.size = w.heap.size + 2 := by
    intro W hW
    subst hW
    exact ⟨(Arr.new _ _ [_, _]).alloc _, Arr.newAt (w.alloc _) _ [_, _] _ (by simp), ((Below.refl _ _).alloc (Nat.le_refl _) _).alloc (by simp) _, by simp⟩
  go_enter Tryz.func17, Tryz.ntmps17
  go_upto_region 1 with fail
  generalize ((w.alloc (.cells #[.bool p.isNone, .slice A (p.getD []).length c] 27)).alloc (.cells #[.bool false, .slice none 0 0] 27)) = w3 at hW ⊢
  obtain ⟨qp, qr, hb3, hs3⟩ := hW w3 rfl
  clear hW
  have y0 := qp.cell 0
  have y1 := qp.cell 1
  cases p with
  | none =>
    have x0 := qr.cell 0
    have x1 := qr.cell 1
    have f0 := qr.frozen 0
    have f1 := qr.frozen 1
    change w3.cell? ⟨w.heap.size, 0, none⟩ = some (.bool true) at y0
    change w3.cell? ⟨w.heap.size, 1, none⟩ = some (.slice A 0 c) at y1
    have hres := Lib.hid ((qr.set 0 (.bool true)).set 1 (.slice A 0 c))
    have HB3 := Lib.hid hb3
    clear hs3 qp qr hb3
    go_wp2_with fail
    refine bodyPost_ret (v := .agg #[.bool true, .slice A 0 c]) (results_c Tryz.results17 _ _ (w.heap.size + 1) 27 _ _ rfl hres.out Tryz.underlying27 rfl info_polyB) rfl ?_
    exact ⟨_, rfl, by rw [HP.out]; exact ⟨A, c, rfl, ⟨A, c, rfl, fun k h => absurd h (Nat.not_lt_zero _)⟩⟩, (HB3.out.setCell (p := ⟨w.heap.size + 1, 0, none⟩) (by simp) _).setCell (p := ⟨w.heap.size + 1, 1, none⟩) (by simp) _⟩
  | some l =>
    have hll : l.length ≤ 1000000 := hl
    have ha1 : (0:Int) ≤ 2097152 := by decide
    have ha2 : (2097152:Int) ≤ 1125899906842624 := by decide
    have HLI := Lib.hid okp.2
    clear okp hl
    change w3.cell? ⟨w.heap.size, 0, none⟩ = some (.bool false) at y0
    change w3.cell? ⟨w.heap.size, 1, none⟩ = some (.slice A l.length c) at y1
    by_cases hl0 : l.length = 0
    · have hnil := List.eq_nil_of_length_eq_zero hl0
      subst hnil
      have x0 := qr.cell 0
      have x1 := qr.cell 1
      have f0 := qr.frozen 0
      have f1 := qr.frozen 1
      change w3.cell? ⟨w.heap.size, 1, none⟩ = some (.slice A 0 c) at y1
      have hres := Lib.hid ((qr.set 0 (.bool false)).set 1 (.slice A 0 c))
      have HB3 := Lib.hid hb3
      clear hs3 qp qr hb3 hl0 hll
      go_wp2_with fail
      refine bodyPost_ret (v := .agg #[.bool false, .slice A 0 c]) (results_c Tryz.results17 _ _ (w.heap.size + 1) 27 _ _ rfl hres.out Tryz.underlying27 rfl info_polyB) rfl ?_
      exact ⟨_, rfl, by rw [HP.out, shB_nil]; exact ⟨A, c, rfl, ⟨A, c, rfl, fun k h => absurd h (Nat.not_lt_zero _)⟩⟩, (HB3.out.setCell (p := ⟨w.heap.size + 1, 0, none⟩) (by simp) _).setCell (p := ⟨w.heap.size + 1, 1, none⟩) (by simp) _⟩
    have z0 : ¬ (l.length : Int) = 0 := by omega
    have z1 : decide ((l.length : Int) = 0) = false := decide_eq_false z0
    have HW1 := Lib.hid (bwithin_any a 2097152 w3 (by omega) (by omega))
    have HW2 := Lib.hid (bwithin_any z 2097152 w3 (by omega) (by omega))
    rw [show wiB a 2097152 = true from wiB_in.2 ha] at HW1
    rw [show wiB z 2097152 = true from wiB_in.2 hz] at HW2
    have HQP := Lib.hid qp
    have HQR := Lib.hid qr
    have HB3 := Lib.hid hb3
    obtain ⟨cs, hmk, hcs⟩ := run_makeB l.length (by omega) w3
    have hst : HSt w (.slice (some ⟨w.heap.size + 2, 0, none⟩) 0 l.length) [] ((w3.alloc (.cells cs 65)).alloc (.cells #[.bool false, .slice (some ⟨w.heap.size + 2, 0, none⟩) 0 l.length] 27)) := by
      have h1 := OwnB.made (w := w3) (base := w.heap.size + 2) (by omega) (by omega) hcs
      rw [hs3] at h1
      exact ⟨h1.alloc _, Arr.newAt (w3.alloc _) _ [_, _] _ (by simp; omega), (qr.alloc _).alloc _, (hb3.alloc hb3.size _).alloc (by simp; omega) _⟩
    have y2 : ((w3.alloc (.cells cs 65)).alloc (.cells #[.bool false, .slice (some ⟨w.heap.size + 2, 0, none⟩) 0 l.length] 27)).cell? ⟨w.heap.size, 1, none⟩ = some (.slice A l.length c) := ((qp.alloc _).alloc _).cell 1
    have HST := Lib.hid hst
    have HY2 := Lib.hid y2
    have HS3 := Lib.hid hs3
    have HMK := Lib.hid hmk
    clear hst y2 qp qr hb3 hmk hcs hs3
    go_wp2_with fail
    refine HW1.out.mono ?_
    rintro e w4 ⟨rfl, rfl⟩
    go_wp2_with fail
    refine HW2.out.mono ?_
    rintro e w4 ⟨rfl, rfl⟩
    clear HW1 HW2 z0 z1
    have hmk := HMK.out
    have hs3 := HS3.out
    rw [hs3] at hmk
    go_upto_region 6 with fail
    have hst := HST.out
    have y2 := HY2.out
    generalize ((w3.alloc (.cells cs 65)).alloc (.cells #[.bool false, .slice (some ⟨w.heap.size + 2, 0, none⟩) 0 l.length] 27)) = w4 at *
    clear hmk cs hs3 y0 y1 HMK HST HY2 HQP HQR
    go_wp2_with fail
    go_loopg [9, 36] l.length (fun gk s9 s36 wr => ∃ (k : Nat) (s : Value), k ≤ l.length ∧ gk = l.length - k ∧ s36 = .int .i64 (k : Int) ∧ HSt w s ((l.take k).map (shT a z)) wr ∧ Hid (∀ t ∈ l.take k, shOk a z t = true))
    case atStart => exact ⟨0, _, Nat.zero_le _, rfl, rfl, hst, Lib.hid (fun t h => by simp at h)⟩
    case round =>
      clear hst y2
      obtain ⟨k, s, hk, rfl, rfl, hst, HT⟩ := hrel
      by_cases hlt : k < l.length
      · have z1 : (k : Int) < (l.length : Int) := by omega
        obtain ⟨b, o, rfl, hnn, y0, y1, y2⟩ := (show TmB wr (.slice A l.length c) l from HPT.out wr hst.bel).at_ hlt
        clear hnn
        have HL := Lib.hid (show (l.take (k + 1)).map (shT a z) = (l.take k).map (shT a z) ++ [shT a z l[k]] by rw [take_snocB hlt, List.map_append]; rfl)
        have hex1 := HLI.out.ea l[k] (List.getElem_mem hlt)
        have hex2 := HLI.out.ez l[k] (List.getElem_mem hlt)
        have hrl : ((l.take k).map (shT a z)).length ≤ 1000000 := by simp; omega
        have HBad := Lib.hid (fun (h : shOk a z l[k] = false) => (show P = none from by
          rw [HP.out]; unfold shB
          refine if_neg fun h2 => ?_
          have := List.all_eq_true.1 h2 l[k] (List.getElem_mem hlt)
          rw [h] at this; cases this))
        have HT2 := Lib.hid (fun (h : shOk a z l[k] = true) => (show ∀ t ∈ l.take (k + 1), shOk a z t = true from fun t ht => by
          rw [take_snocB hlt] at ht
          rcases List.mem_append.1 ht with ht | ht
          · exact HT.out t ht
          · rw [List.mem_singleton.1 ht]; exact h))
        generalize l[k] = t at *
        obtain ⟨⟨t1, t2⟩, t3⟩ := t
        dsimp only at *
        generalize (l.take k).map (shT a z) = R at *
        have HSTa := Lib.hid (hst.below ((Below.refl _ _).alloc (Nat.le_refl _) (.cells #[.int .i64 t1, .int .i64 t2, .int .i64 t3] 65)))
        have HQT := Lib.hid (Arr.new wr 65 [.int .i64 t1, .int .i64 t2, .int .i64 t3])
        obtain ⟨As, csx, rfl⟩ := hst.own.form
        clear hst HT
        go_upto_region 9 with fail
        have hqt : Arr (wr.alloc (.cells #[.int .i64 t1, .int .i64 t2, .int .i64 t3] 65)) wr.heap.size 65 [.int .i64 t1, .int .i64 t2, .int .i64 t3] := HQT.out
        generalize wr.heap.size = g at *
        generalize (wr.alloc (.cells #[.int .i64 t1, .int .i64 t2, .int .i64 t3] 65)) = w5 at *
        have x0 := hqt.cell 0
        have x1 := hqt.cell 1
        have x2 := hqt.cell 2
        clear y0 y1 y2 HQT hqt
        have HB1 := Lib.hid (fun (h : false = wiB (t1 + a) 1048576) => HBad.out (show shOk a z ((t1, t2), t3) = false by unfold shOk; simp only; rw [← h]; rfl))
        have HB2 := Lib.hid (fun (h : false = wiB (t2 + z) 1048576) => HBad.out (show shOk a z ((t1, t2), t3) = false by unfold shOk; simp only; rw [← h, Bool.and_false]))
        have HT3 := Lib.hid (fun (h1 : true = wiB (t1 + a) 1048576) (h2 : true = wiB (t2 + z) 1048576) => HT2.out (show shOk a z ((t1, t2), t3) = true by unfold shOk; simp only; rw [← h1, ← h2]; rfl))
        have HWI1 := Lib.hid (bwithin_any (t1 + a) 1048576 w5 (by decide) (by decide))
        have HWI2 := Lib.hid (bwithin_any (t2 + z) 1048576 w5 (by decide) (by decide))
        have HMV := Lib.hid (show shT a z ((t1, t2), t3) = ((t1 + a, t2 + z), t3) from rfl)
        rw [HMV.out] at HL
        obtain ⟨WB1, hWB1⟩ : ∃ x, x = wiB (t1 + a) 1048576 := ⟨_, rfl⟩
        obtain ⟨WB2, hWB2⟩ : ∃ x, x = wiB (t2 + z) 1048576 := ⟨_, rfl⟩
        rw [← hWB1] at HWI1 HB1 HT3
        rw [← hWB2] at HWI2 HB2 HT3
        clear hWB1 hWB2 HBad HT2 HMV
        cases WB1 with
        | false =>
          have HPN := Lib.hid (HB1.out rfl)
          clear HB1
          have qr := HSTa.out.res
          have r0 := qr.cell 0
          have r1 := qr.cell 1
          have f0 := qr.frozen 0
          have f1 := qr.frozen 1
          have HRS := Lib.hid ((qr.set 0 (.bool true)).set 1 (.slice none 0 0))
          have HBE := Lib.hid ((HSTa.out.bel.setCell (p := ⟨w.heap.size + 1, 0, none⟩) (by simp) (.bool true)).setCell (p := ⟨w.heap.size + 1, 1, none⟩) (by simp) (.slice none 0 0))
          clear qr HT3 HL HB2
          go_wp2_with fail
          refine HWI1.out.mono ?_
          rintro e w6 ⟨rfl, rfl⟩
          go_wp2_with fail
          refine bodyPost_ret (v := .agg #[.bool true, .slice none 0 0]) (results_c Tryz.results17 _ _ (w.heap.size + 1) 27 _ _ rfl HRS.out Tryz.underlying27 rfl info_polyB) rfl ?_
          exact ⟨_, rfl, by rw [HPN.out]; exact PolyB.big _, HBE.out⟩
        | true =>
          clear HB1
          cases WB2 with
          | false =>
            have HPN := Lib.hid (HB2.out rfl)
            have qr := HSTa.out.res
            have r0 := qr.cell 0
            have r1 := qr.cell 1
            have f0 := qr.frozen 0
            have f1 := qr.frozen 1
            have HRS := Lib.hid ((qr.set 0 (.bool true)).set 1 (.slice none 0 0))
            have HBE := Lib.hid ((HSTa.out.bel.setCell (p := ⟨w.heap.size + 1, 0, none⟩) (by simp) (.bool true)).setCell (p := ⟨w.heap.size + 1, 1, none⟩) (by simp) (.slice none 0 0))
            clear qr HT3 HL HB2
            go_wp2_with fail
            refine HWI1.out.mono ?_
            rintro e w6 ⟨rfl, rfl⟩
            go_wp2_with fail
            refine HWI2.out.mono ?_
            rintro e w6 ⟨rfl, rfl⟩
            go_wp2_with fail
            refine bodyPost_ret (v := .agg #[.bool true, .slice none 0 0]) (results_c Tryz.results17 _ _ (w.heap.size + 1) 27 _ _ rfl HRS.out Tryz.underlying27 rfl info_polyB) rfl ?_
            exact ⟨_, rfl, by rw [HPN.out]; exact PolyB.big _, HBE.out⟩
          | true =>
            have HT4 := Lib.hid (HT3.out rfl rfl)
            clear HB2 HT3
            have q1 := HSTa.out.rr
            have v1 := q1.cell 1
            have HSL := Lib.hid (slB_one w5 (t1 + a) (t2 + z) t3)
            have HS7 := Lib.hid (HSTa.out.below ((Below.refl _ _).alloc (Nat.le_refl _) (.cells #[.int .i64 (t1 + a), .int .i64 (t2 + z), .int .i64 t3] 65)))
            have HSZ := Lib.hid (show w.heap.size + 2 ≤ (w5.alloc (.cells #[.int .i64 (t1 + a), .int .i64 (t2 + z), .int .i64 t3] 65)).heap.size by have := HSTa.out.res.lt; simp; omega)
            have HRL := Lib.hid (show R.length + [((t1 + a, t2 + z), t3)].length ≤ 1000000000 by simp; omega)
            obtain ⟨rn, hrn⟩ : ∃ rn, rn = R.length := ⟨_, rfl⟩
            rw [← hrn] at v1 HS7 HSTa
            have HRN := Lib.hid hrn
            clear q1 hrn HSTa
            go_wp2_with fail
            refine HWI1.out.mono ?_
            rintro e w6 ⟨rfl, rfl⟩
            go_wp2_with fail
            refine HWI2.out.mono ?_
            rintro e w6 ⟨rfl, rfl⟩
            go_wp2_with (at_builtin; go_loud (refine wpList_appA rfl elB (.tmp 56) (.tmp 68) 25 25 rfl Tryz.underlying25 Tryz.underlying25 rfl HS7.out.own rfl HSL.out HRL.out HSZ.out ?_); go_loud (intro v' w8 h1 h2 h3 h4; obtain ⟨p1, p2⟩ := HS7.out.app h1 h2 h3; have HN := Lib.hid p2; obtain ⟨Av, cv2, rfl⟩ := h1.form; have f1 := p1.frozen 1; have yq := p1.cell 1; clear h1 h2 h3 h4 p1 p2))
            go_roundg (l.length - (k + 1))
            case measure => omega
            case rel =>
              have hR1 : (R ++ [((t1 + a, t2 + z), t3)]).length = R.length + 1 := by simp
              have h1 := HN.out
              rw [hR1] at h1
              exact ⟨k + 1, _, by omega, rfl, by go_num, by rw [HL.out]; exact h1, HT4⟩
      · have z1 : ¬ (k : Int) < (l.length : Int) := by omega
        have hkk : l.take k = l := List.take_of_length_le (by omega)
        rw [hkk] at hst HT
        have HE := Lib.hid (show P = some (l.map (shT a z)) from by
          rw [HP.out]; unfold shB
          exact if_pos (List.all_eq_true.2 HT.out))
        have HTM := Lib.hid (OwnB.tmB hst.own)
        obtain ⟨Ax, cx, rfl⟩ := hst.own.form
        have hln : (l.map (shT a z)).length = l.length := by simp
        have qr := hst.res
        have q1 := hst.rr
        have y0 := q1.cell 0
        have y1 := q1.cell 1
        have f0 := qr.frozen 0
        have f1 := qr.frozen 1
        have x0 := qr.cell 0
        have x1 := qr.cell 1
        rw [hln] at y1 HTM
        have HRS := Lib.hid ((qr.set 0 (.bool false)).set 1 (.slice Ax l.length cx))
        have HKP := Lib.hid ((Kp.set qr (.bool false)).trans (Kp.set (qr.set 0 (.bool false)) (.slice Ax l.length cx) (i := 1)))
        have HBE := Lib.hid ((hst.bel.setCell (p := ⟨w.heap.size + 1, 0, none⟩) (by simp) (.bool false)).setCell (p := ⟨w.heap.size + 1, 1, none⟩) (by simp) (.slice Ax l.length cx))
        have HLN := Lib.hid hln
        clear hst qr q1 hkk HT hln
        go_wp2_with fail
        refine bodyPost_ret (v := .agg #[.bool false, .slice Ax l.length cx]) (results_c Tryz.results17 _ _ (w.heap.size + 1) 27 _ _ rfl HRS.out Tryz.underlying27 rfl info_polyB) rfl ?_
        refine ⟨_, rfl, ?_, HBE.out⟩
        rw [HE.out]
        have := HTM.out.kp HKP.out (by decide)
        rw [← HLN.out] at this ⊢
        exact PolyB.of_tm this
end Go.Proofs.YtbfggncmjdhapaaGreatDoor
