/- fox.Matrix: its closure. -/
import Derived.Test.YtlbihllmpbhhcaaDoorMdv
import Derived.Test.YtlbihllmpbhhcaaDoorAps
import Derived.Deep.RegionHeld
namespace Go.Proofs.YtlbihllmpbhhcaaDoor
open Go.RowKit
set_option linter.unusedVariables false

theorem elF : ElA Tryd.prog 69 2 fc where
  ex := by
    obtain ⟨i, hi, hz, hs, hb⟩ := info_parts info_fterm
    exact ⟨i, _, 16, hi, hz, hs, hb, rfl, by omega⟩
  pos := by omega
  len := fun x => rfl
  one := fun x q h => by unfold fc at h; simp at h; rcases h with rfl | rfl <;> rfl
/-- the rows of terms when the letters u are done -/
structure MtS (base tb rb n : Nat) (comp u : List Int) (W : World) : Prop where
  box : Arr W tb 89 [.slice (some ⟨rb, 0, none⟩) n n]
  row : ∃ vs : List Value, vs.length = n ∧ Arr W rb 66 vs ∧ (∀ (j : Nat) v, vs[j]? = some v → OwnF base W v (drv comp (j : Int) u 0)) ∧ ∀ (i j : Nat) a b, i ≠ j → vs[i]? = some a → vs[j]? = some b → ∀ k, a.ownBlock = some k → b.ownBlock ≠ some k
theorem MtS.grow {base tb rb n : Nat} {comp u : List Int} {W W' : World} (h : MtS base tb rb n comp u W) (hb : Below W.heap.size W W') : MtS base tb rb n comp u W' := by
  obtain ⟨vs, h1, h2, h3, h4⟩ := h.row
  exact ⟨h.box.below hb h.box.lt, vs, h1, h2.below hb h2.lt, fun j v hj => (h3 j v hj).keep fun k hk => hb.block k ((h3 j v hj).lt k hk).2, h4⟩
theorem MtS.far {base tb rb n : Nat} {comp u : List Int} {W : World} {db : Nat} {d v : Value} (h : MtS base tb rb n comp u W) (hd : Arr W db 3 [d]) : MtS base tb rb n comp u (W.setCell ⟨db, 0, none⟩ v) := by
  obtain ⟨vs, h1, h2, h3, h4⟩ := h.row
  exact ⟨h.box.far (p := ⟨db, 0, none⟩) (h.box.ne hd (by decide)) _, vs, h1, h2.far (p := ⟨db, 0, none⟩) (h2.ne hd (by decide)) _, fun j v hj => (h3 j v hj).far (p := ⟨db, 0, none⟩) ((h3 j v hj).apart hd (by decide)) _, h4⟩
set_option maxHeartbeats 2000000 in
set_option maxRecDepth 100000 in
theorem mc1_any (base tb rb n iz : Nat) (comp u : List Int) (co ex x : Int) (w : World) (hM : MtS base tb rb n comp u w) (hbs : base ≤ w.heap.size) (hbr : base ≤ rb) (hi : iz < n) (hg : gnr x = (iz : Int)) (ht : trm comp (degW comp u 0) x = (ex, co)) (hu : u.length ≤ 1000) (hn : n ≤ 1000000) :
    Calls Tryd.prog 42 #[.int .i64 (iz : Int), .agg #[.int .i64 co, .int .i64 ex], .pointer (some ⟨tb, 0, none⟩)] w fun e w' => e = .returned (.tuple #[]) ∧ MtS base tb rb n comp (u ++ [x]) w' ∧ Below base w w' ∧ KeepT w w' := by
  have hW : ∀ W, W = (w.alloc (.cells #[.int .i64 co, .int .i64 ex] 69)) → Arr W w.heap.size 69 [.int .i64 co, .int .i64 ex] ∧ Below w.heap.size w W := by
    intro W hW
    subst hW
    exact ⟨Arr.new _ _ [_, _], (Below.refl _ _).alloc (Nat.le_refl _) _⟩
  obtain ⟨B, hB⟩ : ∃ B, B = w.heap.size := ⟨_, rfl⟩
  go_enter Tryd.func42, Tryd.ntmps42
  go_upto_region 1 with fail
  generalize (w.alloc (.cells #[.int .i64 co, .int .i64 ex] 69)) = w3 at hW ⊢
  obtain ⟨qt, hb3⟩ := hW w3 rfl
  have hM3 := hM.grow hb3
  have HMM := Lib.hid hM3
  obtain ⟨vs, hvl, hrow, hown, hap⟩ := hM3.row
  obtain ⟨v0, hv0⟩ : ∃ v, vs[iz]? = some v := ⟨_, List.getElem?_eq_getElem (by omega)⟩
  have ho := hown iz v0 hv0
  obtain ⟨A0, c0, rfl⟩ := ho.form
  have HRL := Lib.hid (show (drv comp (iz : Int) u 0).length ≤ 1000 from Nat.le_trans (drv_len comp _ u 0) hu)
  have HDR := Lib.hid (show ∀ j : Int, drv comp j (u ++ [x]) 0 = if (iz : Int) = j then drv comp j u 0 ++ [(ex, co)] else drv comp j u 0 from fun j => by
    rw [drv_snoc, hg, ht]; unfold addR
    split
    · rfl
    · rw [List.append_nil])
  have HVS := Lib.hid (And.intro hvl (And.intro hown hap))
  have HOW := Lib.hid (show OwnA 69 2 fc base w3 (.slice A0 (drv comp (iz : Int) u 0).length c0) (drv comp (iz : Int) u 0) from ho)
  have HBX := Lib.hid hM3.box
  have HRW := Lib.hid hrow
  have HNB := Lib.hid (ho.apart hM3.box (by decide))
  have HNR := Lib.hid (ho.apart hrow (by decide))
  have HVI := Lib.hid hv0
  have HB3 := Lib.hid hb3
  have HBS := Lib.hid (Nat.le_trans hbs hb3.size)
  rw [← hB] at qt ⊢
  have HTM := Lib.hid qt
  have zi : (iz : Int) < (n : Int) := by omega
  clear hW qt hb3 hM hM3 hvl hrow hown hap hv0 ho hB ht hg
  obtain ⟨R, hR⟩ : ∃ R, R = drv comp (iz : Int) u 0 := ⟨_, rfl⟩
  rw [← hR] at HRL HOW HNB HNR HVI
  have HR := Lib.hid hR
  clear hR
  refine wp_region_factsU (by kernel_rfl) (by kernel_rfl) (by kernel_rfl) (by kernel_rfl) (by kernel_rfl) (ApS 69 2 fc base w3 (fun i => ([some (.slice (some ⟨rb, 0, none⟩) n n), some (.int .i64 (iz : Int)), some (.slice (some ⟨rb, 0, none⟩) n n), some (.int .i64 (iz : Int)), some (.pointer (some ⟨rb, iz, none⟩)), some (.slice A0 R.length c0), some (.agg #[.int .i64 co, .int .i64 ex]), none, none, some (.pointer (some ⟨rb, iz, none⟩)), none] : List (Option Value)).getD i none) 7 8 10 (.slice A0 R.length c0) (⟨rb, iz, none⟩) (R) ([(ex, co)])) (fun x => ApS.start) ⟨?_, ?_, ?_, ?_, ?_, ?_, ?_, ?_, ?_, ?_, ?_, trivial⟩ ?_
  · intro D x w1 bA hI hD hdep hcl hb
    have hqf : D 10 = false := by cases h : D 10 with | false => rfl | true => (have := hcl 10 h 9 (by decide); have := hcl 9 this 0 (by decide); rw [hD] at this; cases this)
    have e2 : bA.tmps[2]?.getD undef = .pointer (some ⟨tb, 0, none⟩) := hb 2
    have yb := (hI.arrK hqf HBX.out HNB.out).cell 0
    refine wp_of_run (.slice (some ⟨rb, 0, none⟩) n n) (w' := w1) ?_ (hI.val rfl (by decide) (by decide) (by decide))
    clear hb hI hdep hcl
    go_simp
  · intro D x w1 bA hI hD hdep hcl hb
    have e0 : bA.tmps[0]?.getD undef = .int .i64 (iz : Int) := hb 0
    refine wp_of_run (.int .i64 (iz : Int)) (w' := w1) ?_ (hI.val rfl (by decide) (by decide) (by decide))
    clear hb hI hdep hcl
    go_simp
  · intro D x w1 bA hI hD hdep hcl hb
    have hq4 : D 4 = false := by cases h : D 4 with | false => rfl | true => (have := hcl 4 h 2 (by decide); rw [hD] at this; cases this)
    have hq5 : D 5 = false := by cases h : D 5 with | false => rfl | true => (have := hcl 5 h 4 (by decide); rw [hq4] at this; cases this)
    have hq8 : D 8 = false := by cases h : D 8 with | false => rfl | true => (have := hcl 8 h 5 (by decide); rw [hq5] at this; cases this)
    have hqf : D 10 = false := by cases h : D 10 with | false => rfl | true => (have := hcl 10 h 8 (by decide); rw [hq8] at this; cases this)
    have hpre := hI.pre hq8 hqf
    have e2 : bA.tmps[2]?.getD undef = .pointer (some ⟨tb, 0, none⟩) := hb 2
    have yb := (HBX.out.below hpre HBX.out.lt).cell 0
    refine wp_of_run (.slice (some ⟨rb, 0, none⟩) n n) (w' := w1) ?_ (hI.val rfl (by decide) (by decide) (by decide))
    clear hb hI hdep hcl
    go_simp
  · intro D x w1 bA hI hD hdep hcl hb
    have e0 : bA.tmps[0]?.getD undef = .int .i64 (iz : Int) := hb 0
    refine wp_of_run (.int .i64 (iz : Int)) (w' := w1) ?_ (hI.val rfl (by decide) (by decide) (by decide))
    clear hb hI hdep hcl
    go_simp
  · intro D x w1 bA hI hD hdep hcl hb
    have e7 : bA.tmps[7]?.getD undef = .slice (some ⟨rb, 0, none⟩) n n := (hb 7).trans (hI.kn 2 _ rfl (hdep 2 (by decide)))
    have e8 : bA.tmps[8]?.getD undef = .int .i64 (iz : Int) := (hb 8).trans (hI.kn 3 _ rfl (hdep 3 (by decide)))
    refine wp_of_run (.pointer (some ⟨rb, iz, none⟩)) (w' := w1) ?_ (hI.val rfl (by decide) (by decide) (by decide))
    clear hb hI hdep hcl
    go_simp
  · intro D x w1 bA hI hD hdep hcl hb
    have hq8 : D 8 = false := by cases h : D 8 with | false => rfl | true => (have := hcl 8 h 5 (by decide); rw [hD] at this; cases this)
    have hqf : D 10 = false := by cases h : D 10 with | false => rfl | true => (have := hcl 10 h 8 (by decide); rw [hq8] at this; cases this)
    have hpre := hI.pre hq8 hqf
    have e9 : bA.tmps[9]?.getD undef = .pointer (some ⟨rb, iz, none⟩) := (hb 9).trans (hI.kn 4 _ rfl (hdep 4 (by decide)))
    have yr := (HRW.out.below hpre HRW.out.lt).cell iz
    rw [HVI.out] at yr
    refine wp_of_run (.slice A0 R.length c0) (w' := w1) ?_ (hI.val rfl (by decide) (by decide) (by decide))
    clear hb hI hdep hcl
    go_simp
  · intro D x w1 bA hI hD hdep hcl hb
    have hq7 : D 7 = false := by cases h : D 7 with | false => rfl | true => (have := hcl 7 h 6 (by decide); rw [hD] at this; cases this)
    have hq8 : D 8 = false := by cases h : D 8 with | false => rfl | true => (have := hcl 8 h 7 (by decide); rw [hq7] at this; cases this)
    have hqf : D 10 = false := by cases h : D 10 with | false => rfl | true => (have := hcl 10 h 8 (by decide); rw [hq8] at this; cases this)
    have hpre := hI.pre hq8 hqf
    have e4 : bA.tmps[4]?.getD undef = .pointer (some ⟨B, 0, none⟩) := hb 4
    have yt0 := (HTM.out.below hpre HTM.out.lt).cell 0
    have yt1 := (HTM.out.below hpre HTM.out.lt).cell 1
    refine wp_of_run (.agg #[.int .i64 co, .int .i64 ex]) (w' := w1) ?_ (hI.val rfl (by decide) (by decide) (by decide))
    clear hb hI hdep hcl
    go_simp
  · intro D x w1 bA hI hD hdep hcl hb
    have hq8 : D 8 = false := by cases h : D 8 with | false => rfl | true => (have := hcl 8 h 7 (by decide); rw [hD] at this; cases this)
    have hqf : D 10 = false := by cases h : D 10 with | false => rfl | true => (have := hcl 10 h 8 (by decide); rw [hq8] at this; cases this)
    have e11 : bA.tmps[11]?.getD undef = .agg #[.int .i64 co, .int .i64 ex] := (hb 11).trans (hI.kn 6 _ rfl (hdep 6 (by decide)))
    refine wp_of_run (.slice (some ⟨w1.heap.size, 0, none⟩) 1 1) (w' := w1.alloc (.cells #[.int .i64 co, .int .i64 ex] 69)) ?_ (hI.call rfl (by decide) (by decide) hq8 hqf ((Below.refl _ _).alloc (Nat.le_refl _) _) (OwnA.lit (xs := [(ex, co)]) (fun y _ => elF.len y) (Nat.le_refl _) (by simp) (by simp)))
    clear hb hI hdep hcl
    go_simp
  · intro D x w1 bA hI hD hdep hcl hb
    have hqf : D 10 = false := by cases h : D 10 with | false => rfl | true => (have := hcl 10 h 8 (by decide); rw [hD] at this; cases this)
    have e10 : bA.tmps[10]?.getD undef = .slice A0 R.length c0 := (hb 10).trans (hI.kn 5 _ rfl (hdep 5 (by decide)))
    have e12 : bA.tmps[12]?.getD undef = x 7 := hb 12
    exact hI.app elF (.tmp 10) (.tmp 12) 66 66 rfl Tryd.underlying66 Tryd.underlying66 rfl (by decide) (by decide) (hdep 7 (by decide)) hD hqf (by simpa [Act.eval] using e10) (by simpa [Act.eval] using e12) (HOW.out) (HBS.out) (by have := HRL.out; simp; omega)
  · intro D x w1 bA hI hD hdep hcl hb
    have e5 : bA.tmps[5]?.getD undef = .slice (some ⟨rb, 0, none⟩) n n := (hb 5).trans (hI.kn 0 _ rfl (hdep 0 (by decide)))
    have e6 : bA.tmps[6]?.getD undef = .int .i64 (iz : Int) := (hb 6).trans (hI.kn 1 _ rfl (hdep 1 (by decide)))
    refine wp_of_run (.pointer (some ⟨rb, iz, none⟩)) (w' := w1) ?_ (hI.val rfl (by decide) (by decide) (by decide))
    clear hb hI hdep hcl
    go_simp
  · intro D x w1 bA hI hD hdep hcl hb
    have hda : D 8 = true := hdep 8 (by decide)
    have e14 : bA.tmps[14]?.getD undef = .pointer (some ⟨rb, iz, none⟩) := (hb 14).trans (hI.kn 9 _ rfl (hdep 9 (by decide)))
    have e13 : bA.tmps[13]?.getD undef = x 8 := hb 13
    have hst := hI.store rfl hda hD undef
    obtain ⟨hm1, hm2⟩ := hI.mid hda hD
    have qarr := hm2.arr (HRW.out) (HNR.out)
    have qy := qarr.cell iz
    have qf := qarr.frozen iz
    rw [HVI.out] at qy
    obtain ⟨AF, cF, eF⟩ := hm1.form
    generalize x 8 = xA at *
    subst eF
    refine wp_of_skip ?_ hst
    clear hb hI hdep hcl hst hm1 hm2 qarr
    go_simp
  intro D x w1 hI hall
  obtain ⟨wS, vS, hwS, hownS, hkptS⟩ := hI.fin (hall 10 (by simp))
  have x0e : x 0 = .slice (some ⟨rb, 0, none⟩) n n := hI.kn 0 _ rfl (hall 0 (by simp))
  have x1e : x 1 = .int .i64 (iz : Int) := hI.kn 1 _ rfl (hall 1 (by simp))
  have x2e : x 2 = .slice (some ⟨rb, 0, none⟩) n n := hI.kn 2 _ rfl (hall 2 (by simp))
  have x3e : x 3 = .int .i64 (iz : Int) := hI.kn 3 _ rfl (hall 3 (by simp))
  have x4e : x 4 = .pointer (some ⟨rb, iz, none⟩) := hI.kn 4 _ rfl (hall 4 (by simp))
  have x5e : x 5 = .slice A0 R.length c0 := hI.kn 5 _ rfl (hall 5 (by simp))
  have x6e : x 6 = .agg #[.int .i64 co, .int .i64 ex] := hI.kn 6 _ rfl (hall 6 (by simp))
  have x9e : x 9 = .pointer (some ⟨rb, iz, none⟩) := hI.kn 9 _ rfl (hall 9 (by simp))
  simp only [putAll, dstOf, Act.put, List.map_cons, List.map_nil, List.setIfInBounds_toArray, List.set_cons_succ, List.set_cons_zero, Nat.reduceAdd, x0e, x1e, x2e, x3e, x4e, x5e, x6e, x9e]
  clear x0e x1e x2e x3e x4e x5e x6e x9e hI hall
  generalize x 8 = xA, x 7 = xC
  have HW := Lib.hid hwS
  have HON := Lib.hid (show OwnF base wS vS (R ++ [(ex, co)]) from hownS)
  have HKP := Lib.hid hkptS
  clear hwS hownS hkptS
  go_wp2_with fail
  go_end0
  have hk := HKP.out
  have hon := HON.out
  obtain ⟨hvl, hown, hap⟩ := HVS.out
  have hrow := hk.arr HRW.out HNR.out
  have hbox := hk.arr HBX.out HNB.out
  have hiz : iz < vs.length := by omega
  rw [HW.out]
  refine ⟨rfl, ⟨hbox.far (p := ⟨rb, iz, none⟩) (hbox.ne hrow (by decide)) _, vs.set iz vS, by rw [List.length_set]; exact hvl, hrow.set iz vS, fun j v hj => ?_, fun i j a b hij ha hb k hka => ?_⟩, ?_, ?_⟩
  · rw [List.getElem?_set] at hj
    by_cases e : iz = j
    · subst e
      rw [if_pos rfl, if_pos hiz] at hj
      injection hj with hj
      subst hj
      rw [HDR.out, if_pos rfl, ← HR.out]
      exact hon.far (p := ⟨rb, iz, none⟩) (hon.apart hrow (by decide)) _
    · rw [if_neg e] at hj
      rw [HDR.out, if_neg (by omega)]
      have h1 := hown j v hj
      have h2 : OwnF base wS v (drv comp (j : Int) u 0) := h1.keep fun k hk2 => hk.keep k (h1.lt k hk2).2 (fun e2 => hap iz j _ _ e HVI.out hj k e2 hk2)
      exact h2.far (p := ⟨rb, iz, none⟩) (h2.apart hrow (by decide)) _
  · rw [List.getElem?_set] at ha hb
    by_cases e1 : iz = i
    · subst e1
      rw [if_pos rfl, if_pos hiz] at ha
      rw [if_neg hij] at hb
      injection ha with ha
      subst ha
      rcases hk.blk k hka with h1 | h1
      · exact hap iz j _ _ hij HVI.out hb k h1
      · intro h2
        have := (hown j b hb).lt k h2
        omega
    · rw [if_neg e1] at ha
      by_cases e2 : iz = j
      · subst e2
        rw [if_pos rfl, if_pos hiz] at hb
        injection hb with hb
        subst hb
        intro h2
        rcases hk.blk k h2 with h1 | h1
        · exact hap i iz _ _ hij ha HVI.out k hka h1
        · have := (hown i a ha).lt k hka
          omega
      · rw [if_neg e2] at hb
        exact hap i j a b hij ha hb k hka
  · exact ((HB3.out.mono hbs).trans hk.bel).setCell (p := ⟨rb, iz, none⟩) hbr _
  · intro k t cs ha n1 n2
    have h1 : Arr w3 k t cs := ha.below HB3.out ha.lt
    have h2 : Arr wS k t cs := hk.arr h1 (by
      have := HOW.out
      exact OwnF.apart (show OwnF base w3 _ R from this) h1 n2)
    exact h2.far (p := ⟨rb, iz, none⟩) (fun e => by
      have e' : k = rb := e
      subst e'
      exact Arr.ne hrow h2 n1 rfl) _
theorem mc1_clo (base tb rb n : Nat) (comp : List Int) (hn : n = comp.length) (hn2 : n ≤ 1000000) (hbr : base ≤ rb) : CloG 42 tb base comp (MtS base tb rb n comp) where
  eg := enters_of Tryd.func42 (by kernel_rfl) rfl
  grow := fun u W W' h hb => h.grow hb
  far := fun u W db d v h hd => h.far hd
  step := fun u x W hbs hM hu h0 h1 h2 => by
    obtain ⟨iz, hi⟩ : ∃ i : Nat, gnr x = (i : Int) := ⟨(gnr x).toNat, by unfold gnr; split <;> omega⟩
    have hin : iz < n := by unfold gnr at hi; split at hi <;> omega
    obtain ⟨ex, co, ht⟩ : ∃ ex co, trm comp (degW comp u 0) x = (ex, co) := ⟨_, _, rfl⟩
    rw [hi, ht]
    exact mc1_any base tb rb n iz comp u co ex x W hM hbs hbr hin hi ht hu hn2
end Go.Proofs.YtlbihllmpbhhcaaDoor
