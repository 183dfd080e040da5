/- fox.Matrix: its closure. -/
/- fox.sum keeps what is not its own. -/
/- The reference's wide integers: plain. -/
import Derived.Test.YtlbihllmpbhhcaaDoorZAps
import Derived.Deep.RegionHeld
import Derived.Test.YtlbihllmpbhhcaaDoorZFdr
import Derived.Lib.Hide
namespace Go.Proofs.YtlbihllmpbhhcaaDoor
open Go.RowKit
set_option linter.unusedVariables false

theorem elF : ElA Tryd.prog 69 2 fc where
  ex := by
    obtain ⟨i, hi, hz, hs, hb⟩ := info_parts info_fterm
    exact ⟨i, _, 16, hi, hz, hs, hb, rfl, by omega⟩
  pos := by omega
  len := fun x => rfl
  one := fun x q h => by unfold fc at h; simp at h; rcases h with rfl | rfl <;> rfl
/-- the rows of terms when the letters u are done -/
structure MtS (base tb rb n : Nat) (comp u : List Int) (W : World) : Prop where
  box : Arr W tb 89 [.slice (some ⟨rb, 0, none⟩) n n]
  row : ∃ vs : List Value, vs.length = n ∧ Arr W rb 66 vs ∧ (∀ (j : Nat) v, vs[j]? = some v → OwnF base W v (drv comp (j : Int) u 0)) ∧ ∀ (i j : Nat) a b, i ≠ j → vs[i]? = some a → vs[j]? = some b → ∀ k, a.ownBlock = some k → b.ownBlock ≠ some k
theorem MtS.grow {base tb rb n : Nat} {comp u : List Int} {W W' : World} (h : MtS base tb rb n comp u W) (hb : Below W.heap.size W W') : MtS base tb rb n comp u W' := by
  obtain ⟨vs, h1, h2, h3, h4⟩ := h.row
  exact ⟨h.box.below hb h.box.lt, vs, h1, h2.below hb h2.lt, fun j v hj => (h3 j v hj).keep fun k hk => hb.block k ((h3 j v hj).lt k hk).2, h4⟩
theorem MtS.far {base tb rb n : Nat} {comp u : List Int} {W : World} {db : Nat} {d v : Value} (h : MtS base tb rb n comp u W) (hd : Arr W db 3 [d]) : MtS base tb rb n comp u (W.setCell ⟨db, 0, none⟩ v) := by
  obtain ⟨vs, h1, h2, h3, h4⟩ := h.row
  exact ⟨h.box.far (p := ⟨db, 0, none⟩) (h.box.ne hd (by decide)) _, vs, h1, h2.far (p := ⟨db, 0, none⟩) (h2.ne hd (by decide)) _, fun j v hj => (h3 j v hj).far (p := ⟨db, 0, none⟩) ((h3 j v hj).apart hd (by decide)) _, h4⟩
set_option maxHeartbeats 2000000 in
set_option maxRecDepth 100000 in
theorem mc1_any (base tb rb n iz : Nat) (comp u : List Int) (co ex x : Int) (w : World) (hM : MtS base tb rb n comp u w) (hbs : base ≤ w.heap.size) (hbr : base ≤ rb) (hi : iz < n) (hg : gnr x = (iz : Int)) (ht : trm comp (degW comp u 0) x = (ex, co)) (hu : u.length ≤ 1000) (hn : n ≤ 1000000) :
    Calls Tryd.prog 42 #[.int .i64 (iz : Int), .agg #[.int .i64 co, .int .i64 ex], .pointer (some ⟨tb, 0, none⟩)] w fun e w' => e = .returned (.tuple #[]) ∧ MtS base tb rb n comp (u ++ [x]) w' ∧ Below base w w' ∧ KeepT w w' := by
  have hW : ∀ W, W = (w.alloc (.cells #[.int .i64 co, .int .i64 ex] 69)) → Arr W w.heap.size 69 [.int .i64 co, .int .i64 ex] ∧ Below w.heap.size w W := by
    intro W hW
    subst hW
    exact ⟨Arr.new _ _ [_, _], (Below.refl _ _).alloc (Nat.le_refl _) _⟩
  obtain ⟨B, hB⟩ : ∃ B, B = w.heap.size := ⟨_, rfl⟩
  go_enter Tryd.func42, Tryd.ntmps42
  go_upto_region 1 with fail
  generalize (w.alloc (.cells #[.int .i64 co, .int .i64 ex] 69)) = w3 at hW ⊢
  obtain ⟨qt, hb3⟩ := hW w3 rfl
  have hM3 := hM.grow hb3
  have HMM := Lib.hid hM3
  obtain ⟨vs, hvl, hrow, hown, hap⟩ := hM3.row
  obtain ⟨v0, hv0⟩ : ∃ v, vs[iz]? = some v := ⟨_, List.getElem?_eq_getElem (by omega)⟩
  have ho := hown iz v0 hv0
  obtain ⟨A0, c0, rfl⟩ := ho.form
  have HRL := Lib.hid (show (drv comp (iz : Int) u 0).length ≤ 1000 from Nat.le_trans (drv_len comp _ u 0) hu)
  have HDR := Lib.hid (show ∀ j : Int, drv comp j (u ++ [x]) 0 = if (iz : Int) = j then drv comp j u 0 ++ [(ex, co)] else drv comp j u 0 from fun j => by
    rw [drv_snoc, hg, ht]; unfold addR
    split
    · rfl
    · rw [List.append_nil])
  have HVS := Lib.hid (And.intro hvl (And.intro hown hap))
  have HOW := Lib.hid (show OwnA 69 2 fc base w3 (.slice A0 (drv comp (iz : Int) u 0).length c0) (drv comp (iz : Int) u 0) from ho)
  have HBX := Lib.hid hM3.box
  have HRW := Lib.hid hrow
  have HNB := Lib.hid (ho.apart hM3.box (by decide))
  have HNR := Lib.hid (ho.apart hrow (by decide))
  have HVI := Lib.hid hv0
  have HB3 := Lib.hid hb3
  have HBS := Lib.hid (Nat.le_trans hbs hb3.size)
  rw [← hB] at qt ⊢
  have HTM := Lib.hid qt
  have zi : (iz : Int) < (n : Int) := by omega
  clear hW qt hb3 hM hM3 hvl hrow hown hap hv0 ho hB ht hg
  obtain ⟨R, hR⟩ : ∃ R, R = drv comp (iz : Int) u 0 := ⟨_, rfl⟩
  rw [← hR] at HRL HOW HNB HNR HVI
  have HR := Lib.hid hR
  clear hR
  refine wp_region_factsU (by kernel_rfl) (by kernel_rfl) (by kernel_rfl) (by kernel_rfl) (by kernel_rfl) (ApS 69 2 fc base w3 (fun i => ([some (.slice (some ⟨rb, 0, none⟩) n n), some (.int .i64 (iz : Int)), some (.slice (some ⟨rb, 0, none⟩) n n), some (.int .i64 (iz : Int)), some (.pointer (some ⟨rb, iz, none⟩)), some (.slice A0 R.length c0), some (.agg #[.int .i64 co, .int .i64 ex]), none, none, some (.pointer (some ⟨rb, iz, none⟩)), none] : List (Option Value)).getD i none) 7 8 10 (.slice A0 R.length c0) (⟨rb, iz, none⟩) (R) ([(ex, co)])) (fun x => ApS.start) ⟨?_, ?_, ?_, ?_, ?_, ?_, ?_, ?_, ?_, ?_, ?_, trivial⟩ ?_
  · intro D x w1 bA hI hD hdep hcl hb
    have hqf : D 10 = false := by cases h : D 10 with | false => rfl | true => (have := hcl 10 h 9 (by decide); have := hcl 9 this 0 (by decide); rw [hD] at this; cases this)
    have e2 : bA.tmps[2]?.getD undef = .pointer (some ⟨tb, 0, none⟩) := hb 2
    have yb := (hI.arrK hqf HBX.out HNB.out).cell 0
    refine wp_of_run (.slice (some ⟨rb, 0, none⟩) n n) (w' := w1) ?_ (hI.val rfl (by decide) (by decide) (by decide))
    clear hb hI hdep hcl
    go_simp
  · intro D x w1 bA hI hD hdep hcl hb
    have e0 : bA.tmps[0]?.getD undef = .int .i64 (iz : Int) := hb 0
    refine wp_of_run (.int .i64 (iz : Int)) (w' := w1) ?_ (hI.val rfl (by decide) (by decide) (by decide))
    clear hb hI hdep hcl
    go_simp
  · intro D x w1 bA hI hD hdep hcl hb
    have hq4 : D 4 = false := by cases h : D 4 with | false => rfl | true => (have := hcl 4 h 2 (by decide); rw [hD] at this; cases this)
    have hq5 : D 5 = false := by cases h : D 5 with | false => rfl | true => (have := hcl 5 h 4 (by decide); rw [hq4] at this; cases this)
    have hq8 : D 8 = false := by cases h : D 8 with | false => rfl | true => (have := hcl 8 h 5 (by decide); rw [hq5] at this; cases this)
    have hqf : D 10 = false := by cases h : D 10 with | false => rfl | true => (have := hcl 10 h 8 (by decide); rw [hq8] at this; cases this)
    have hpre := hI.pre hq8 hqf
    have e2 : bA.tmps[2]?.getD undef = .pointer (some ⟨tb, 0, none⟩) := hb 2
    have yb := (HBX.out.below hpre HBX.out.lt).cell 0
    refine wp_of_run (.slice (some ⟨rb, 0, none⟩) n n) (w' := w1) ?_ (hI.val rfl (by decide) (by decide) (by decide))
    clear hb hI hdep hcl
    go_simp
  · intro D x w1 bA hI hD hdep hcl hb
    have e0 : bA.tmps[0]?.getD undef = .int .i64 (iz : Int) := hb 0
    refine wp_of_run (.int .i64 (iz : Int)) (w' := w1) ?_ (hI.val rfl (by decide) (by decide) (by decide))
    clear hb hI hdep hcl
    go_simp
  · intro D x w1 bA hI hD hdep hcl hb
    have e7 : bA.tmps[7]?.getD undef = .slice (some ⟨rb, 0, none⟩) n n := (hb 7).trans (hI.kn 2 _ rfl (hdep 2 (by decide)))
    have e8 : bA.tmps[8]?.getD undef = .int .i64 (iz : Int) := (hb 8).trans (hI.kn 3 _ rfl (hdep 3 (by decide)))
    refine wp_of_run (.pointer (some ⟨rb, iz, none⟩)) (w' := w1) ?_ (hI.val rfl (by decide) (by decide) (by decide))
    clear hb hI hdep hcl
    go_simp
  · intro D x w1 bA hI hD hdep hcl hb
    have hq8 : D 8 = false := by cases h : D 8 with | false => rfl | true => (have := hcl 8 h 5 (by decide); rw [hD] at this; cases this)
    have hqf : D 10 = false := by cases h : D 10 with | false => rfl | true => (have := hcl 10 h 8 (by decide); rw [hq8] at this; cases this)
    have hpre := hI.pre hq8 hqf
    have e9 : bA.tmps[9]?.getD undef = .pointer (some ⟨rb, iz, none⟩) := (hb 9).trans (hI.kn 4 _ rfl (hdep 4 (by decide)))
    have yr := (HRW.out.below hpre HRW.out.lt).cell iz
    rw [HVI.out] at yr
    refine wp_of_run (.slice A0 R.length c0) (w' := w1) ?_ (hI.val rfl (by decide) (by decide) (by decide))
    clear hb hI hdep hcl
    go_simp
  · intro D x w1 bA hI hD hdep hcl hb
    have hq7 : D 7 = false := by cases h : D 7 with | false => rfl | true => (have := hcl 7 h 6 (by decide); rw [hD] at this; cases this)
    have hq8 : D 8 = false := by cases h : D 8 with | false => rfl | true => (have := hcl 8 h 7 (by decide); rw [hq7] at this; cases this)
    have hqf : D 10 = false := by cases h : D 10 with | false => rfl | true => (have := hcl 10 h 8 (by decide); rw [hq8] at this; cases this)
    have hpre := hI.pre hq8 hqf
    have e4 : bA.tmps[4]?.getD undef = .pointer (some ⟨B, 0, none⟩) := hb 4
    have yt0 := (HTM.out.below hpre HTM.out.lt).cell 0
    have yt1 := (HTM.out.below hpre HTM.out.lt).cell 1
    refine wp_of_run (.agg #[.int .i64 co, .int .i64 ex]) (w' := w1) ?_ (hI.val rfl (by decide) (by decide) (by decide))
    clear hb hI hdep hcl
    go_simp
  · intro D x w1 bA hI hD hdep hcl hb
    have hq8 : D 8 = false := by cases h : D 8 with | false => rfl | true => (have := hcl 8 h 7 (by decide); rw [hD] at this; cases this)
    have hqf : D 10 = false := by cases h : D 10 with | false => rfl | true => (have := hcl 10 h 8 (by decide); rw [hq8] at this; cases this)
    have e11 : bA.tmps[11]?.getD undef = .agg #[.int .i64 co, .int .i64 ex] := (hb 11).trans (hI.kn 6 _ rfl (hdep 6 (by decide)))
    refine wp_of_run (.slice (some ⟨w1.heap.size, 0, none⟩) 1 1) (w' := w1.alloc (.cells #[.int .i64 co, .int .i64 ex] 69)) ?_ (hI.call rfl (by decide) (by decide) hq8 hqf ((Below.refl _ _).alloc (Nat.le_refl _) _) (OwnA.lit (xs := [(ex, co)]) (fun y _ => elF.len y) (Nat.le_refl _) (by simp) (by simp)))
    clear hb hI hdep hcl
    go_simp
  · intro D x w1 bA hI hD hdep hcl hb
    have hqf : D 10 = false := by cases h : D 10 with | false => rfl | true => (have := hcl 10 h 8 (by decide); rw [hD] at this; cases this)
    have e10 : bA.tmps[10]?.getD undef = .slice A0 R.length c0 := (hb 10).trans (hI.kn 5 _ rfl (hdep 5 (by decide)))
    have e12 : bA.tmps[12]?.getD undef = x 7 := hb 12
    exact hI.app elF (.tmp 10) (.tmp 12) 66 66 rfl Tryd.underlying66 Tryd.underlying66 rfl (by decide) (by decide) (hdep 7 (by decide)) hD hqf (by simpa [Act.eval] using e10) (by simpa [Act.eval] using e12) (HOW.out) (HBS.out) (by have := HRL.out; simp; omega)
  · intro D x w1 bA hI hD hdep hcl hb
    have e5 : bA.tmps[5]?.getD undef = .slice (some ⟨rb, 0, none⟩) n n := (hb 5).trans (hI.kn 0 _ rfl (hdep 0 (by decide)))
    have e6 : bA.tmps[6]?.getD undef = .int .i64 (iz : Int) := (hb 6).trans (hI.kn 1 _ rfl (hdep 1 (by decide)))
    refine wp_of_run (.pointer (some ⟨rb, iz, none⟩)) (w' := w1) ?_ (hI.val rfl (by decide) (by decide) (by decide))
    clear hb hI hdep hcl
    go_simp
  · intro D x w1 bA hI hD hdep hcl hb
    have hda : D 8 = true := hdep 8 (by decide)
    have e14 : bA.tmps[14]?.getD undef = .pointer (some ⟨rb, iz, none⟩) := (hb 14).trans (hI.kn 9 _ rfl (hdep 9 (by decide)))
    have e13 : bA.tmps[13]?.getD undef = x 8 := hb 13
    have hst := hI.store rfl hda hD undef
    obtain ⟨hm1, hm2⟩ := hI.mid hda hD
    have qarr := hm2.arr (HRW.out) (HNR.out)
    have qy := qarr.cell iz
    have qf := qarr.frozen iz
    rw [HVI.out] at qy
    obtain ⟨AF, cF, eF⟩ := hm1.form
    generalize x 8 = xA at *
    subst eF
    refine wp_of_skip ?_ hst
    clear hb hI hdep hcl hst hm1 hm2 qarr
    go_simp
  intro D x w1 hI hall
  obtain ⟨wS, vS, hwS, hownS, hkptS⟩ := hI.fin (hall 10 (by simp))
  have x0e : x 0 = .slice (some ⟨rb, 0, none⟩) n n := hI.kn 0 _ rfl (hall 0 (by simp))
  have x1e : x 1 = .int .i64 (iz : Int) := hI.kn 1 _ rfl (hall 1 (by simp))
  have x2e : x 2 = .slice (some ⟨rb, 0, none⟩) n n := hI.kn 2 _ rfl (hall 2 (by simp))
  have x3e : x 3 = .int .i64 (iz : Int) := hI.kn 3 _ rfl (hall 3 (by simp))
  have x4e : x 4 = .pointer (some ⟨rb, iz, none⟩) := hI.kn 4 _ rfl (hall 4 (by simp))
  have x5e : x 5 = .slice A0 R.length c0 := hI.kn 5 _ rfl (hall 5 (by simp))
  have x6e : x 6 = .agg #[.int .i64 co, .int .i64 ex] := hI.kn 6 _ rfl (hall 6 (by simp))
  have x9e : x 9 = .pointer (some ⟨rb, iz, none⟩) := hI.kn 9 _ rfl (hall 9 (by simp))
  simp only [putAll, dstOf, Act.put, List.map_cons, List.map_nil, List.setIfInBounds_toArray, List.set_cons_succ, List.set_cons_zero, Nat.reduceAdd, x0e, x1e, x2e, x3e, x4e, x5e, x6e, x9e]
  clear x0e x1e x2e x3e x4e x5e x6e x9e hI hall
  generalize x 8 = xA, x 7 = xC
  have HW := Lib.hid hwS
  have HON := Lib.hid (show OwnF base wS vS (R ++ [(ex, co)]) from hownS)
  have HKP := Lib.hid hkptS
  clear hwS hownS hkptS
  go_wp2_with fail
  go_end0
  have hk := HKP.out
  have hon := HON.out
  obtain ⟨hvl, hown, hap⟩ := HVS.out
  have hrow := hk.arr HRW.out HNR.out
  have hbox := hk.arr HBX.out HNB.out
  have hiz : iz < vs.length := by omega
  rw [HW.out]
  refine ⟨rfl, ⟨hbox.far (p := ⟨rb, iz, none⟩) (hbox.ne hrow (by decide)) _, vs.set iz vS, by rw [List.length_set]; exact hvl, hrow.set iz vS, fun j v hj => ?_, fun i j a b hij ha hb k hka => ?_⟩, ?_, ?_⟩
  · rw [List.getElem?_set] at hj
    by_cases e : iz = j
    · subst e
      rw [if_pos rfl, if_pos hiz] at hj
      injection hj with hj
      subst hj
      rw [HDR.out, if_pos rfl, ← HR.out]
      exact hon.far (p := ⟨rb, iz, none⟩) (hon.apart hrow (by decide)) _
    · rw [if_neg e] at hj
      rw [HDR.out, if_neg (by omega)]
      have h1 := hown j v hj
      have h2 : OwnF base wS v (drv comp (j : Int) u 0) := h1.keep fun k hk2 => hk.keep k (h1.lt k hk2).2 (fun e2 => hap iz j _ _ e HVI.out hj k e2 hk2)
      exact h2.far (p := ⟨rb, iz, none⟩) (h2.apart hrow (by decide)) _
  · rw [List.getElem?_set] at ha hb
    by_cases e1 : iz = i
    · subst e1
      rw [if_pos rfl, if_pos hiz] at ha
      rw [if_neg hij] at hb
      injection ha with ha
      subst ha
      rcases hk.blk k hka with h1 | h1
      · exact hap iz j _ _ hij HVI.out hb k h1
      · intro h2
        have := (hown j b hb).lt k h2
        omega
    · rw [if_neg e1] at ha
      by_cases e2 : iz = j
      · subst e2
        rw [if_pos rfl, if_pos hiz] at hb
        injection hb with hb
        subst hb
        intro h2
        rcases hk.blk k h2 with h1 | h1
        · exact hap i iz _ _ hij ha HVI.out k hka h1
        · have := (hown i a ha).lt k hka
          omega
      · rw [if_neg e2] at hb
        exact hap i j a b hij ha hb k hka
  · exact ((HB3.out.mono hbs).trans hk.bel).setCell (p := ⟨rb, iz, none⟩) hbr _
  · intro k t cs ha n1 n2
    have h1 : Arr w3 k t cs := ha.below HB3.out ha.lt
    have h2 : Arr wS k t cs := hk.arr h1 (by
      have := HOW.out
      exact OwnF.apart (show OwnF base w3 _ R from this) h1 n2)
    exact h2.far (p := ⟨rb, iz, none⟩) (fun e => by
      have e' : k = rb := e
      subst e'
      exact Arr.ne hrow h2 n1 rfl) _
theorem mc1_clo (base tb rb n : Nat) (comp : List Int) (hn : n = comp.length) (hn2 : n ≤ 1000000) (hbr : base ≤ rb) : CloG 42 tb base comp (MtS base tb rb n comp) where
  eg := enters_of Tryd.func42 (by kernel_rfl) rfl
  grow := fun u W W' h hb => h.grow hb
  far := fun u W db d v h hd => h.far hd
  step := fun u x W hbs hM hu h0 h1 h2 => by
    obtain ⟨iz, hi⟩ : ∃ i : Nat, gnr x = (i : Int) := ⟨(gnr x).toNat, by unfold gnr; split <;> omega⟩
    have hin : iz < n := by unfold gnr at hi; split at hi <;> omega
    obtain ⟨ex, co, ht⟩ : ∃ ex co, trm comp (degW comp u 0) x = (ex, co) := ⟨_, _, rfl⟩
    rw [hi, ht]
    exact mc1_any base tb rb n iz comp u co ex x W hM hbs hbr hin hi ht hu hn2
end Go.Proofs.YtlbihllmpbhhcaaDoor

namespace Go.Proofs.YtlbihllmpbhhcaaDoor
open Go.RowKit
set_option linter.unusedVariables false

set_option maxHeartbeats 2000000 in
set_option maxRecDepth 100000 in
theorem sum_keep (A0 : Option Addr) (c base : Nat) (ts : List (Int × Int)) (w : World) (h : OwnF base w (.slice A0 ts.length c) ts) (hl : ts.length ≤ 100000) (hu : Unit1 ts) (hbs : base ≤ w.heap.size) :
    Calls Tryd.prog 34 #[.slice A0 ts.length c] w (fun e w' => SumR ts base w e w' ∧ ∀ k, k < w.heap.size → (Value.slice A0 ts.length c).ownBlock ≠ some k → w'.heap[k]? = w.heap[k]?) := by
  have hW : ∀ W, W = (w.alloc (.cells #[.slice A0 ts.length c] 66)).alloc (.cells #[.bool false, .slice none 0 0] 27) → Arr W w.heap.size 66 [.slice A0 ts.length c] ∧ Arr W (w.heap.size + 1) 27 [.bool false, .slice none 0 0] ∧ Below w.heap.size w W ∧ W.heap.size = w.heap.size + 2 := by
    intro W hW
    subst hW
    exact ⟨(Arr.new _ _ [_]).alloc _, Arr.newAt (w.alloc _) _ [_, _] _ (by simp), ((Below.refl _ _).alloc (Nat.le_refl _) _).alloc (by simp) _, by simp⟩
  have hgl := h.lt
  go_enter Tryd.func34, Tryd.ntmps34
  go_upto_region 1 with fail
  generalize ((w.alloc (.cells #[.slice A0 ts.length c] 66)).alloc (.cells #[.bool false, .slice none 0 0] 27)) = w3 at hW ⊢
  obtain ⟨qb, qr, hb3, hs3⟩ := hW w3 rfl
  clear hW
  have HSO := Lib.hid (sortV_any (.slice A0 ts.length c) base ts w3 (h.below hb3) hl)
  have y0 := qb.cell 0
  clear h
  go_wp2_with fail
  refine HSO.out.mono ?_
  rintro e w4 ⟨rfl, ts', hp, hf, hb4, hk⟩
  have hkeep4 := Lib.hid (fun k (h1 : k < w.heap.size) (h2 : (Value.slice A0 ts.length c).ownBlock ≠ some k) => (hk k (fun q => h2 q) (by omega)).trans (hb3.block k h1))
  have qb4 : Arr w4 w.heap.size 66 [.slice A0 ts.length c] := (hk _ (fun q => absurd (hgl _ q).2 (by omega)) (by omega)).trans qb
  have qr4 : Arr w4 (w.heap.size + 1) 27 [.bool false, .slice none 0 0] := (hk _ (fun q => absurd (hgl _ q).2 (by omega)) (by omega)).trans qr
  have hbw : Below base w w4 := (hb3.mono hbs).trans hb4
  have hs4 : w.heap.size + 2 ≤ w4.heap.size := by have := hb4.size; omega
  have hlen := hp.length_eq
  have HU := Lib.hid (show Unit1 ts' from fun t ht => hu t (hp.mem_iff.1 ht))
  have HCF := Lib.hid (fun x => cf_perm hp x)
  have HF := Lib.hid hf
  have HL := Lib.hid hlen
  clear y0 hgl hk hp hf hb4 hb3 qb qr HSO hlen hs3 hu
  go_upto_region 3 with fail
  have hX : Arr (w4.alloc (.cells #[.nilFunc] 108)) w4.heap.size 108 [.nilFunc] ∧ Below w4.heap.size w4 (w4.alloc (.cells #[.nilFunc] 108)) := ⟨Arr.new _ _ [_], (Below.refl _ _).alloc (Nat.le_refl _) _⟩
  generalize (w4.alloc (.cells #[.nilFunc] 108)) = w5 at hX ⊢
  obtain ⟨qp5, hb5⟩ := hX
  have hb6 := hb5.setCell (p := ⟨w4.heap.size, 0, none⟩) (Nat.le_refl _) (.func (.func 62) #[] #[.pointer (some ⟨w.heap.size, 0, none⟩), .pointer (some ⟨w4.heap.size, 0, none⟩)])
  have qp6 := qp5.set 0 (.func (.func 62) #[] #[.pointer (some ⟨w.heap.size, 0, none⟩), .pointer (some ⟨w4.heap.size, 0, none⟩)])
  have y0 := qp5.cell 0
  have y1 := qp5.frozen 0
  go_upto_region 4 with fail
  clear y0 y1
  generalize w5.setCell ⟨w4.heap.size, 0, none⟩ (.func (.func 62) #[] #[.pointer (some ⟨w.heap.size, 0, none⟩), .pointer (some ⟨w4.heap.size, 0, none⟩)]) = w6 at *
  have qb6 := qb4.below hb6 qb4.lt
  have qr6 := qr4.below hb6 qr4.lt
  have hbw6 := hbw.trans (hb6.mono (Nat.le_trans hbs (by omega)))
  have hs6 : w.heap.size + 2 ≤ w6.heap.size := by have := hb6.size; omega
  have HF6 := Lib.hid (HF.out.below hb6)
  have hkeep6 := Lib.hid (fun k (h1 : k < w.heap.size) h2 => (hb6.block k (by omega)).trans (hkeep4.out k h1 h2))
  have y0 := qp6.cell 0
  have y1 := qb6.cell 0
  have HPA := Lib.hid (fun (f : FTm w6 (.slice A0 ts.length c) ts') => part_any w.heap.size w4.heap.size (.slice A0 ts.length c) ts' HU.out (by have := HL.out; omega) ts'.length 0 ts'.length (by omega) (by omega) (Nat.le_refl _) w6 qb6 qp6 f)
  have HP := Lib.hid (HPA.out HF6.out)
  have e0 := HL.out
  rw [e0] at HP
  clear HPA e0 hb5 hb6 qp5 qb4 qr4 HF HF6
  go_wp2_with fail
  refine HP.out.mono ?_
  rintro e w7 ⟨v, r, rfl, hv, hc, hli, hx, hb7⟩
  have q7 := qr6.below hb7 qr6.lt
  have hkeep7 := Lib.hid (fun k (h1 : k < w.heap.size) h2 => (hb7.block k (by omega)).trans (hkeep6.out k h1 h2))
  have hbw7 := hbw6.trans (hb7.mono (Nat.le_trans hbs (by omega)))
  have HV := Lib.hid (fun u1 u2 => hv.box q7 u1 u2)
  have HR := Lib.hid (And.intro hc (And.intro hli hx))
  obtain ⟨b5, A5, n5, c5, rfl, j5, j6⟩ := hv.parts
  clear j5 j6 hv hc hli hx y0 y1 qr6 qb6 qp6 HP hb7 hbw6
  have x0 := q7.cell 0
  have x1 := q7.cell 1
  have f0 := q7.frozen 0
  have f1 := q7.frozen 1
  have hres := Lib.hid ((q7.set 0 (.bool b5)).set 1 (.slice A5 n5 c5))
  go_wp2_with fail
  refine bodyPost_ret (v := .agg #[.bool b5, .slice A5 n5 c5]) (results_c Tryd.results34 _ _ (w.heap.size + 1) 27 _ _ rfl hres.out Tryd.underlying27 rfl info_poly) rfl ?_
  refine ⟨⟨_, r, rfl, HV.out _ _, HR.out.1, HR.out.2.1, fun x => ?_, (hbw7.setCell (p := ⟨w.heap.size + 1, 0, none⟩) (Nat.le_trans hbs (by simp)) _).setCell (p := ⟨w.heap.size + 1, 1, none⟩) (Nat.le_trans hbs (by simp)) _⟩, fun k h1 h2 => ((Below.heap_setCell _ _ _ k (show k ≠ w.heap.size + 1 by omega)).trans (Below.heap_setCell _ _ _ k (show k ≠ w.heap.size + 1 by omega))).trans (hkeep7.out k h1 h2)⟩
  have h1 := HR.out.2.2 x
  rw [← HL.out, sl_all] at h1
  rw [h1, HCF.out]
end Go.Proofs.YtlbihllmpbhhcaaDoor

namespace Go.Proofs.YtlbihllmpbhhcaaDoor
set_option linter.unusedVariables false

def nh (x : Int) : Int := x / 1125899906842624
def nl (x : Int) : Int := x % 1125899906842624
theorem nl_bd (x : Int) : 0 ≤ nl x ∧ nl x < 1125899906842624 := by unfold nl; omega
theorem nw_eq (x : Int) : nh x * 1125899906842624 + nl x = x := by unfold nh nl; omega
theorem nw_add (x y : Int) : (nh x + nh y) * 1125899906842624 + (nl x + nl y) = x + y := by unfold nh nl; omega
theorem nh_bd {x B : Int} (h : -(B * 1125899906842624) ≤ x ∧ x ≤ B * 1125899906842624) : -B ≤ nh x ∧ nh x ≤ B := by unfold nh; omega
/-- the end of norm -/
theorem norm_end (h l : Int) (h0 : 0 ≤ l) : h + l / 1125899906842624 = nh (h * 1125899906842624 + l) ∧ l % 1125899906842624 = nl (h * 1125899906842624 + l) := by unfold nh nl; omega
theorem norm_step (h l : Int) : (h - 1) * 1125899906842624 + (l + 1125899906842624) = h * 1125899906842624 + l := by omega
/-- a piece -/
theorem piece_nw (p : Int) : nh p = p.tdiv 1125899906842624 + nh (p.tmod 1125899906842624) ∧ nl p = nl (p.tmod 1125899906842624) := by
  have h := Int.mul_tdiv_add_tmod p 1125899906842624
  generalize p.tdiv 1125899906842624 = a at *
  generalize p.tmod 1125899906842624 = b at *
  unfold nh nl
  omega
theorem tmod_bd (p : Int) : -1125899906842624 < p.tmod 1125899906842624 ∧ p.tmod 1125899906842624 < 1125899906842624 := by
  have h1 := Int.tmod_lt_of_pos p (show (0 : Int) < 1125899906842624 by decide)
  have h2 := Int.lt_tmod_of_pos p (show (0 : Int) < 1125899906842624 by decide)
  omega
theorem tdiv_bd {p B : Int} (hB : 0 ≤ B) (h : -B ≤ p ∧ p ≤ B) : -B ≤ p.tdiv 1125899906842624 ∧ p.tdiv 1125899906842624 ≤ B := by
  have h1 := Int.mul_tdiv_add_tmod p 1125899906842624
  have h2 := tmod_bd p
  omega
/-- the digits of a factor -/
def dig (A k : Nat) : Nat := A / 1024 ^ k % 1024
theorem dig_lt (A k : Nat) : dig A k < 1024 := Nat.mod_lt _ (by omega)
def low (A k : Nat) : Nat := A % 1024 ^ k
theorem low_succ (A k : Nat) : low A (k + 1) = low A k + dig A k * 1024 ^ k := by
  unfold low dig
  rw [Nat.pow_succ, Nat.mod_mul, Nat.mul_comm (1024 ^ k)]
theorem low_0 (A : Nat) : low A 0 = 0 := by unfold low; rw [Nat.pow_zero, Nat.mod_one]
theorem low_6 {A : Nat} (h : A < 1152921504606846976) : low A 6 = A := Nat.mod_eq_of_lt (by omega)
theorem low_le (A k : Nat) : low A k ≤ A := Nat.mod_le _ _
theorem low_lt (A k : Nat) : low A k < 1024 ^ k := Nat.mod_lt _ (Nat.pow_pos (by omega))
theorem shr_dig (A k : Nat) : (A : Int) / ((2 : Int) ^ (10 * k)) % 1024 = ((dig A k : Nat) : Int) := by
  unfold dig
  rw [show (1024 : Nat) ^ k = 2 ^ (10 * k) by rw [Nat.pow_mul]]
  simp
theorem two_pow10 (k : Nat) : (2 : Nat) ^ (10 * k) = 1024 ^ k := by rw [Nat.pow_mul]
end Go.Proofs.YtlbihllmpbhhcaaDoor
