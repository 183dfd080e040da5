/- braid.Valid. -/
/- surface.loops: its closure. -/
/- surface.loops: plain functions, the walk. -/
import Derived.Test.YtbkgpfalljgdcaaGreatDoorZTmo
import Derived.Test.YtbkgpfalljgdcaaGreatDoorZAps
import Derived.Test.YtbkgpfalljgdcaaGreatDoorZMpo
namespace Go.Proofs.YtbkgpfalljgdcaaGreatDoor
open Go.RowKit
set_option linter.unusedVariables false

def letB (N l : Int) : Bool := decide (l ≠ 0) && decide (-N < l) && decide (l < N)
/-- a valid braid -/
def brV (N : Int) (W : List Int) : Bool := decide (1 ≤ N) && decide (N ≤ 10) && decide (W.length ≤ 200) && W.all (letB N)
theorem brV_iff {N : Int} {W : List Int} : brV N W = true ↔ 1 ≤ N ∧ N ≤ 10 ∧ W.length ≤ 200 ∧ ∀ l ∈ W, l ≠ 0 ∧ -N < l ∧ l < N := by
  unfold brV letB
  simp only [Bool.and_eq_true, decide_eq_true_eq, List.all_eq_true]
  constructor
  · rintro ⟨⟨⟨h1, h2⟩, h3⟩, h4⟩
    exact ⟨h1, h2, h3, fun l hl => by have := h4 l hl; exact ⟨this.1.1, this.1.2, this.2⟩⟩
  · rintro ⟨h1, h2, h3, h4⟩
    exact ⟨⟨⟨h1, h2⟩, h3⟩, fun l hl => by have := h4 l hl; exact ⟨⟨this.1, this.2.1⟩, this.2.2⟩⟩
set_option maxHeartbeats 2000000 in
set_option maxRecDepth 100000 in
theorem bvalid_any (N : Int) (vw : Value) (W : List Int) (w : World) (h : Ints w vw W) (hl : W.length ≤ 9223372036854775807) (hN : -9223372036854775808 ≤ N ∧ N ≤ 9223372036854775807) :
    Calls Tryz.prog 23 #[.agg #[.int .i64 N, vw]] w fun e w' => e = .returned (.bool (brV N W)) ∧ Below w.heap.size w w' := by
  have HH := Lib.hid (fun W' (hb : Below w.heap.size w W') => h.below hb)
  obtain ⟨A, c, hv, -, -⟩ := h
  subst hv
  obtain ⟨n, hnn⟩ : ∃ n, n = W.length := ⟨_, rfl⟩
  rw [← hnn] at HH hl ⊢
  have HNN := Lib.hid hnn
  clear hnn
  obtain ⟨B, hB⟩ : ∃ B, B = brV N W := ⟨_, rfl⟩
  rw [← hB]
  have HB := Lib.hid hB
  clear hB
  have hW : ∀ W', W' = w.alloc (.cells #[.int .i64 N, .slice A n c] 24) → Arr W' w.heap.size 24 [.int .i64 N, .slice A n c] ∧ Below w.heap.size w W' := by
    intro W' hW
    subst hW
    exact ⟨Arr.new _ _ [_, _], (Below.refl _ _).alloc (Nat.le_refl _) _⟩
  have key : ∀ (hbad : brV N W = false), B = false := fun hbad => HB.out.trans hbad
  have HK := Lib.hid key
  clear key
  go_enter Tryz.func23, Tryz.ntmps23
  go_upto_region 1 with fail
  generalize w.alloc (.cells #[.int .i64 N, .slice A n c] 24) = w3 at hW ⊢
  obtain ⟨qp, hb3⟩ := hW w3 rfl
  have HBX := Lib.hid hb3
  have y0 := qp.cell 0
  have y1 := qp.cell 1
  have HQ := Lib.hid qp
  clear hW qp hb3
  by_cases h1 : N < 1
  · have HE := Lib.hid (HK.out (Bool.eq_false_iff.2 fun h => by have := (brV_iff.1 h).1; omega))
    go_wp2_with fail
    go_ret
    exact ⟨by rw [HE.out]; rfl, HBX.out⟩
  by_cases h2 : 10 < N
  · have HE := Lib.hid (HK.out (Bool.eq_false_iff.2 fun h => by have := (brV_iff.1 h).2.1; omega))
    go_wp2_with fail
    go_ret
    exact ⟨by rw [HE.out]; rfl, HBX.out⟩
  by_cases h3 : (200 : Int) < (n : Int)
  · have HE := Lib.hid (HK.out (Bool.eq_false_iff.2 fun h => by have := (brV_iff.1 h).2.2.1; have := HNN.out; omega))
    go_wp2_with fail
    go_ret
    exact ⟨by rw [HE.out]; rfl, HBX.out⟩
  go_upto_region 4 with fail
  go_loopg [4, 22] n (fun gk s4 s22 wr => ∃ i : Nat, i ≤ n ∧ gk = n - i ∧ s22 = .int .i64 (i : Int) ∧ wr = w3 ∧ ∀ k (hk : k < W.length), k < i → letB N W[k] = true)
  case atStart => exact ⟨0, by omega, rfl, rfl, rfl, fun k _ h => absurd h (by omega)⟩
  case round =>
    obtain ⟨i, hi, rfl, rfl, rfl, hall⟩ := hrel
    have HALL := Lib.hid hall
    clear hall
    by_cases hit : i < n
    · have z1 : (i : Int) < (n : Int) := by omega
      have hml : i < W.length := by rw [← HNN.out]; exact hit
      obtain ⟨b1, o1, rfl, hlt, q0⟩ := (HH.out _ HBX.out).at_ hml
      have HBF := Lib.hid (show letB N W[i] = false → B = false from fun hf => HK.out (Bool.eq_false_iff.2 fun h => by
        have h4 := (brV_iff.1 h).2.2.2 _ (List.getElem_mem hml)
        unfold letB at hf
        simp [h4.1, h4.2.1, h4.2.2] at hf))
      have HIX := Lib.hid (show ∀ k (hk : k < W.length), k < i + 1 → k < i ∨ W[k] = W[i] from fun k hk h => by
        rcases Nat.lt_or_ge k i with z | z
        · exact .inl z
        · have : k = i := by omega
          subst this; exact .inr rfl)
      generalize W[i] = l at *
      have hlb : letB N l = (decide (l ≠ 0) && decide (-N < l) && decide (l < N)) := rfl
      have HLB := Lib.hid hlb
      clear hlb hlt hml
      have c1 := q0
      clear q0
      have hnw : IntKind.i64.wrap (-N) = -N := IntWalk.i64_in _ (by omega)
      by_cases g1 : l = 0
      · have z4 : (l == 0) = true := by simp [g1]
        have HE := Lib.hid (HBF.out (by rw [HLB.out]; simp [g1]))
        clear g1
        go_wp2_with fail
        go_ret
        exact ⟨by rw [HE.out]; rfl, HBX.out⟩
      have z4 : (l == 0) = false := by simp [g1]
      by_cases g2 : l ≤ -N
      · have HE := Lib.hid (HBF.out (by rw [HLB.out]; simp; omega))
        clear g1
        go_wp2_with fail
        go_ret
        exact ⟨by rw [HE.out]; rfl, HBX.out⟩
      by_cases g3 : N ≤ l
      · have HE := Lib.hid (HBF.out (by rw [HLB.out]; simp; omega))
        clear g1
        go_wp2_with fail
        go_ret
        exact ⟨by rw [HE.out]; rfl, HBX.out⟩
      have HT := Lib.hid (show letB N l = true by rw [HLB.out]; simp; omega)
      clear g1
      go_wp2_with fail
      go_roundg (n - (i + 1))
      case measure => omega
      case rel => exact ⟨i + 1, by omega, rfl, by go_num, rfl, fun k hk h => by
        rcases HIX.out k hk h with z | z
        · exact HALL.out k hk z
        · rw [z]; exact HT.out⟩
    · have z1 : ¬ ((i : Int) < (n : Int)) := by omega
      have HE := Lib.hid (show B = true by
        rw [HB.out]
        refine brV_iff.2 ⟨by omega, by omega, by have := HNN.out; omega, fun l hl => ?_⟩
        obtain ⟨k, hk, rfl⟩ := List.getElem_of_mem hl
        have := HALL.out k hk (by have := HNN.out; omega)
        unfold letB at this
        simp only [Bool.and_eq_true, decide_eq_true_eq] at this
        exact ⟨this.1.1, this.1.2, this.2⟩)
      go_wp2_with fail
      go_ret
      exact ⟨by rw [HE.out]; rfl, HBX.out⟩
end Go.Proofs.YtbkgpfalljgdcaaGreatDoor

namespace Go.Proofs.YtbkgpfalljgdcaaGreatDoor
open Go.RowKit
set_option linter.unusedVariables false

abbrev L3 := Int × Int × Int
def tcL (t : L3) : List Value := [.int .i64 t.1, .int .i64 t.2.1, .int .i64 t.2.2]
theorem info_loop : (Tryz.prog.info? 50).map (fun i => (i.zero, i.size, i.bytes)) = some (some (.agg #[.int .i64 0, .int .i64 0, .int .i64 0]), 3, 24) := by kernel_rfl
theorem elLp : ElA Tryz.prog 50 3 tcL where
  ex := by
    obtain ⟨i, hi, hz, hs, hb⟩ := info_parts info_loop
    exact ⟨i, _, 24, hi, hz, hs, hb, rfl, by omega⟩
  pos := by omega
  len := fun x => rfl
  one := fun x q h => by unfold tcL at h; simp at h; rcases h with rfl | rfl | rfl <;> rfl
/-- what the call has left as it was -/
structure Kep (b0 gL g6 : Nat) (v0 : Value) (w w' : World) : Prop where
  bel : Below b0 w w'
  keep : ∀ k, k < w.heap.size → k ≠ gL → k ≠ g6 → v0.ownBlock ≠ some k → w'.heap[k]? = w.heap[k]?
def OccP (b0 B gL g6 : Nat) (v0 : Value) (cs : List Int) (L : List L3) (w : World) (e : Ending) (w' : World) : Prop :=
  e = .returned (.tuple #[]) ∧ ∃ A1 n1 c1, Arr w' gL 79 (cs.map (Value.int .i64)) ∧ Arr w' g6 46 [.slice A1 n1 c1] ∧ OwnA 50 3 tcL B w' (.slice A1 n1 c1) L ∧ Kep b0 gL g6 v0 w w' ∧ ∀ k, (Value.slice A1 n1 c1).ownBlock = some k → v0.ownBlock = some k ∨ w.heap.size ≤ k
set_option maxHeartbeats 2000000 in
set_option maxRecDepth 100000 in
theorem occur_any (gz gL g6 B b0 n0 c0 : Nat) (ix la : Int) (cs : List Int) (A0 : Option Addr) (L : List L3) (w : World) (hgL : Arr w gL 79 (cs.map (Value.int .i64))) (hg6 : Arr w g6 46 [.slice A0 n0 c0]) (ho : OwnA 50 3 tcL B w (.slice A0 n0 c0) L)
    (hz : gz < 10) (hcl : cs.length = 10) (hla : cs[gz]? = some la) (hB : B ≤ w.heap.size) (h1 : b0 ≤ gL) (h2 : b0 ≤ g6) (h3 : b0 ≤ B) (hLl : L.length ≤ 1000000) (hne : gL ≠ g6) :
    Calls Tryz.prog 35 #[.int .i64 (gz : Int), .int .i64 ix, .pointer (some ⟨gL, 0, none⟩), .pointer (some ⟨g6, 0, none⟩)] w (OccP b0 B gL g6 (.slice A0 n0 c0) (cs.set gz ix) (if 0 ≤ la then L ++ [((gz : Int), la, ix)] else L) w) := by
  have z1 : (gz : Int) < 10 := by omega
  have HGL := Lib.hid hgL
  have HG6 := Lib.hid hg6
  have HOW := Lib.hid ho
  have HBS := Lib.hid hB
  have HLL := Lib.hid hLl
  have HVI := Lib.hid (show (cs.map (Value.int .i64))[gz]? = some (.int .i64 la) by rw [List.getElem?_map, hla]; rfl)
  have HN6 := Lib.hid (ho.apartT hg6 (by decide))
  have HNL := Lib.hid (ho.apartT hgL (by decide))
  have HNE := Lib.hid hne
  have HB0 := Lib.hid (show b0 ≤ gL ∧ b0 ≤ g6 ∧ b0 ≤ B from ⟨h1, h2, h3⟩)
  have HSET := Lib.hid (show (cs.map (Value.int .i64)).set gz (.int .i64 ix) = (cs.set gz ix).map (Value.int .i64) from List.map_set.symm)
  have y0 := hgL.cell gz
  rw [HVI.out] at y0
  clear hgL hg6 ho hB hLl hla hcl hne h1 h2 h3
  go_enter Tryz.func35, Tryz.ntmps35
  by_cases hl : 0 ≤ la
  · rw [if_pos hl]
    go_upto_region 1 with fail
    clear y0
    refine wp_region_factsU (by kernel_rfl) (by kernel_rfl) (by kernel_rfl) (by kernel_rfl) (by kernel_rfl) (ApS 50 3 tcL B w (fun i => ([some (.slice A0 n0 c0), some (.int .i64 (gz : Int)), some (.int .i64 (gz : Int)), some (.pointer (some ⟨gL, gz, none⟩)), some (.int .i64 la), some (.int .i64 ix), some (.agg #[.int .i64 (gz : Int), .int .i64 la, .int .i64 ix]), none, none, none] : List (Option Value)).getD i none) 7 8 9 (.slice A0 n0 c0) (⟨g6, 0, none⟩) (L) ([((gz : Int), la, ix)])) (fun x => ApS.start) ⟨?_, ?_, ?_, ?_, ?_, ?_, ?_, ?_, ?_, ?_, trivial⟩ ?_
    · intro D x w1 bA hI hD hdep hcl hb
      have hq8 : D 8 = false := by cases h : D 8 with | false => rfl | true => (have := hcl 8 h 0 (by decide); rw [hD] at this; cases this)
      have hqf : D 9 = false := by cases h : D 9 with | false => rfl | true => (have := hcl 9 h 8 (by decide); rw [hq8] at this; cases this)
      have hpre := hI.pre hq8 hqf
      have e3 : bA.tmps[3]?.getD undef = .pointer (some ⟨g6, 0, none⟩) := hb 3
      have yb := (HG6.out.below hpre HG6.out.lt).cell 0
      refine wp_of_run (.slice A0 n0 c0) (w' := w1) ?_ (hI.val rfl (by decide) (by decide) (by decide))
      clear hb hI hdep hcl
      go_simp
    · intro D x w1 bA hI hD hdep hcl hb
      have e0 : bA.tmps[0]?.getD undef = .int .i64 (gz : Int) := hb 0
      refine wp_of_run (.int .i64 (gz : Int)) (w' := w1) ?_ (hI.val rfl (by decide) (by decide) (by decide))
      clear hb hI hdep hcl
      go_simp
    · intro D x w1 bA hI hD hdep hcl hb
      have e0 : bA.tmps[0]?.getD undef = .int .i64 (gz : Int) := hb 0
      refine wp_of_run (.int .i64 (gz : Int)) (w' := w1) ?_ (hI.val rfl (by decide) (by decide) (by decide))
      clear hb hI hdep hcl
      go_simp
    · intro D x w1 bA hI hD hdep hcl hb
      have e2 : bA.tmps[2]?.getD undef = .pointer (some ⟨gL, 0, none⟩) := hb 2
      have e12 : bA.tmps[12]?.getD undef = .int .i64 (gz : Int) := (hb 12).trans (hI.kn 2 _ rfl (hdep 2 (by decide)))
      refine wp_of_run (.pointer (some ⟨gL, gz, none⟩)) (w' := w1) ?_ (hI.val rfl (by decide) (by decide) (by decide))
      clear hb hI hdep hcl
      go_simp
    · intro D x w1 bA hI hD hdep hcl hb
      have hq6 : D 6 = false := by cases h : D 6 with | false => rfl | true => (have := hcl 6 h 4 (by decide); rw [hD] at this; cases this)
      have hq7 : D 7 = false := by cases h : D 7 with | false => rfl | true => (have := hcl 7 h 6 (by decide); rw [hq6] at this; cases this)
      have hq8 : D 8 = false := by cases h : D 8 with | false => rfl | true => (have := hcl 8 h 7 (by decide); rw [hq7] at this; cases this)
      have hqf : D 9 = false := by cases h : D 9 with | false => rfl | true => (have := hcl 9 h 8 (by decide); rw [hq8] at this; cases this)
      have hpre := hI.pre hq8 hqf
      have e13 : bA.tmps[13]?.getD undef = .pointer (some ⟨gL, gz, none⟩) := (hb 13).trans (hI.kn 3 _ rfl (hdep 3 (by decide)))
      have yr := (HGL.out.below hpre HGL.out.lt).cell gz
      rw [HVI.out] at yr
      refine wp_of_run (.int .i64 la) (w' := w1) ?_ (hI.val rfl (by decide) (by decide) (by decide))
      clear hb hI hdep hcl
      go_simp
    · intro D x w1 bA hI hD hdep hcl hb
      have e1 : bA.tmps[1]?.getD undef = .int .i64 ix := hb 1
      refine wp_of_run (.int .i64 ix) (w' := w1) ?_ (hI.val rfl (by decide) (by decide) (by decide))
      clear hb hI hdep hcl
      go_simp
    · intro D x w1 bA hI hD hdep hcl hb
      have e11 : bA.tmps[11]?.getD undef = .int .i64 (gz : Int) := (hb 11).trans (hI.kn 1 _ rfl (hdep 1 (by decide)))
      have e14 : bA.tmps[14]?.getD undef = .int .i64 la := (hb 14).trans (hI.kn 4 _ rfl (hdep 4 (by decide)))
      have e15 : bA.tmps[15]?.getD undef = .int .i64 ix := (hb 15).trans (hI.kn 5 _ rfl (hdep 5 (by decide)))
      refine wp_of_run (.agg #[.int .i64 (gz : Int), .int .i64 la, .int .i64 ix]) (w' := w1) ?_ (hI.val rfl (by decide) (by decide) (by decide))
      clear hb hI hdep hcl
      go_simp
    · intro D x w1 bA hI hD hdep hcl hb
      have hq8 : D 8 = false := by cases h : D 8 with | false => rfl | true => (have := hcl 8 h 7 (by decide); rw [hD] at this; cases this)
      have hqf : D 9 = false := by cases h : D 9 with | false => rfl | true => (have := hcl 9 h 8 (by decide); rw [hq8] at this; cases this)
      have e16 : bA.tmps[16]?.getD undef = .agg #[.int .i64 (gz : Int), .int .i64 la, .int .i64 ix] := (hb 16).trans (hI.kn 6 _ rfl (hdep 6 (by decide)))
      refine wp_of_run (.slice (some ⟨w1.heap.size, 0, none⟩) 1 1) (w' := w1.alloc (.cells #[.int .i64 (gz : Int), .int .i64 la, .int .i64 ix] 50)) ?_ (hI.call rfl (by decide) (by decide) hq8 hqf ((Below.refl _ _).alloc (Nat.le_refl _) _) (OwnA.lit (xs := [((gz : Int), la, ix)]) (fun y _ => elLp.len y) (Nat.le_refl _) (by simp) (by simp)))
      clear hb hI hdep hcl
      go_simp
    · intro D x w1 bA hI hD hdep hcl hb
      have hqf : D 9 = false := by cases h : D 9 with | false => rfl | true => (have := hcl 9 h 8 (by decide); rw [hD] at this; cases this)
      have e10 : bA.tmps[10]?.getD undef = .slice A0 n0 c0 := (hb 10).trans (hI.kn 0 _ rfl (hdep 0 (by decide)))
      have e17 : bA.tmps[17]?.getD undef = x 7 := hb 17
      exact hI.app elLp (.tmp 10) (.tmp 17) 46 46 rfl Tryz.underlying46 Tryz.underlying46 rfl (by decide) (by decide) (hdep 7 (by decide)) hD hqf (by simpa [Act.eval] using e10) (by simpa [Act.eval] using e17) (HOW.out) (HBS.out) (by have := HLL.out; simp; omega)
    · intro D x w1 bA hI hD hdep hcl hb
      have hda : D 8 = true := hdep 8 (by decide)
      have e3 : bA.tmps[3]?.getD undef = .pointer (some ⟨g6, 0, none⟩) := hb 3
      have e18 : bA.tmps[18]?.getD undef = x 8 := hb 18
      have hst := hI.store rfl hda hD undef
      obtain ⟨hm1, hm2⟩ := hI.mid hda hD
      have qarr := hm2.arr (HG6.out) (HN6.out)
      have qy := qarr.cell 0
      have qf := qarr.frozen 0
      obtain ⟨AF, cF, eF⟩ := hm1.form
      generalize x 8 = xA at *
      subst eF
      refine wp_of_skip ?_ hst
      clear hb hI hdep hcl hst hm1 hm2 qarr
      go_simp
    intro D x w1 hI hall
    obtain ⟨wS, vS, hwS, hownS, hkptS⟩ := hI.fin (hall 9 (by simp))
    have x0e : x 0 = .slice A0 n0 c0 := hI.kn 0 _ rfl (hall 0 (by simp))
    have x1e : x 1 = .int .i64 (gz : Int) := hI.kn 1 _ rfl (hall 1 (by simp))
    have x2e : x 2 = .int .i64 (gz : Int) := hI.kn 2 _ rfl (hall 2 (by simp))
    have x3e : x 3 = .pointer (some ⟨gL, gz, none⟩) := hI.kn 3 _ rfl (hall 3 (by simp))
    have x4e : x 4 = .int .i64 la := hI.kn 4 _ rfl (hall 4 (by simp))
    have x5e : x 5 = .int .i64 ix := hI.kn 5 _ rfl (hall 5 (by simp))
    have x6e : x 6 = .agg #[.int .i64 (gz : Int), .int .i64 la, .int .i64 ix] := hI.kn 6 _ rfl (hall 6 (by simp))
    simp only [putAll, dstOf, Act.put, List.map_cons, List.map_nil, List.setIfInBounds_toArray, List.set_cons_succ, List.set_cons_zero, Nat.reduceAdd, x0e, x1e, x2e, x3e, x4e, x5e, x6e]
    clear x0e x1e x2e x3e x4e x5e x6e hI hall
    generalize x 8 = xA, x 7 = xC
    have hgLS := hkptS.arr HGL.out HNL.out
    have hg6S := hkptS.arr HG6.out HN6.out
    obtain ⟨A1, c1, hf⟩ := hownS.form
    subst hf
    have q6 := hg6S.set 0 (.slice A1 (L ++ [((gz : Int), la, ix)]).length c1)
    have qL := hgLS.far (p := ⟨g6, 0, none⟩) HNE.out (.slice A1 (L ++ [((gz : Int), la, ix)]).length c1)
    have qO := hownS.keepK (w' := wS.setCell ⟨g6, 0, none⟩ (.slice A1 (L ++ [((gz : Int), la, ix)]).length c1)) (fun k hk => Below.heap_setCell _ ⟨g6, 0, none⟩ _ k (fun e => hownS.apartT hg6S (by decide) (hk.trans (congrArg some e))))
    rw [← hwS] at q6 qL qO
    have y0 := qL.cell gz
    rw [HVI.out] at y0
    have f0 := qL.frozen gz
    have NL := Lib.hid (hownS.apartT hgLS (by decide))
    have HQ6 := Lib.hid (q6.far (p := ⟨gL, gz, none⟩) (fun e => HNE.out e.symm) (.int .i64 ix))
    have HQL := Lib.hid (qL.set gz (.int .i64 ix))
    rw [HSET.out] at HQL
    have HQO := Lib.hid (qO.keepK (w' := w1.setCell ⟨gL, gz, none⟩ (.int .i64 ix)) (fun k hk => Below.heap_setCell _ ⟨gL, gz, none⟩ _ k (fun e => NL.out (hk.trans (congrArg some e)))))
    have HKP := Lib.hid (show Kep b0 gL g6 (.slice A0 n0 c0) w (w1.setCell ⟨gL, gz, none⟩ (.int .i64 ix)) from by
      rw [hwS]
      exact ⟨((hkptS.bel.mono HB0.out.2.2).setCell (p := ⟨g6, 0, none⟩) HB0.out.2.1 _).setCell (p := ⟨gL, gz, none⟩) HB0.out.1 _, fun k hk k1 k2 k3 => (Below.heap_setCell _ ⟨gL, gz, none⟩ _ k k1).trans ((Below.heap_setCell _ ⟨g6, 0, none⟩ _ k k2).trans (hkptS.keep k hk k3))⟩)
    have HBK := Lib.hid hkptS.blk
    clear hwS hownS hkptS hgLS hg6S q6 qL qO
    generalize (L ++ [((gz : Int), la, ix)]) = L2 at *
    go_wp2_with fail
    go_end0
    exact ⟨rfl, _, _, _, HQL.out, HQ6.out, HQO.out, HKP.out, HBK.out⟩
  · rw [if_neg hl]
    have f0 := HGL.out.frozen gz
    have HNX := Lib.hid (HGL.out.set gz (.int .i64 ix))
    rw [HSET.out] at HNX
    have HQ6 := Lib.hid (HG6.out.far (p := ⟨gL, gz, none⟩) (fun e => HNE.out e.symm) (.int .i64 ix))
    have HQO := Lib.hid (HOW.out.keepK (w' := w.setCell ⟨gL, gz, none⟩ (.int .i64 ix)) (fun k hk => Below.heap_setCell _ ⟨gL, gz, none⟩ _ k (fun e => HNL.out (hk.trans (congrArg some e)))))
    have HKP := Lib.hid (show Kep b0 gL g6 (.slice A0 n0 c0) w (w.setCell ⟨gL, gz, none⟩ (.int .i64 ix)) from ⟨(Below.refl _ _).setCell (p := ⟨gL, gz, none⟩) HB0.out.1 _, fun k hk k1 k2 k3 => Below.heap_setCell _ ⟨gL, gz, none⟩ _ k k1⟩)
    go_wp2_with fail
    go_end0
    exact ⟨rfl, _, _, _, HNX.out, HQ6.out, HQO.out, HKP.out, fun k hk => .inl hk⟩
end Go.Proofs.YtbkgpfalljgdcaaGreatDoor

namespace Go.Proofs.YtbkgpfalljgdcaaGreatDoor
open Go.RowKit
set_option linter.unusedVariables false

def isG (g l : Int) : Bool := decide (l = g) || decide (l = -g)
/-- the last occurrence of generator g and the loops found, after k letters -/
def lpF (g : Int) (W : List Int) : Nat → Int × List L3
  | 0 => (-1, [])
  | k + 1 => if isG g (W[k]?.getD 0) = true then ((k : Int), if 0 ≤ (lpF g W k).1 then (lpF g W k).2 ++ [(g, (lpF g W k).1, (k : Int))] else (lpF g W k).2) else lpF g W k
/-- the loops of the generators up to g -/
def lgL (W : List Int) : Nat → List L3
  | 0 => []
  | g + 1 => lgL W g ++ (lpF ((g + 1 : Nat) : Int) W W.length).2
theorem lpF_len (g : Int) (W : List Int) : ∀ k, (lpF g W k).2.length ≤ k ∧ -1 ≤ (lpF g W k).1 ∧ (lpF g W k).1 < (k : Int) ∨ k = 0 ∧ lpF g W k = (-1, [])
  | 0 => .inr ⟨rfl, rfl⟩
  | k + 1 => by
    left
    have ih := lpF_len g W k
    rw [lpF]
    split
    · refine ⟨?_, by simp only; omega, by simp only; omega⟩
      simp only
      split
      · rw [List.length_append]; rcases ih with h | ⟨h, h2⟩
        · simp; omega
        · subst h; rw [h2]; simp
      · rcases ih with h | ⟨h, h2⟩
        · omega
        · subst h; rw [h2]; simp
    · rcases ih with h | ⟨h, h2⟩
      · omega
      · subst h; rw [h2]; simp
theorem lpF_le (g : Int) (W : List Int) (k : Nat) : (lpF g W k).2.length ≤ k := by
  rcases lpF_len g W k with h | ⟨h, h2⟩
  · exact h.1
  · rw [h2]; simp
theorem lgL_le (W : List Int) : ∀ g, (lgL W g).length ≤ g * W.length
  | 0 => by simp [lgL]
  | g + 1 => by
    rw [lgL, List.length_append, Nat.add_mul, Nat.one_mul]
    have := lgL_le W g
    have := lpF_le ((g + 1 : Nat) : Int) W W.length
    omega
structure LoS (w : World) (gB g4 g6 : Nat) (N : Int) (vw : Value) (cs : List Int) (L : List L3) (wr : World) : Prop where
  box : Arr wr gB 24 [.int .i64 N, vw]
  las : Arr wr g4 79 (cs.map (Value.int .i64))
  lst : ∃ A n c, Arr wr g6 46 [.slice A n c] ∧ OwnA 50 3 tcL w.heap.size wr (.slice A n c) L
  bel : Below w.heap.size w wr
theorem LoS.next {w : World} {gB g4 g6 : Nat} {N : Int} {vw v0 : Value} {cs cs' : List Int} {L L' : List L3} {wr w' : World} {e : Ending} (h : LoS w gB g4 g6 N vw cs L wr) (hv0 : ∃ A n c, v0 = .slice A n c ∧ OwnA 50 3 tcL w.heap.size wr v0 L) (k : OccP w.heap.size w.heap.size g4 g6 v0 cs' L' wr e w') (n1 : gB ≠ g4) (n2 : gB ≠ g6) : e = .returned (.tuple #[]) ∧ LoS w gB g4 g6 N vw cs' L' w' := by
  obtain ⟨A0, m0, c0, rfl, ho⟩ := hv0
  obtain ⟨he, A1, m1, c1, h1, h2, h3, h4, _⟩ := k
  refine ⟨he, (h4.keep gB h.box.lt n1 n2 (ho.apartT h.box (by decide))).trans h.box, h1, ⟨A1, m1, c1, h2, h3⟩, h.bel.trans h4.bel⟩
/-- what loops returns -/
def LpsP (N : Int) (W : List Int) (w : World) (e : Ending) (w' : World) : Prop :=
  Below w.heap.size w w' ∧
    ((brV N W = false ∧ e = .returned (.tuple #[.slice none 0 0, .int .i64 1])) ∨
     (brV N W = true ∧ (∃ g : Nat, 1 ≤ g ∧ (g : Int) < N ∧ (lpF (g : Int) W W.length).1 < 0) ∧ e = .returned (.tuple #[.slice none 0 0, .int .i64 17])) ∨
     (brV N W = true ∧ (∀ g : Nat, 1 ≤ g → (g : Int) < N → 0 ≤ (lpF (g : Int) W W.length).1) ∧ ∃ v, e = .returned (.tuple #[v, .int .i64 0]) ∧ OwnA 50 3 tcL w.heap.size w' v (lgL W (N - 1).toNat)))
set_option maxHeartbeats 8000000 in
set_option maxRecDepth 100000 in
theorem loops_any (N : Int) (vw : Value) (W : List Int) (w : World) (h : Ints w vw W) (hl : W.length ≤ 9223372036854775807) (hN : -9223372036854775808 ≤ N ∧ N ≤ 9223372036854775807) :
    Calls Tryz.prog 18 #[.agg #[.int .i64 N, vw]] w (LpsP N W w) := by
  have HVA := Lib.hid (fun W' (hb : Below w.heap.size w W') => bvalid_any N vw W W' (h.below hb) hl hN)
  have HH := Lib.hid (fun W' (hb : Below w.heap.size w W') => h.below hb)
  obtain ⟨A, c, hv, -, -⟩ := h
  subst hv
  obtain ⟨n, hnn⟩ : ∃ n, n = W.length := ⟨_, rfl⟩
  rw [← hnn] at HVA HH hl ⊢
  have HNN := Lib.hid hnn
  clear hnn
  have hW : ∀ W', W' = w.alloc (.cells #[.int .i64 N, .slice A n c] 24) → Arr W' w.heap.size 24 [.int .i64 N, .slice A n c] ∧ Below w.heap.size w W' := by
    intro W' hW
    subst hW
    exact ⟨Arr.new _ _ [_, _], (Below.refl _ _).alloc (Nat.le_refl _) _⟩
  go_enter Tryz.func18, Tryz.ntmps18
  go_upto_region 1 with fail
  generalize w.alloc (.cells #[.int .i64 N, .slice A n c] 24) = w3 at hW ⊢
  obtain ⟨qp, hb3⟩ := hW w3 rfl
  obtain ⟨gB, hgB⟩ : ∃ g, g = w.heap.size := ⟨_, rfl⟩
  rw [← hgB] at qp ⊢
  have y0 := qp.cell 0
  have y1 := qp.cell 1
  have HQ := Lib.hid qp
  have HB3 := Lib.hid hb3
  have HGB := Lib.hid hgB
  clear hW qp hb3 hgB
  obtain ⟨bv, hbv⟩ : ∃ b, b = brV N W := ⟨_, rfl⟩
  rw [← hbv] at HVA
  have HBV := Lib.hid hbv
  clear hbv
  go_upto_if 13 with (go_at_call 23; refine (HVA.out _ HB3.out).mono ?_; rintro e w4 ⟨rfl, hb4⟩)
  have HQ4 := Lib.hid (HQ.out.below hb4 HQ.out.lt)
  have HB4 := Lib.hid (HB3.out.trans (hb4.mono HB3.out.size))
  have HSZ := Lib.hid (show gB < w4.heap.size by have := HQ4.out.lt; exact this)
  clear hb4 y0 y1 HVA HQ HB3
  cases bv with
  | false =>
    go_wp2_with fail
    go_ret2
    exact ⟨HB4.out, .inl ⟨HBV.out.symm, rfl⟩⟩
  | true =>
    have hbr := brV_iff.1 HBV.out.symm
    have hn200 : n ≤ 200 := by rw [HNN.out]; exact hbr.2.2.1
    have hN1 := hbr.1
    have hN10 := hbr.2.1
    clear hbr
    go_upto_region 4 with fail
    obtain ⟨w5, hw5⟩ : ∃ W', W' = w4.alloc (.cells #[.int .i64 0, .int .i64 0, .int .i64 0, .int .i64 0, .int .i64 0, .int .i64 0, .int .i64 0, .int .i64 0, .int .i64 0, .int .i64 0] 79) := ⟨_, rfl⟩
    obtain ⟨g4, hg4⟩ : ∃ g, g = w4.heap.size := ⟨_, rfl⟩
    rw [← hw5, ← hg4]
    have HA5 := Lib.hid (show Arr w5 g4 79 ((List.replicate 0 (-1 : Int) ++ List.replicate (10 - 0) 0).map (Value.int .i64)) from by rw [hw5, hg4]; exact Arr.new w4 79 [_, _, _, _, _, _, _, _, _, _])
    have HQ5 := Lib.hid (show Arr w5 gB 24 [.int .i64 N, .slice A n c] by rw [hw5]; exact HQ4.out.alloc _)
    have HB5 := Lib.hid (show Below w.heap.size w w5 by rw [hw5]; exact HB4.out.alloc HB4.out.size _)
    have HG4 := Lib.hid (show gB < g4 ∧ w.heap.size ≤ g4 from ⟨by rw [hg4]; exact HSZ.out, by rw [hg4]; exact HB4.out.size⟩)
    clear hw5 hg4 HQ4 HB4 HSZ
    go_upto_region 5 with fail
    go_loopg [5, 14] 10 (fun gk s5 s14 wr => ∃ i : Nat, i ≤ 10 ∧ gk = 10 - i ∧ s14 = .int .i64 (i : Int) ∧ Arr wr g4 79 ((List.replicate i (-1 : Int) ++ List.replicate (10 - i) 0).map (Value.int .i64)) ∧ Wr [g4] w5 wr)
    case atStart => exact ⟨0, by omega, rfl, rfl, HA5.out, Wr.refl _ _⟩
    case round =>
      clear HA5
      obtain ⟨i, hi, rfl, rfl, ha, hwr⟩ := hrel
      by_cases hit : i < 10
      · have z1 : (i : Int) < 10 := by omega
        have hget : ((List.replicate i (-1 : Int) ++ List.replicate (10 - i) 0).map (Value.int .i64))[i]? = some (.int .i64 0) := by
          rw [List.getElem?_map, List.getElem?_append_right (by simp), List.length_replicate, Nat.sub_self, List.getElem?_replicate, if_pos (by omega)]; rfl
        have c1 := ha.cell i
        rw [hget] at c1
        have f1 := ha.frozen i
        have HNX := Lib.hid (ha.set i (.int .i64 (-1)))
        have hset : ((List.replicate i (-1 : Int) ++ List.replicate (10 - i) 0).map (Value.int .i64)).set i (.int .i64 (-1)) = ((List.replicate (i + 1) (-1 : Int) ++ List.replicate (10 - (i + 1)) 0).map (Value.int .i64)) := by
          rw [← List.map_set, List.set_append_right i _ (by simp), List.length_replicate, Nat.sub_self, show 10 - i = (10 - (i + 1)) + 1 by omega, List.replicate_succ, List.set_cons_zero, List.replicate_succ', List.append_assoc]; rfl
        rw [hset] at HNX
        have HWN := Lib.hid (hwr.setCell (List.mem_singleton.2 rfl) i (.int .i64 (-1)))
        clear hget ha hset hwr
        go_wp2_with fail
        go_roundg (10 - (i + 1))
        case measure => omega
        case rel => exact ⟨i + 1, by omega, rfl, by go_num, HNX.out, HWN.out⟩
      · have z1 : ¬ ((i : Int) < 10) := by omega
        have e7 : i = 10 := by omega
        subst e7
        have HLA := Lib.hid (show Arr wr g4 79 ((List.replicate 10 (-1 : Int)).map (Value.int .i64)) by simpa using ha)
        have HQ6 := Lib.hid (HQ5.out.wr hwr (fun e => by have := List.mem_singleton.1 e; have := HG4.out; omega))
        have HB6 := Lib.hid (HB5.out.trans (hwr.below (B := w.heap.size) HB5.out.size (fun x hx => by rw [List.mem_singleton.1 hx]; exact HG4.out.2)))
        have HS6 := Lib.hid (HLA.out.lt)
        clear ha hwr HQ5 HB5
        go_upto_region 10 with fail
        obtain ⟨w7, hw7⟩ : ∃ W', W' = wr.alloc (.cells #[.slice none 0 0] 46) := ⟨_, rfl⟩
        obtain ⟨g6, hg6⟩ : ∃ g, g = wr.heap.size := ⟨_, rfl⟩
        rw [← hw7, ← hg6]
        have HG6 := Lib.hid (show gB ≠ g6 ∧ g4 ≠ g6 ∧ w.heap.size ≤ g6 ∧ gB ≠ g4 from ⟨by rw [hg6]; have := HQ6.out.lt; omega, by rw [hg6]; have := HLA.out.lt; omega, by rw [hg6]; exact HB6.out.size, by have := HG4.out; omega⟩)
        have HST := Lib.hid (show LoS w gB g4 g6 N (.slice A n c) (List.replicate 10 (-1 : Int)) (lgL W 0) w7 from by
          rw [hw7, hg6]
          exact ⟨HQ6.out.alloc _, HLA.out.alloc _, ⟨none, 0, 0, Arr.new wr 46 [_], OwnA.nil _ _ _ _ _⟩, HB6.out.alloc HB6.out.size _⟩)
        clear hw7 hg6 HQ6 HB6 HLA HS6
        go_upto_region 12 with fail
        go_loopg [8, 9, 10] 9 (fun gk s8 s9 s10 wr => ∃ (gz : Nat) (cs : List Int), 1 ≤ gz ∧ (gz : Int) ≤ N ∧ gk = 10 - gz ∧ s8 = .int .i64 (gz : Int) ∧ cs.length = 10 ∧ (∀ j, gz ≤ j → j < 10 → cs[j]? = some (-1)) ∧ LoS w gB g4 g6 N (.slice A n c) cs (lgL W (gz - 1)) wr ∧ ∀ g : Nat, 1 ≤ g → g < gz → 0 ≤ (lpF (g : Int) W W.length).1)
        case atStart => exact ⟨1, List.replicate 10 (-1), by omega, by omega, rfl, rfl, by simp, fun j h1 h2 => by rw [List.getElem?_replicate, if_pos h2], HST.out, fun g h1 h2 => absurd h1 (by omega)⟩
        case round =>
          clear HST
          obtain ⟨gz, cs, hg1, hgN, rfl, rfl, hcl, hcs, hst, hco⟩ := hrel
          obtain ⟨wo, rfl⟩ : ∃ wo : World, wo = wr := ⟨_, rfl⟩
          have HCS := Lib.hid hcs
          have HCO := Lib.hid hco
          have HST := Lib.hid hst
          have HCL := Lib.hid hcl
          clear hcs hco hst hcl
          have y0 := HST.out.box.cell 0
          by_cases hgt : (gz : Int) < N
          · have y1 := HST.out.box.cell 1
            have hgz10 : gz < 10 := by omega
            go_upto_region 15 with fail
            clear y0 y1
            go_loopg [9, 10, 30] n (fun gk s9 s10 s30 wr => ∃ (k : Nat) (cs : List Int), k ≤ n ∧ gk = n - k ∧ s30 = .int .i64 (k : Int) ∧ cs.length = 10 ∧ (∀ j, gz < j → j < 10 → cs[j]? = some (-1)) ∧ cs[gz]? = some (lpF (gz : Int) W k).1 ∧ LoS w gB g4 g6 N (.slice A n c) cs (lgL W (gz - 1) ++ (lpF (gz : Int) W k).2) wr)
            case atStart => exact ⟨0, cs, by omega, rfl, rfl, HCL.out, fun j h1 h2 => HCS.out j (by omega) h2, HCS.out gz (by omega) hgz10, by simpa [lpF] using HST.out⟩
            case round =>
              clear HST HCS HCL
              obtain ⟨k, cs, hk, rfl, rfl, hcl, hcs, hcg, hst⟩ := hrel
              obtain ⟨wd, rfl⟩ : ∃ wd : World, wd = wr := ⟨_, rfl⟩
              have HCS := Lib.hid hcs
              have HCG := Lib.hid hcg
              have HST := Lib.hid hst
              have HCL := Lib.hid hcl
              clear hcs hcg hst hcl
              by_cases hkt : k < n
              · have z2 : (k : Int) < (n : Int) := by omega
                have hkl : k < W.length := by rw [← HNN.out]; exact hkt
                obtain ⟨b1, o1, rfl, hlt, q0⟩ := (HH.out wd HST.out.bel).at_ hkl
                have HLF := Lib.hid (show lpF (gz : Int) W (k + 1) = if isG (gz : Int) W[k] = true then ((k : Int), if 0 ≤ (lpF (gz : Int) W k).1 then (lpF (gz : Int) W k).2 ++ [((gz : Int), (lpF (gz : Int) W k).1, (k : Int))] else (lpF (gz : Int) W k).2) else lpF (gz : Int) W k from by rw [lpF, List.getElem?_eq_getElem hkl, Option.getD_some])
                have HLL := Lib.hid (show (lgL W (gz - 1) ++ (lpF (gz : Int) W k).2).length ≤ 1000000 from by
                  rw [List.length_append]
                  have h1 := lgL_le W (gz - 1)
                  have h2 := lpF_le (gz : Int) W k
                  have h3 : (gz - 1) * W.length ≤ 10 * 200 := Nat.mul_le_mul (by omega) (by rw [← HNN.out]; exact hn200)
                  omega)
                generalize W[k] = l at *
                have c1 := q0
                clear hlt q0 hkl
                have hnw : IntKind.i64.wrap (-(gz : Int)) = -(gz : Int) := IntWalk.i64_in _ (by omega)
                obtain ⟨A0, m0, c0, h6, ho0⟩ := HST.out.lst
                have HOX := Lib.hid (occur_any gz g4 g6 w.heap.size w.heap.size m0 c0 (k : Int) (lpF (gz : Int) W k).1 cs A0 _ wd HST.out.las h6 ho0 (by omega) HCL.out HCG.out HST.out.bel.size HG4.out.2 HG6.out.2.2.1 (Nat.le_refl _) HLL.out HG6.out.2.1)
                have HO0 := Lib.hid ho0
                clear h6 ho0
                by_cases hl1 : l = (gz : Int)
                · have za : (l == (gz : Int)) = true := by simp [hl1]
                  have HIG := Lib.hid (show isG (gz : Int) l = true by unfold isG; simp [hl1])
                  clear hl1
                  have HOC := Lib.hid (HOX.out)
                  clear HOX
                  go_wp2_with fail
                  refine HOC.out.mono ?_
                  intro e w' hoc
                  obtain ⟨rfl, hst⟩ := HST.out.next ⟨A0, m0, c0, rfl, HO0.out⟩ hoc HG6.out.2.2.2 HG6.out.1
                  have HST2 := Lib.hid hst
                  clear hoc hst HOC
                  go_wp2_with fail
                  go_roundg (n - (k + 1))
                  case measure => omega
                  case rel => exact ⟨k + 1, cs.set gz (k : Int), by omega, rfl, by go_num, by simpa using HCL.out, fun j h1 h2 => by rw [List.getElem?_set, if_neg (by omega)]; exact HCS.out j h1 h2, by rw [HLF.out, if_pos HIG.out, List.getElem?_set, if_pos rfl, if_pos (by have := HCL.out; omega)], by
                    have h1 := HST2.out
                    rw [HLF.out, if_pos HIG.out]
                    dsimp only
                    rw [apply_ite (fun t => lgL W (gz - 1) ++ t), ← List.append_assoc]
                    exact h1⟩
                · by_cases hl2 : l = -(gz : Int)
                  · have za : (l == (gz : Int)) = false := by simp [hl1]
                    have zb : (l == -(gz : Int)) = true := by simp [hl2]
                    have HIG := Lib.hid (show isG (gz : Int) l = true by unfold isG; simp [hl2])
                    clear hl1 hl2
                    have HOC := Lib.hid (HOX.out)
                    clear HOX
                    go_wp2_with fail
                    refine HOC.out.mono ?_
                    intro e w' hoc
                    obtain ⟨rfl, hst⟩ := HST.out.next ⟨A0, m0, c0, rfl, HO0.out⟩ hoc HG6.out.2.2.2 HG6.out.1
                    have HST2 := Lib.hid hst
                    clear hoc hst HOC
                    go_wp2_with fail
                    go_roundg (n - (k + 1))
                    case measure => omega
                    case rel => exact ⟨k + 1, cs.set gz (k : Int), by omega, rfl, by go_num, by simpa using HCL.out, fun j h1 h2 => by rw [List.getElem?_set, if_neg (by omega)]; exact HCS.out j h1 h2, by rw [HLF.out, if_pos HIG.out, List.getElem?_set, if_pos rfl, if_pos (by have := HCL.out; omega)], by
                      have h1 := HST2.out
                      rw [HLF.out, if_pos HIG.out]
                      dsimp only
                      rw [apply_ite (fun t => lgL W (gz - 1) ++ t), ← List.append_assoc]
                      exact h1⟩
                  · have za : (l == (gz : Int)) = false := by simp [hl1]
                    have zb : (l == -(gz : Int)) = false := by simp [hl2]
                    have HIG := Lib.hid (show ¬ (isG (gz : Int) l = true) by unfold isG; simp [hl1, hl2])
                    clear hl1 hl2 HOX
                    go_wp2_with fail
                    go_roundg (n - (k + 1))
                    case measure => omega
                    case rel => exact ⟨k + 1, cs, by omega, rfl, by go_num, HCL.out, HCS.out, by rw [HLF.out, if_neg HIG.out]; exact HCG.out, by rw [HLF.out, if_neg HIG.out]; exact HST.out⟩
              · have z2 : ¬ ((k : Int) < (n : Int)) := by omega
                have e7 : k = W.length := by rw [← HNN.out]; omega
                rw [e7] at HCG HST
                have c1 := HST.out.las.cell gz
                have HGT := Lib.hid (show (cs.map (Value.int .i64))[gz]? = some (.int .i64 (lpF (gz : Int) W W.length).1) by rw [List.getElem?_map, HCG.out]; rfl)
                rw [HGT.out] at c1
                have z5 : (gz : Int) < 10 := by omega
                by_cases hla : (lpF (gz : Int) W W.length).1 < 0
                · have HLA := Lib.hid hla
                  have HBF := Lib.hid HST.out.bel
                  obtain ⟨la, hlq⟩ : ∃ la, la = (lpF (gz : Int) W W.length).1 := ⟨_, rfl⟩
                  rw [← hlq] at c1 hla
                  clear hlq e7
                  go_wp2_with fail
                  go_ret2
                  exact ⟨HBF.out, .inr (.inl ⟨HBV.out.symm, ⟨gz, hg1, hgt, HLA.out⟩, rfl⟩)⟩
                · have HLA := Lib.hid hla
                  have HST3 := Lib.hid (show LoS w gB g4 g6 N (.slice A n c) cs (lgL W (gz + 1 - 1)) wd from by
                    have h1 := HST.out
                    obtain ⟨g', rfl⟩ : ∃ g', gz = g' + 1 := ⟨gz - 1, by omega⟩
                    simp only [Nat.add_sub_cancel] at h1 ⊢
                    exact h1)
                  obtain ⟨la, hlq⟩ : ∃ la, la = (lpF (gz : Int) W W.length).1 := ⟨_, rfl⟩
                  rw [← hlq] at c1 hla
                  clear hlq e7
                  go_wp2_with fail
                  go_roundg (10 - (gz + 1))
                  case measure => omega
                  case rel => exact ⟨gz + 1, cs, by omega, by omega, rfl, by go_num, HCL.out, fun j h1 h2 => HCS.out j (by omega) h2, HST3.out, fun g h1 h2 => by
                    rcases Nat.lt_or_ge g gz with q | q
                    · exact HCO.out g h1 q
                    · have : g = gz := by omega
                      subst this
                      have := HLA.out; omega⟩
          · have e7 : gz = (N - 1).toNat + 1 := by omega
            obtain ⟨A0, m0, c0, h6, ho0⟩ := HST.out.lst
            have y6 := h6.cell 0
            have HO := Lib.hid ho0
            have HBF := Lib.hid HST.out.bel
            have HE := Lib.hid e7
            clear h6 ho0 e7
            go_wp2_with fail
            go_ret2
            refine ⟨HBF.out, .inr (.inr ⟨HBV.out.symm, fun g h1 h2 => HCO.out g h1 (by omega), _, rfl, ?_⟩)⟩
            have h1 := HO.out
            rw [HE.out, Nat.add_sub_cancel] at h1
            exact h1
end Go.Proofs.YtbkgpfalljgdcaaGreatDoor
