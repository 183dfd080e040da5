/- unravelref33.Valid, Abs; unravelref38.Connected. -/
/- unravelref38.Connected. -/
/- unravelref38.Loops. -/
/- Sums of integers (plain). -/
/- Determinants: expansion along the first column; rows are functions (plain). -/
/- Determinants: bounds, triangles, combinations of rows (plain). -/
import Derived.Test.YtbkgpfalljgdcaaGreatDoorZSfm
namespace Go.Proofs.YtbkgpfalljgdcaaGreatDoor
open Go.RowKit
set_option linter.unusedVariables false

set_option maxHeartbeats 4000000 in
set_option maxRecDepth 100000 in
theorem rvalid_any (N : Int) (vw : Value) (W : List Int) (w : World) (h : Ints w vw W) (hl : W.length ≤ 9223372036854775807) (hN : -9223372036854775808 ≤ N ∧ N ≤ 9223372036854775807) :
    Calls Tryz.prog 8 #[.int .i64 N, vw] w fun e w' => e = .returned (.bool (brV N W)) ∧ w' = w := by
  obtain ⟨A, c, rfl, hc, hx⟩ := h
  have HX := Lib.hid hx
  obtain ⟨B, hB⟩ : ∃ B, B = brV N W := ⟨_, rfl⟩
  rw [← hB]
  have HBR := Lib.hid (show B = true ↔ 1 ≤ N ∧ N ≤ 10 ∧ W.length ≤ 200 ∧ ∀ l ∈ W, l ≠ 0 ∧ -N < l ∧ l < N by rw [hB]; exact brV_iff)
  obtain ⟨n, hn⟩ : ∃ n, n = W.length := ⟨_, rfl⟩
  rw [← hn] at hl ⊢
  have HN := Lib.hid hn
  clear hx hB hc hn
  by_cases h1 : N < 1
  · obtain rfl : false = B := by cases B with | false => rfl | true => have := HBR.out.1 rfl; omega
    have z1 : decide (N < 1) = true := decide_eq_true h1
    clear h1
    go_enter Tryz.func8, Tryz.ntmps8
    go_wp2_with fail
    go_ret
    exact ⟨rfl, rfl⟩
  have z1 : decide (N < 1) = false := decide_eq_false h1
  by_cases h2 : 10 < N
  · obtain rfl : false = B := by cases B with | false => rfl | true => have := HBR.out.1 rfl; omega
    have z2 : decide (10 < N) = true := decide_eq_true h2
    clear h1 h2
    go_enter Tryz.func8, Tryz.ntmps8
    go_wp2_with fail
    go_ret
    exact ⟨rfl, rfl⟩
  have z2 : decide (10 < N) = false := decide_eq_false h2
  by_cases h3 : (200 : Int) < (n : Int)
  · obtain rfl : false = B := by cases B with | false => rfl | true => have := HBR.out.1 rfl; have := HN.out; omega
    have z3 : decide ((200 : Int) < (n : Int)) = true := decide_eq_true h3
    clear h1 h2 h3
    go_enter Tryz.func8, Tryz.ntmps8
    go_wp2_with fail
    go_ret
    exact ⟨rfl, rfl⟩
  have z3 : decide ((200 : Int) < (n : Int)) = false := decide_eq_false h3
  have hw : IntKind.i64.wrap (-N) = -N := IntWalk.i64_in _ (by omega)
  go_enter Tryz.func8, Tryz.ntmps8
  go_upto_region 4 with fail
  go_loopg [5] n (fun gk s5 wr => ∃ i : Nat, i ≤ n ∧ gk = n - i ∧ s5 = .int .i64 (i : Int) ∧ wr = w ∧ ∀ l ∈ W.take i, l ≠ 0 ∧ -N < l ∧ l < N)
  case atStart => exact ⟨0, by omega, rfl, rfl, rfl, fun l h => by simp at h⟩
  case round =>
    obtain ⟨i, hi, rfl, rfl, rfl, hall⟩ := hrel
    have HAL := Lib.hid hall
    clear hall
    by_cases hit : i < n
    · have z4 : (i : Int) < (n : Int) := by omega
      have hiw : i < W.length := by rw [← HN.out]; exact hit
      obtain ⟨b, o, rfl, hcell⟩ := HX.out i W[i] (List.getElem?_eq_getElem hiw)
      have HMEM := Lib.hid (List.getElem_mem hiw)
      have HTK := Lib.hid (List.take_succ_eq_append_getElem hiw)
      generalize W[i] = x at *
      by_cases g1 : x = 0
      · obtain rfl : false = B := by cases B with | false => rfl | true => have := (HBR.out.1 rfl).2.2.2 x HMEM.out; omega
        have y1 : ((x : Int) == 0) = true := by simp [g1]
        clear g1
        go_wp2_with fail
        go_ret
        exact ⟨rfl, rfl⟩
      have y1 : ((x : Int) == 0) = false := by simp [g1]
      by_cases g2 : N ≤ x
      · obtain rfl : false = B := by cases B with | false => rfl | true => have := (HBR.out.1 rfl).2.2.2 x HMEM.out; omega
        have y2 : decide (N ≤ x) = true := decide_eq_true g2
        clear g1 g2
        go_wp2_with fail
        go_ret
        exact ⟨rfl, rfl⟩
      have y2 : decide (N ≤ x) = false := decide_eq_false g2
      by_cases g3 : x ≤ -N
      · obtain rfl : false = B := by cases B with | false => rfl | true => have := (HBR.out.1 rfl).2.2.2 x HMEM.out; omega
        have y3 : decide (x ≤ -N) = true := decide_eq_true g3
        clear g1 g2 g3
        go_wp2_with fail
        go_ret
        exact ⟨rfl, rfl⟩
      have y3 : decide (x ≤ -N) = false := decide_eq_false g3
      have HG := Lib.hid (show x ≠ 0 ∧ -N < x ∧ x < N by omega)
      clear g1 g2 g3
      go_wp2_with fail
      go_roundg (n - (i + 1))
      case measure => omega
      case rel => exact ⟨i + 1, by omega, rfl, by go_num, rfl, fun l hl => by
        rw [HTK.out] at hl
        rcases List.mem_append.1 hl with hl | hl
        · exact HAL.out l hl
        · rw [List.mem_singleton.1 hl]; exact HG.out⟩
    · have z4 : ¬ ((i : Int) < (n : Int)) := by omega
      obtain rfl : true = B := by
        have : B = true := HBR.out.2 ⟨by omega, by omega, by have := HN.out; omega, fun l hl => HAL.out l (by rw [List.take_of_length_le (by have := HN.out; omega)]; exact hl)⟩
        exact this.symm
      go_wp2_with fail
      go_ret
      exact ⟨rfl, rfl⟩
def ab33 (x : Int) : Int := if x < 0 then -x else x
set_option maxHeartbeats 1000000 in
theorem rabs_any (x : Int) (w : World) (hx : -1000000 ≤ x ∧ x ≤ 1000000) : Calls Tryz.prog 20 #[.int .i64 x] w fun e w' => e = .returned (.int .i64 (ab33 x)) ∧ w' = w := by
  have hw : IntKind.i64.wrap (-x) = -x := IntWalk.i64_in _ (by omega)
  obtain ⟨a, ha⟩ : ∃ a, a = ab33 x := ⟨_, rfl⟩
  rw [← ha]
  unfold ab33 at ha
  by_cases h : x < 0
  · rw [if_pos h] at ha
    subst ha
    go_enter Tryz.func20, Tryz.ntmps20
    go_wp2_with fail
    go_ret
    exact ⟨rfl, rfl⟩
  · rw [if_neg h] at ha
    subst ha
    go_enter Tryz.func20, Tryz.ntmps20
    go_wp2_with fail
    go_ret
    exact ⟨rfl, rfl⟩
end Go.Proofs.YtbkgpfalljgdcaaGreatDoor

namespace Go.Proofs.YtbkgpfalljgdcaaGreatDoor
open Go.RowKit
set_option linter.unusedVariables false

/-- does a generator occur in the first letters -/
def occB (g : Nat) (W : List Int) (k : Nat) : Bool := (W.take k).any fun x => decide (ab33 x = (g : Int))
theorem occB_succ {g : Nat} {W : List Int} {k : Nat} (h : k < W.length) : occB g W (k + 1) = (occB g W k || decide (ab33 W[k] = (g : Int))) := by
  unfold occB
  rw [List.take_succ_eq_append_getElem h, List.any_append]
  simp
theorem isG_ab {g : Nat} {x : Int} (hg : 1 ≤ g) : isG (g : Int) x = decide (ab33 x = (g : Int)) := by
  unfold isG ab33
  rw [Bool.eq_iff_iff]
  by_cases h : x < 0
  · rw [if_pos h]
    simp only [Bool.or_eq_true, decide_eq_true_eq]
    omega
  · rw [if_neg h]
    simp only [Bool.or_eq_true, decide_eq_true_eq]
    omega
theorem lpF_occ {g : Nat} {W : List Int} (hg : 1 ≤ g) : ∀ k, k ≤ W.length → (0 ≤ (lpF (g : Int) W k).1 ↔ occB g W k = true)
  | 0, _ => by simp [lpF, occB]
  | k + 1, hk => by
    have ih := lpF_occ (W := W) hg k (by omega)
    have hk' : k < W.length := by omega
    have e : W[k]?.getD 0 = W[k] := by rw [List.getElem?_eq_getElem hk']; rfl
    rw [lpF, occB_succ hk', e, ← isG_ab hg]
    by_cases c : isG (g : Int) W[k] = true
    · rw [if_pos c, c, Bool.or_true]
      simp
    · rw [if_neg c, ih, show isG (g : Int) W[k] = false by simpa using c, Bool.or_false]
def cnF (N : Int) (W : List Int) : Bool := (List.range (N - 1).toNat).all fun g => occB (g + 1) W W.length
theorem cnF_iff {N : Int} {W : List Int} : cnF N W = true ↔ cnB N W := by
  unfold cnF cnB
  rw [List.all_eq_true]
  constructor
  · intro h g h1 h2
    have := h (g - 1) (List.mem_range.2 (by omega))
    rw [show g - 1 + 1 = g by omega] at this
    exact (lpF_occ h1 W.length (Nat.le_refl _)).2 this
  · intro h g hg
    have hg' := List.mem_range.1 hg
    exact (lpF_occ (by omega) W.length (Nat.le_refl _)).1 (h (g + 1) (by omega) (by omega))
set_option maxHeartbeats 4000000 in
set_option maxRecDepth 100000 in
theorem rconn_any (N : Int) (vw : Value) (W : List Int) (w : World) (h : Ints w vw W) (hl : W.length ≤ 1000000) (hN : 1 ≤ N ∧ N ≤ 10) (hb : ∀ l ∈ W, -1000000 ≤ l ∧ l ≤ 1000000) :
    Calls Tryz.prog 9 #[.int .i64 N, vw] w fun e w' => e = .returned (.bool (cnF N W)) ∧ w' = w := by
  obtain ⟨A, c, rfl, hc, hx⟩ := h
  have HX := Lib.hid hx
  have HBD := Lib.hid hb
  obtain ⟨M, rfl⟩ : ∃ M : Nat, N = (M : Int) := ⟨N.toNat, by omega⟩
  obtain ⟨B, hB⟩ : ∃ B, B = cnF (M : Int) W := ⟨_, rfl⟩
  rw [← hB]
  have HBR := Lib.hid (show B = true ↔ ∀ g : Nat, 1 ≤ g → g < M → occB g W W.length = true by
    rw [hB]
    unfold cnF
    rw [List.all_eq_true]
    constructor
    · intro h g h1 h2
      have := h (g - 1) (List.mem_range.2 (by omega))
      rwa [show g - 1 + 1 = g by omega] at this
    · intro h g hg
      have := List.mem_range.1 hg
      exact h (g + 1) (by omega) (by omega))
  obtain ⟨n, hn⟩ : ∃ n, n = W.length := ⟨_, rfl⟩
  rw [← hn] at hl ⊢
  have HN := Lib.hid hn
  clear hx hB hc hn hb
  go_enter Tryz.func9, Tryz.ntmps9
  go_upto_region 2 with fail
  go_loopg [5, 6, 7] (M - 1) (fun gk s5 s6 s7 wr => ∃ g : Nat, 1 ≤ g ∧ g ≤ M ∧ gk = M - g ∧ s5 = .int .i64 (g : Int) ∧ wr = w ∧ ∀ q : Nat, 1 ≤ q → q < g → occB q W W.length = true)
  case atStart => exact ⟨1, by omega, by omega, rfl, rfl, rfl, fun q h1 h2 => by omega⟩
  case round =>
    obtain ⟨g, hg1, hgM, rfl, rfl, rfl, hall⟩ := hrel
    have HAL := Lib.hid hall
    clear hall
    by_cases hgt : g < M
    · have z1 : (g : Int) < (M : Int) := by omega
      go_upto_region 6 with fail
      obtain ⟨w2, rfl⟩ : ∃ w2 : World, w2 = wr := ⟨_, rfl⟩
      go_loopg [6, 7] n (fun gk s6 s7 wr => ∃ k : Nat, k ≤ n ∧ gk = n - k ∧ s7 = .int .i64 (k : Int) ∧ wr = w2 ∧ s6 = .bool (occB g W k))
      case atStart => exact ⟨0, by omega, rfl, rfl, rfl, by simp [occB]⟩
      case round =>
        obtain ⟨k, hk, rfl, rfl, rfl, rfl⟩ := hrel
        by_cases hkt : k < n
        · have z2 : (k : Int) < (n : Int) := by omega
          have hkw : k < W.length := by rw [← HN.out]; exact hkt
          obtain ⟨b, o, rfl, hcell⟩ := HX.out k W[k] (List.getElem?_eq_getElem hkw)
          have HOS := Lib.hid (occB_succ (g := g) hkw)
          have hbd := HBD.out _ (List.getElem_mem hkw)
          generalize W[k] = x at *
          have HRA := Lib.hid (rabs_any x wr hbd)
          generalize ab33 x = y at *
          generalize occB g W k = oc at *
          by_cases he : y = (g : Int)
          · have z3 : ((y : Int) == (g : Int)) = true := by simp [he]
            have HE := Lib.hid (show occB g W (k + 1) = true by rw [HOS.out]; simp [he])
            clear he
            go_wp2_with (go_at_call 20; refine HRA.out.mono ?_; rintro e w3 ⟨rfl, rfl⟩)
            go_roundg (n - (k + 1))
            case measure => omega
            case rel => exact ⟨k + 1, by omega, rfl, by go_num, rfl, by rw [HE.out]⟩
          · have z3 : ((y : Int) == (g : Int)) = false := by simp [he]
            have HE := Lib.hid (show occB g W (k + 1) = oc by rw [HOS.out]; simp [he])
            clear he
            go_wp2_with (go_at_call 20; refine HRA.out.mono ?_; rintro e w3 ⟨rfl, rfl⟩)
            go_roundg (n - (k + 1))
            case measure => omega
            case rel => exact ⟨k + 1, by omega, rfl, by go_num, rfl, by rw [HE.out]⟩
        · have z2 : ¬ ((k : Int) < (n : Int)) := by omega
          have HK := Lib.hid (show k = W.length by have := HN.out; omega)
          obtain ⟨oc, hoc⟩ : ∃ oc, oc = occB g W k := ⟨_, rfl⟩
          rw [← hoc]
          have HOC := Lib.hid hoc
          clear hoc
          cases oc with
          | false =>
            obtain rfl : false = B := by
              cases B with
              | false => rfl
              | true => have := HBR.out.1 rfl g hg1 hgt; rw [← HK.out, ← HOC.out] at this; cases this
            go_wp2_with fail
            go_ret
            exact ⟨rfl, rfl⟩
          | true =>
            go_wp2_with fail
            go_roundg (M - (g + 1))
            case measure => omega
            case rel => exact ⟨g + 1, by omega, by omega, rfl, by go_num, rfl, fun q h1 h2 => by
              rcases Nat.lt_or_ge q g with z | z
              · exact HAL.out q h1 z
              · have : q = g := by omega
                subst this
                rw [← HK.out]; exact HOC.out.symm⟩
    · have z1 : ¬ ((g : Int) < (M : Int)) := by omega
      obtain rfl : true = B := by
        have : B = true := HBR.out.2 fun q h1 h2 => HAL.out q h1 (by omega)
        exact this.symm
      go_wp2_with fail
      go_ret
      exact ⟨rfl, rfl⟩
end Go.Proofs.YtbkgpfalljgdcaaGreatDoor

namespace Go.Proofs.YtbkgpfalljgdcaaGreatDoor
open Go.RowKit
set_option linter.unusedVariables false

theorem info_rlp : (Tryz.prog.info? 57).map (fun i => (i.zero, i.size, i.bytes)) = some (some (.agg #[.int .i64 0, .int .i64 0, .int .i64 0]), 3, 24) := by kernel_rfl
theorem elRl : ElA Tryz.prog 57 3 tcL where
  ex := by
    obtain ⟨i, hi, hz, hs, hb⟩ := info_parts info_rlp
    exact ⟨i, _, 24, hi, hz, hs, hb, rfl, by omega⟩
  pos := by omega
  len := fun x => rfl
  one := fun x q h => by unfold tcL at h; simp at h; rcases h with rfl | rfl | rfl <;> rfl
theorem slRl (w : World) (a b c : Int) : SlA tcL (w.alloc (.cells #[.int .i64 a, .int .i64 b, .int .i64 c] 57)) (.slice (some ⟨w.heap.size, 0, none⟩) 1 1) [(a, b, c)] :=
  (OwnA.lit (e := 57) (sz := 3) (enc := tcL) (base := w.heap.size) (xs := [(a, b, c)]) (fun y _ => rfl) (Nat.le_refl _) (by simp) (by simp)).sl
theorem lgL_bd (W : List Int) : ∀ g : Nat, (lgL W g).length ≤ g * W.length
  | 0 => by simp [lgL]
  | g + 1 => by
    have h1 := lgL_bd W g
    have h2 := lpF_le ((g + 1 : Nat) : Int) W W.length
    rw [lgL, List.length_append, Nat.add_mul, Nat.one_mul]
    omega
set_option maxHeartbeats 4000000 in
set_option maxRecDepth 100000 in
theorem rloops_any (N : Int) (vw : Value) (W : List Int) (w : World) (h : Ints w vw W) (hl : W.length ≤ 1000) (hN : 1 ≤ N ∧ N ≤ 10) (hb : ∀ l ∈ W, -1000000 ≤ l ∧ l ≤ 1000000) :
    Calls Tryz.prog 21 #[.int .i64 N, vw] w fun e w' => ∃ v, e = .returned v ∧ OwnA 57 3 tcL w.heap.size w' v (lsF N W) ∧ Below w.heap.size w w' := by
  have HX := Lib.hid (fun W' (hb : Below w.heap.size w W') => h.below hb)
  obtain ⟨A, c, hv, -, -⟩ := h
  subst hv
  have HBD := Lib.hid hb
  obtain ⟨M, rfl⟩ : ∃ M : Nat, N = (M : Int) := ⟨N.toNat, by omega⟩
  have HLS := Lib.hid (show lsF (M : Int) W = lgL W (M - 1) by unfold lsF; rw [show ((M : Int) - 1).toNat = M - 1 by omega])
  generalize lsF (M : Int) W = LS at *
  obtain ⟨n, hn⟩ : ∃ n, n = W.length := ⟨_, rfl⟩
  rw [← hn] at hl HX ⊢
  have HN := Lib.hid hn
  clear hn hb
  go_enter Tryz.func21, Tryz.ntmps21
  go_upto_region 3 with fail
  go_loopg [5, 6, 7, 8] (M - 1) (fun gk s5 s6 s7 s8 wr => ∃ g : Nat, g + 1 ≤ M ∧ gk = M - 1 - g ∧ s6 = .int .i64 ((g + 1 : Nat) : Int) ∧ OwnA 57 3 tcL w.heap.size wr s5 (lgL W g) ∧ Below w.heap.size w wr)
  case atStart => exact ⟨0, by omega, rfl, rfl, OwnA.nil _ _ _ _ _, Below.refl _ _⟩
  case round =>
    obtain ⟨g, hgM, rfl, rfl, hown, hbr⟩ := hrel
    obtain ⟨wo, rfl⟩ : ∃ wo : World, wo = wr := ⟨_, rfl⟩
    by_cases hgt : g + 1 < M
    · have z1 : ((g + 1 : Nat) : Int) < (M : Int) := by omega
      have HO := Lib.hid hown
      have HB := Lib.hid hbr
      have HLG := Lib.hid (show lgL W (g + 1) = lgL W g ++ (lpF ((g + 1 : Nat) : Int) W W.length).2 from rfl)
      have HLB := Lib.hid (show (lgL W g).length ≤ 10000 by
        have := lgL_bd W g
        have h2 : g * W.length ≤ 10 * 1000 := Nat.mul_le_mul (by omega) (by rw [← HN.out]; exact hl)
        omega)
      obtain ⟨G, hG⟩ : ∃ G : Nat, G = g + 1 := ⟨_, rfl⟩
      rw [← hG] at z1 HLG ⊢
      have HG := Lib.hid hG
      generalize lgL W g = LG at *
      obtain ⟨Ao, co, rfl⟩ := hown.form
      clear hown hbr hG
      go_upto_region 7 with fail
      go_loopg [5, 7, 8] n (fun gk s5 s7 s8 wr => ∃ k : Nat, k ≤ n ∧ gk = n - k ∧ s8 = .int .i64 (k : Int) ∧ s7 = .int .i64 (lpF (G : Int) W k).1 ∧ OwnA 57 3 tcL w.heap.size wr s5 (LG ++ (lpF (G : Int) W k).2) ∧ Below w.heap.size w wr)
      case atStart => exact ⟨0, by omega, rfl, rfl, rfl, by simpa [lpF] using HO.out, HB.out⟩
      case round =>
        obtain ⟨k, hk, rfl, rfl, rfl, hown, hbr⟩ := hrel
        obtain ⟨wi, rfl⟩ : ∃ wi : World, wi = wr := ⟨_, rfl⟩
        have HBI := Lib.hid hbr
        by_cases hkt : k < n
        · have z2 : (k : Int) < (n : Int) := by omega
          have hkw : k < W.length := by rw [← HN.out]; exact hkt
          obtain ⟨A1, c1, hv1, -, hx1⟩ := HX.out wi hbr
          injection hv1 with e1 e2 e3
          subst e1
          clear e2 e3
          obtain ⟨b, o, rfl, hcell⟩ := hx1 k W[k] (List.getElem?_eq_getElem hkw)
          have hbd := HBD.out _ (List.getElem_mem hkw)
          have HSU := Lib.hid (show lpF (G : Int) W (k + 1) = if decide (ab33 W[k] = (G : Int)) = true then ((k : Int), if 0 ≤ (lpF (G : Int) W k).1 then (lpF (G : Int) W k).2 ++ [((G : Int), (lpF (G : Int) W k).1, (k : Int))] else (lpF (G : Int) W k).2) else lpF (G : Int) W k by
            rw [lpF, List.getElem?_eq_getElem hkw, Option.getD_some, isG_ab (by have := HG.out; omega)])
          have HLL := Lib.hid (show (LG ++ (lpF (G : Int) W k).2).length ≤ 100000 by
            have := lpF_le (G : Int) W k; have := HLB.out; rw [List.length_append]; omega)
          have HRA := Lib.hid (rabs_any W[k] wi hbd)
          generalize ab33 W[k] = y at *
          generalize W[k] = x at *
          generalize lpF (G : Int) W k = LP at *
          obtain ⟨la, L⟩ := LP
          dsimp only at *
          have HO1 := Lib.hid hown
          obtain ⟨Ai, ci, rfl⟩ := hown.form
          obtain ⟨q, hq⟩ : ∃ q, q = (LG ++ L).length := ⟨_, rfl⟩
          rw [← hq] at HO1 ⊢
          clear hown hbr hx1 hq
          by_cases he : y = (G : Int)
          · have z3 : ((y : Int) != (G : Int)) = false := by simp [he]
            by_cases hla : 0 ≤ la
            · have z5 : la ≥ 0 := hla
              have HE := Lib.hid (show lpF (G : Int) W (k + 1) = ((k : Int), L ++ [((G : Int), la, (k : Int))]) by rw [HSU.out, if_pos (by simp [he]), if_pos hla])
              have HS7 := Lib.hid (HO1.out.below ((Below.refl _ _).alloc (Nat.le_refl _) (.cells #[.int .i64 (G : Int), .int .i64 la, .int .i64 (k : Int)] 57)))
              have HSL := Lib.hid (slRl wi (G : Int) la (k : Int))
              have HB7 := Lib.hid (HBI.out.alloc HBI.out.size (.cells #[.int .i64 (G : Int), .int .i64 la, .int .i64 (k : Int)] 57))
              have HSZ := Lib.hid (show w.heap.size ≤ (wi.alloc (.cells #[.int .i64 (G : Int), .int .i64 la, .int .i64 (k : Int)] 57)).heap.size by have := HBI.out.size; simp; omega)
              have HRL := Lib.hid (show (LG ++ L).length + [((G : Int), la, (k : Int))].length ≤ 1000000000 by have := HLL.out; simp at this ⊢; omega)
              clear he
              go_wp2_with (first | (go_at_call 20; refine HRA.out.mono ?_; rintro e w3 ⟨rfl, rfl⟩) | (at_builtin; go_loud (refine wpList_appA rfl elRl (.tmp 29) (.tmp 34) 53 53 rfl Tryz.underlying53 Tryz.underlying53 rfl HS7.out rfl HSL.out HRL.out HSZ.out ?_); go_loud (intro v' w8 h1 h2 h3 h4; have HO2 := Lib.hid h1; have HB8 := Lib.hid (HB7.out.trans h2); clear h1 h2 h3 h4)))
              go_roundg (n - (k + 1))
              case measure => omega
              case rel => exact ⟨k + 1, by omega, rfl, by go_num, by rw [HE.out], by rw [HE.out]; simpa using HO2.out, HB8.out⟩
            · have z5 : ¬ la ≥ 0 := hla
              have HE := Lib.hid (show lpF (G : Int) W (k + 1) = ((k : Int), L) by rw [HSU.out, if_pos (by simp [he]), if_neg hla])
              clear he
              go_wp2_with (go_at_call 20; refine HRA.out.mono ?_; rintro e w3 ⟨rfl, rfl⟩)
              go_roundg (n - (k + 1))
              case measure => omega
              case rel => exact ⟨k + 1, by omega, rfl, by go_num, by rw [HE.out], by rw [HE.out]; exact HO1.out, HBI.out⟩
          · have z3 : ((y : Int) != (G : Int)) = true := by simp [he]
            have HE := Lib.hid (show lpF (G : Int) W (k + 1) = (la, L) by rw [HSU.out, if_neg (by simp [he])])
            clear he
            go_wp2_with (go_at_call 20; refine HRA.out.mono ?_; rintro e w3 ⟨rfl, rfl⟩)
            go_roundg (n - (k + 1))
            case measure => omega
            case rel => exact ⟨k + 1, by omega, rfl, by go_num, by rw [HE.out], by rw [HE.out]; exact HO1.out, HBI.out⟩
        · have z2 : ¬ ((k : Int) < (n : Int)) := by omega
          have HK := Lib.hid (show k = W.length by have := HN.out; omega)
          have HO1 := Lib.hid hown
          clear hown hbr
          go_wp2_with fail
          go_roundg (M - 1 - (g + 1))
          case measure => omega
          case rel => exact ⟨g + 1, by omega, rfl, by have := HG.out; subst this; go_num, by have h1 := HLG.out; rw [HG.out] at h1; rw [h1, ← HG.out, ← HK.out]; exact HO1.out, HBI.out⟩
    · have z1 : ¬ (((g + 1 : Nat) : Int) < (M : Int)) := by omega
      rw [show lgL W g = LS by rw [HLS.out, show M - 1 = g by omega]] at hown
      have HO := Lib.hid hown
      have HB := Lib.hid hbr
      clear hown hbr
      go_wp2_with fail
      go_ret
      exact ⟨_, rfl, HO.out, HB.out⟩
end Go.Proofs.YtbkgpfalljgdcaaGreatDoor

namespace Go.Proofs.YtbkgpfalljgdcaaGreatDoor
set_option linter.unusedVariables false

/-- a sum -/
def sumI : Nat → (Nat → Int) → Int
  | 0, _ => 0
  | c + 1, f => sumI c f + f c
theorem sumI_congr {C : Nat} {f g : Nat → Int} (h : ∀ l, l < C → f l = g l) : sumI C f = sumI C g := by
  induction C with
  | zero => rfl
  | succ c ih => rw [sumI, sumI, ih (fun l hl => h l (by omega)), h c (by omega)]
theorem sumI_one {C j : Nat} {f g : Nat → Int} (hj : j < C) (h : ∀ l, l < C → l ≠ j → f l = g l) : sumI C f = sumI C g + (f j - g j) := by
  induction C with
  | zero => omega
  | succ c ih =>
    rw [sumI, sumI]
    by_cases e : j = c
    · subst e
      rw [sumI_congr (f := f) (g := g) (fun l hl => h l (by omega) (by omega))]; omega
    · rw [ih (by omega) (fun l hl hne => h l (by omega) hne), h c (by omega) (fun q => e q.symm)]; omega
theorem sumI_two {C j k : Nat} {f g : Nat → Int} (hj : j < C) (hk : k < C) (hjk : j ≠ k) (h : ∀ l, l < C → l ≠ j → l ≠ k → f l = g l) : sumI C f = sumI C g + (f j - g j) + (f k - g k) := by
  have h1 := sumI_one (f := f) (g := fun l => if l = k then f k else g l) hj (fun l hl hne => by
    show f l = if l = k then f k else g l
    by_cases e : l = k
    · rw [if_pos e, e]
    · rw [if_neg e]; exact h l hl hne e)
  have h2 := sumI_one (f := fun l => if l = k then f k else g l) (g := g) hk (fun l hl hne => by
    show (if l = k then f k else g l) = g l
    rw [if_neg hne])
  simp only [if_neg hjk, if_pos] at h1 h2
  rw [h1, h2]; omega
theorem sumI_mod {m : Int} {C : Nat} {f g : Nat → Int} (h : ∀ l, l < C → m ∣ f l - g l) : m ∣ sumI C f - sumI C g := by
  induction C with
  | zero => simp [sumI]
  | succ c ih =>
    rw [sumI, sumI, show sumI c f + f c - (sumI c g + g c) = (sumI c f - sumI c g) + (f c - g c) by omega]
    exact Int.dvd_add (ih (fun l hl => h l (by omega))) (h c (by omega))
theorem sumI_sub {C : Nat} (f g : Nat → Int) (b : Int) : sumI C (fun l => f l - b * g l) = sumI C f - b * sumI C g := by
  induction C with
  | zero => simp [sumI]
  | succ c ih => simp only [sumI]; rw [ih, Int.mul_add]; omega
theorem sumI_mul {C : Nat} (f : Nat → Int) (b : Int) : sumI C (fun l => b * f l) = b * sumI C f := by
  induction C with
  | zero => simp [sumI]
  | succ c ih => simp only [sumI]; rw [ih, Int.mul_add]
theorem sumI_zero {C : Nat} : sumI C (fun _ => 0) = 0 := by
  induction C with
  | zero => rfl
  | succ c ih => rw [sumI, ih]; rfl
theorem sumI_single {C j : Nat} {f : Nat → Int} (hj : j < C) (h : ∀ l, l < C → l ≠ j → f l = 0) : sumI C f = f j := by
  have := sumI_one (f := f) (g := fun _ => 0) hj h
  rw [sumI_zero] at this
  omega
theorem sumI_mulr {C : Nat} (f : Nat → Int) (b : Int) : sumI C (fun l => f l * b) = sumI C f * b := by
  induction C with
  | zero => simp [sumI]
  | succ c ih => simp only [sumI]; rw [ih, Int.add_mul]
theorem sumI_plus {C : Nat} (f g : Nat → Int) : sumI C (fun l => f l + g l) = sumI C f + sumI C g := by
  induction C with
  | zero => simp [sumI]
  | succ c ih => simp only [sumI]; rw [ih]; omega
theorem sumI_swap (n r : Nat) (F : Nat → Nat → Int) : sumI n (fun i => sumI r (fun k => F i k)) = sumI r (fun k => sumI n (fun i => F i k)) := by
  induction n with
  | zero => simp only [sumI]; rw [sumI_zero]
  | succ n ih => simp only [sumI]; rw [ih, sumI_plus]
end Go.Proofs.YtbkgpfalljgdcaaGreatDoor

namespace Go.Proofs.YtbkgpfalljgdcaaGreatDoor
set_option linter.unusedVariables false

def skp (k l : Nat) : Nat := if l < k then l else l + 1
def sgn (k : Nat) : Int := if k % 2 = 0 then 1 else -1
theorem sgn_succ (k : Nat) : sgn (k + 1) = - sgn k := by
  unfold sgn
  by_cases h : k % 2 = 0
  · rw [if_pos h, if_neg (by omega)]
  · rw [if_neg h, if_pos (by omega)]; rfl
/-- the determinant of the first rows of f, as many as there are columns -/
def dt : List Nat → (Nat → Nat → Int) → Int
  | [], _ => 1
  | j :: J, f => sumI (J.length + 1) (fun k => sgn k * f k j * dt J (fun l => f (skp k l)))
/-- row k becomes u -/
def fup (f : Nat → Nat → Int) (k : Nat) (u : Nat → Int) : Nat → Nat → Int := fun l => if l = k then u else f l
theorem dt_congr : ∀ {J : List Nat} {f g : Nat → Nat → Int}, (∀ l, l < J.length → ∀ j ∈ J, f l j = g l j) → dt J f = dt J g
  | [], f, g, _ => rfl
  | j :: J, f, g, h => by
    rw [dt, dt]
    refine sumI_congr (fun k hk => ?_)
    rw [h k (by simpa using hk) j (by simp), dt_congr (J := J) (f := fun l => f (skp k l)) (g := fun l => g (skp k l)) (fun l hl i hi => h (skp k l) (by unfold skp; simp only [List.length_cons]; split <;> omega) i (by simp [hi]))]
theorem fup_skp_same (f : Nat → Nat → Int) (k : Nat) (u : Nat → Int) : (fun l => fup f k u (skp k l)) = fun l => f (skp k l) := by
  funext l
  unfold fup
  rw [if_neg (by unfold skp; split <;> omega)]
/-- where row k has gone when row l is struck -/
def usk (l k : Nat) : Nat := if k < l then k else k - 1
theorem fup_skp_ne (f : Nat → Nat → Int) {k l : Nat} (h : l ≠ k) (u : Nat → Int) : (fun i => fup f k u (skp l i)) = fup (fun i => f (skp l i)) (usk l k) u := by
  funext i
  show (if skp l i = k then u else f (skp l i)) = if i = usk l k then u else f (skp l i)
  have e : (skp l i = k) = (i = usk l k) := by
    unfold skp usk
    apply propext
    split <;> split <;> omega
  simp only [e]
theorem sumI_add {C : Nat} (f g : Nat → Int) (c : Int) : sumI C (fun l => f l + c * g l) = sumI C f + c * sumI C g := by
  induction C with
  | zero => simp [sumI]
  | succ n ih => simp only [sumI]; rw [ih, Int.mul_add]; omega
/-- linear in each row -/
theorem dt_lin : ∀ {J : List Nat} {f : Nat → Nat → Int} {k : Nat} (u v : Nat → Int) (c : Int), k < J.length → dt J (fup f k (fun j => u j + c * v j)) = dt J (fup f k u) + c * dt J (fup f k v)
  | [], f, k, u, v, c, h => by simp at h
  | j :: J, f, k, u, v, c, h => by
    rw [dt, dt, dt, ← sumI_add]
    refine sumI_congr (fun l hl => ?_)
    show sgn l * fup f k (fun j => u j + c * v j) l j * dt J (fun i => fup f k (fun j => u j + c * v j) (skp l i)) = sgn l * fup f k u l j * dt J (fun i => fup f k u (skp l i)) + c * (sgn l * fup f k v l j * dt J (fun i => fup f k v (skp l i)))
    by_cases e : l = k
    · subst e
      rw [fup_skp_same, fup_skp_same, fup_skp_same]
      simp only [fup, if_pos]
      generalize dt J (fun i => f (skp l i)) = d
      rw [Int.mul_add, Int.add_mul, Int.mul_left_comm (sgn l) c, Int.mul_assoc c]
    · have hk : usk l k < J.length := by unfold usk; simp only [List.length_cons] at h hl; split <;> omega
      rw [fup_skp_ne f e, fup_skp_ne f e, fup_skp_ne f e, dt_lin u v c hk]
      simp only [fup, if_neg e]
      generalize sgn l * f l j = s
      rw [Int.mul_add, Int.mul_left_comm]
theorem dt_zero {J : List Nat} {f : Nat → Nat → Int} {k : Nat} (h : k < J.length) : dt J (fup f k (fun _ => 0)) = 0 := by
  have h1 := dt_lin (f := f) (fun _ => 0) (fun _ => 0) (-1) h
  have h2 : (fun j : Nat => (0 : Int) + -1 * 0) = fun _ => 0 := by funext; rfl
  rw [h2] at h1
  omega
theorem dt_mul {J : List Nat} {f : Nat → Nat → Int} {k : Nat} (v : Nat → Int) (c : Int) (h : k < J.length) : dt J (fup f k (fun j => c * v j)) = c * dt J (fup f k v) := by
  have h1 := dt_lin (f := f) (fun _ => 0) v c h
  have h2 : (fun j : Nat => (0 : Int) + c * v j) = fun j => c * v j := by funext; simp
  rw [h2, dt_zero h] at h1
  omega
/-- two neighbours that are alike -/
theorem dt_adj : ∀ {J : List Nat} {f : Nat → Nat → Int} {k : Nat}, k + 1 < J.length → (∀ j ∈ J, f k j = f (k + 1) j) → dt J f = 0
  | [], f, k, h, _ => by simp at h
  | j :: J, f, k, h, he => by
    simp only [List.length_cons] at h
    rw [dt]
    have h0 := sumI_two (C := J.length + 1) (j := k) (k := k + 1) (f := fun l => sgn l * f l j * dt J (fun i => f (skp l i))) (g := fun _ => 0) (by omega) (by omega) (by omega) (fun l hl h1 h2 => by
      show sgn l * f l j * dt J (fun i => f (skp l i)) = 0
      have hz : dt J (fun i => f (skp l i)) = 0 := by
        by_cases q : l < k
        · refine dt_adj (J := J) (k := k - 1) (by omega) (fun i hi => ?_)
          show f (skp l (k - 1)) i = f (skp l (k - 1 + 1)) i
          unfold skp
          rw [if_neg (by omega), if_neg (by omega), show k - 1 + 1 = k by omega]
          exact he i (by simp [hi])
        · refine dt_adj (J := J) (k := k) (by omega) (fun i hi => ?_)
          show f (skp l k) i = f (skp l (k + 1)) i
          unfold skp
          rw [if_pos (by omega), if_pos (by omega)]
          exact he i (by simp [hi])
      rw [hz, Int.mul_zero])
    rw [h0, sumI_zero]
    have e1 : dt J (fun i => f (skp (k + 1) i)) = dt J (fun i => f (skp k i)) := dt_congr (fun l hl i hi => by
      show f (skp (k + 1) l) i = f (skp k l) i
      unfold skp
      by_cases q : l < k
      · rw [if_pos q, if_pos (by omega)]
      · by_cases q2 : l = k
        · subst q2
          rw [if_pos (by omega), if_neg (by omega)]
          exact he i (by simp [hi])
        · rw [if_neg (by omega), if_neg (by omega)])
    show 0 + (sgn k * f k j * dt J (fun i => f (skp k i)) - 0) + (sgn (k + 1) * f (k + 1) j * dt J (fun i => f (skp (k + 1) i)) - 0) = 0
    rw [e1, sgn_succ, ← he j (by simp), Int.neg_mul, Int.neg_mul]
    omega
theorem fup_self (f : Nat → Nat → Int) (k : Nat) : fup f k (f k) = f := by
  funext l; unfold fup; split
  · next e => rw [e]
  · rfl
theorem fup_fup (f : Nat → Nat → Int) (k : Nat) (u v : Nat → Int) : fup (fup f k u) k v = fup f k v := by
  funext l; unfold fup; split <;> rfl
theorem fup_comm (f : Nat → Nat → Int) {k l : Nat} (h : k ≠ l) (u v : Nat → Int) : fup (fup f k u) l v = fup (fup f l v) k u := by
  funext i; unfold fup
  by_cases e1 : i = l
  · by_cases e2 : i = k
    · omega
    · rw [if_pos e1, if_neg e2, if_pos e1]
  · rw [if_neg e1]
    by_cases e2 : i = k
    · rw [if_pos e2, if_pos e2]
    · rw [if_neg e2, if_neg e2, if_neg e1]
/-- neighbours change places -/
theorem dt_swap_adj {J : List Nat} {f : Nat → Nat → Int} {k : Nat} (h : k + 1 < J.length) : dt J (fup (fup f k (f (k + 1))) (k + 1) (f k)) = - dt J f := by
  have hk : k < J.length := by omega
  have hne : k ≠ k + 1 := by omega
  generalize hu : f k = u
  generalize hv : f (k + 1) = v
  have z : dt J (fup (fup f k (fun j => u j + 1 * v j)) (k + 1) (fun j => u j + 1 * v j)) = 0 := dt_adj h (fun j _ => by
    simp only [fup, if_neg hne, if_pos])
  have zu : dt J (fup (fup f k u) (k + 1) u) = 0 := dt_adj h (fun j _ => by simp only [fup, if_neg hne, if_pos])
  have zv : dt J (fup (fup f k v) (k + 1) v) = 0 := dt_adj h (fun j _ => by simp only [fup, if_neg hne, if_pos])
  rw [dt_lin u v 1 h, fup_comm f hne, dt_lin u v 1 hk, fup_comm f hne (fun j => u j + 1 * v j), dt_lin u v 1 hk, fup_comm f hne.symm, fup_comm f hne.symm, fup_comm f hne.symm, fup_comm f hne.symm] at z
  rw [zu, zv] at z
  have e : fup (fup f k u) (k + 1) v = f := by rw [← hu, ← hv, fup_self, fup_self]
  rw [e] at z
  omega
/-- two rows that are alike -/
theorem dt_same : ∀ (d : Nat) {J : List Nat} {f : Nat → Nat → Int} {a : Nat}, a + 1 + d < J.length → (∀ j, f a j = f (a + 1 + d) j) → dt J f = 0
  | 0, J, f, a, h, he => dt_adj h (fun j _ => he j)
  | d + 1, J, f, a, h, he => by
    have hs := dt_swap_adj (J := J) (f := f) (k := a + 1 + d) (by omega)
    have hz := dt_same d (J := J) (f := fup (fup f (a + 1 + d) (f (a + 1 + d + 1))) (a + 1 + d + 1) (f (a + 1 + d))) (a := a) (by omega) (fun j => by
      simp only [fup]
      rw [if_neg (by omega), if_neg (by omega), if_neg (by omega), if_pos True.intro]
      exact he j)
    rw [hz] at hs
    omega
theorem dt_alike {J : List Nat} {f : Nat → Nat → Int} {a b : Nat} (ha : a < J.length) (hb : b < J.length) (hab : a ≠ b) (he : ∀ j, f a j = f b j) : dt J f = 0 := by
  rcases Nat.lt_or_ge a b with q | q
  · exact dt_same (b - (a + 1)) (a := a) (by omega) (fun j => by rw [show a + 1 + (b - (a + 1)) = b by omega]; exact he j)
  · exact dt_same (a - (b + 1)) (a := b) (by omega) (fun j => by rw [show b + 1 + (a - (b + 1)) = a by omega]; exact (he j).symm)
/-- a multiple of another row is added -/
theorem dt_addmul {J : List Nat} {f : Nat → Nat → Int} {a b : Nat} (ha : a < J.length) (hb : b < J.length) (hab : a ≠ b) (c : Int) : dt J (fup f b (fun j => f b j + c * f a j)) = dt J f := by
  rw [dt_lin (f b) (f a) c hb, fup_self]
  have : dt J (fup f b (f a)) = 0 := dt_alike ha hb hab (fun j => by simp only [fup, if_neg hab, if_pos])
  rw [this]; omega
/-- congruent rows -/
theorem dt_mod {m : Int} : ∀ {J : List Nat} {f g : Nat → Nat → Int}, (∀ l, l < J.length → ∀ j ∈ J, m ∣ f l j - g l j) → m ∣ dt J f - dt J g
  | [], f, g, _ => by simp [dt]
  | j :: J, f, g, h => by
    rw [dt, dt]
    refine sumI_mod (fun k hk => ?_)
    show m ∣ sgn k * f k j * dt J (fun l => f (skp k l)) - sgn k * g k j * dt J (fun l => g (skp k l))
    have h1 := h k (by simpa using hk) j (by simp)
    have h2 := dt_mod (J := J) (f := fun l => f (skp k l)) (g := fun l => g (skp k l)) (fun l hl i hi => h (skp k l) (by unfold skp; simp only [List.length_cons]; split <;> omega) i (by simp [hi]))
    generalize dt J (fun l => f (skp k l)) = d1 at *
    generalize dt J (fun l => g (skp k l)) = d2 at *
    generalize f k j = a at *
    generalize g k j = b at *
    have e : sgn k * a * d1 - sgn k * b * d2 = sgn k * (a * (d1 - d2) + (a - b) * d2) := by
      rw [Int.mul_add, Int.mul_sub, Int.sub_mul, Int.mul_sub, Int.mul_sub, ← Int.mul_assoc, ← Int.mul_assoc, ← Int.mul_assoc]; omega
    rw [e]
    exact Int.dvd_trans (Int.dvd_add (Int.dvd_trans h2 (Int.dvd_mul_left _ _)) (Int.dvd_trans h1 (Int.dvd_mul_right _ _))) (Int.dvd_mul_left _ _)
end Go.Proofs.YtbkgpfalljgdcaaGreatDoor

namespace Go.Proofs.YtbkgpfalljgdcaaGreatDoor
set_option linter.unusedVariables false

def prodN : Nat → (Nat → Nat) → Nat
  | 0, _ => 1
  | n + 1, g => prodN n g * g n
def sumN : Nat → (Nat → Nat) → Nat
  | 0, _ => 0
  | n + 1, g => sumN n g + g n
theorem prodN_congr {n : Nat} {f g : Nat → Nat} (h : ∀ l, l < n → f l = g l) : prodN n f = prodN n g := by
  induction n with
  | zero => rfl
  | succ n ih => rw [prodN, prodN, ih (fun l hl => h l (by omega)), h n (by omega)]
theorem prodN_mono {n : Nat} {f g : Nat → Nat} (h : ∀ l, l < n → f l ≤ g l) : prodN n f ≤ prodN n g := by
  induction n with
  | zero => exact Nat.le_refl _
  | succ n ih => rw [prodN, prodN]; exact Nat.mul_le_mul (ih (fun l hl => h l (by omega))) (h n (by omega))
theorem sumN_mono {n : Nat} {f g : Nat → Nat} (h : ∀ l, l < n → f l ≤ g l) : sumN n f ≤ sumN n g := by
  induction n with
  | zero => exact Nat.le_refl _
  | succ n ih => rw [sumN, sumN]; exact Nat.add_le_add (ih (fun l hl => h l (by omega))) (h n (by omega))
theorem sumN_congr {n : Nat} {f g : Nat → Nat} (h : ∀ l, l < n → f l = g l) : sumN n f = sumN n g := by
  induction n with
  | zero => rfl
  | succ n ih => rw [sumN, sumN, ih (fun l hl => h l (by omega)), h n (by omega)]
theorem sumN_mulr {n : Nat} (f : Nat → Nat) (c : Nat) : sumN n (fun l => f l * c) = sumN n f * c := by
  induction n with
  | zero => simp [sumN]
  | succ n ih => simp only [sumN]; rw [ih, Nat.add_mul]
theorem natAbs_sumI {n : Nat} (f : Nat → Int) : (sumI n f).natAbs ≤ sumN n (fun l => (f l).natAbs) := by
  induction n with
  | zero => simp [sumI, sumN]
  | succ n ih =>
    rw [sumI, sumN]
    have := Int.natAbs_add_le (sumI n f) (f n)
    omega
theorem prod_skip (n : Nat) (a s : Nat → Nat) : sumN (n + 1) (fun k => a k * prodN n (fun l => s (skp k l))) ≤ prodN (n + 1) (fun l => a l + s l) := by
  induction n with
  | zero => simp [sumN, prodN]
  | succ n ih =>
    rw [sumN]
    have h1 : sumN (n + 1) (fun k => a k * prodN (n + 1) (fun l => s (skp k l))) = sumN (n + 1) (fun k => a k * prodN n (fun l => s (skp k l))) * s (n + 1) := by
      rw [← sumN_mulr]
      refine sumN_congr (fun k hk => ?_)
      show a k * (prodN n (fun l => s (skp k l)) * s (skp k n)) = a k * prodN n (fun l => s (skp k l)) * s (n + 1)
      rw [show skp k n = n + 1 by unfold skp; rw [if_neg (by omega)], Nat.mul_assoc]
    have h2 : prodN (n + 1) (fun l => s (skp (n + 1) l)) ≤ prodN (n + 1) (fun l => a l + s l) := by
      refine prodN_mono (fun l hl => ?_)
      show s (skp (n + 1) l) ≤ a l + s l
      rw [show skp (n + 1) l = l by unfold skp; rw [if_pos hl]]; omega
    show _ ≤ prodN (n + 1) (fun l => a l + s l) * (a (n + 1) + s (n + 1))
    rw [h1, Nat.mul_add, Nat.add_comm (prodN (n + 1) (fun l => a l + s l) * a (n + 1))]
    exact Nat.add_le_add (Nat.mul_le_mul_right _ ih) (by rw [Nat.mul_comm (a (n + 1))]; exact Nat.mul_le_mul_right _ h2)
/-- the sum of the absolute values in some columns -/
def rsum (J : List Nat) (u : Nat → Int) : Nat := (J.map fun j => (u j).natAbs).sum
theorem dt_bound : ∀ (J : List Nat) (f : Nat → Nat → Int), (dt J f).natAbs ≤ prodN J.length (fun l => rsum J (f l))
  | [], f => by simp [dt, prodN]
  | j :: J, f => by
    rw [dt]
    refine Nat.le_trans (natAbs_sumI _) ?_
    refine Nat.le_trans (sumN_mono (g := fun k => (f k j).natAbs * prodN J.length (fun l => rsum J (f (skp k l)))) (fun k _ => ?_)) ?_
    · show (sgn k * f k j * dt J (fun l => f (skp k l))).natAbs ≤ _
      rw [Int.natAbs_mul, Int.natAbs_mul, show (sgn k).natAbs = 1 by unfold sgn; split <;> rfl, Nat.one_mul]
      exact Nat.mul_le_mul_left _ (dt_bound J (fun l => f (skp k l)))
    · have h := prod_skip J.length (fun k => (f k j).natAbs) (fun l => rsum J (f l))
      refine Nat.le_trans h (Nat.le_of_eq (prodN_congr (fun l _ => ?_)))
      simp [rsum]
theorem prodN_const (n c : Nat) : prodN n (fun _ => c) = c ^ n := by
  induction n with
  | zero => rfl
  | succ n ih => rw [prodN, ih, Nat.pow_succ]
/-- columns that are renamed -/
theorem dt_map (τ : Nat → Nat) : ∀ (J : List Nat) (f : Nat → Nat → Int), dt (J.map τ) f = dt J (fun l j => f l (τ j))
  | [], f => rfl
  | j :: J, f => by
    rw [List.map_cons, dt, dt, List.length_map]
    refine sumI_congr (fun k _ => ?_)
    show sgn k * f k (τ j) * dt (J.map τ) (fun l => f (skp k l)) = sgn k * f k (τ j) * dt J (fun l j => f (skp k l) (τ j))
    rw [dt_map τ J]
def prodI : Nat → (Nat → Int) → Int
  | 0, _ => 1
  | n + 1, g => prodI n g * g n
theorem prodI_front (n : Nat) (g : Nat → Int) : prodI (n + 1) g = g 0 * prodI n (fun l => g (l + 1)) := by
  induction n with
  | zero => simp [prodI]
  | succ n ih => rw [prodI, ih, prodI, Int.mul_assoc]
/-- a triangle -/
theorem dt_tri : ∀ (r s : Nat) (f : Nat → Nat → Int), (∀ l j, l < r → j < r → j < l → f l (s + j) = 0) → dt (List.range' s r) f = prodI r (fun l => f l (s + l))
  | 0, s, f, _ => rfl
  | r + 1, s, f, h => by
    rw [List.range'_succ, dt, List.length_range', prodI_front]
    have h0 := sumI_single (C := r + 1) (j := 0) (f := fun k => sgn k * f k s * dt (List.range' (s + 1) r) (fun l => f (skp k l))) (by omega) (fun l hl hne => by
      show sgn l * f l s * dt (List.range' (s + 1) r) (fun i => f (skp l i)) = 0
      have := h l 0 hl (by omega) (by omega)
      rw [Nat.add_zero] at this
      rw [this, Int.mul_zero, Int.zero_mul])
    rw [h0]
    have e : dt (List.range' (s + 1) r) (fun l => f (skp 0 l)) = prodI r (fun l => f (l + 1) (s + 1 + l)) := by
      rw [dt_tri r (s + 1) (fun l => f (skp 0 l)) (fun l j hl hj hlt => by
        show f (skp 0 l) (s + 1 + j) = 0
        rw [show skp 0 l = l + 1 by unfold skp; rw [if_neg (by omega)], show s + 1 + j = s + (j + 1) by omega]
        exact h (l + 1) (j + 1) (by omega) (by omega) (by omega))]
      rfl
    show sgn 0 * f 0 s * dt (List.range' (s + 1) r) (fun l => f (skp 0 l)) = f 0 (s + 0) * prodI r (fun l => f (l + 1) (s + (l + 1)))
    rw [e, show sgn 0 = 1 from rfl, Int.one_mul, Nat.add_zero]
    have e2 : (fun l => f (l + 1) (s + 1 + l)) = fun l => f (l + 1) (s + (l + 1)) := by funext l; rw [show s + 1 + l = s + (l + 1) by omega]
    rw [e2]; rfl
/-- multiples of one row are added to all others -/
theorem dt_many {J : List Nat} {f : Nat → Nat → Int} {a : Nat} (ha : a < J.length) (c : Nat → Int) (hc : c a = 0) : dt J (fun l j => f l j + c l * f a j) = dt J f := by
  have h : ∀ x, x ≤ J.length → dt J (fun l j => f l j + (if l < x then c l else 0) * f a j) = dt J f := by
    intro x
    induction x with
    | zero => intro _; exact dt_congr (fun l _ j _ => by rw [if_neg (by omega)]; simp)
    | succ x ih =>
      intro hx
      rw [← ih (by omega)]
      by_cases e : x = a
      · refine dt_congr (fun l _ j _ => ?_)
        by_cases q : l < x
        · rw [if_pos q, if_pos (by omega)]
        · by_cases q2 : l = x
          · rw [if_pos (by omega), if_neg q, q2, e, hc]
          · rw [if_neg q, if_neg (by omega)]
      · have h1 := dt_addmul (J := J) (f := fun l j => f l j + (if l < x then c l else 0) * f a j) ha (show x < J.length by omega) (fun z => e z.symm) (c x)
        rw [← h1]
        refine dt_congr (fun l _ j _ => ?_)
        unfold fup
        by_cases q2 : l = x
        · rw [if_pos q2, q2]
          simp only [if_neg (show ¬ x < x by omega), if_pos (show x < x + 1 by omega), Int.zero_mul, Int.add_zero]
          by_cases q3 : a < x
          · rw [if_pos q3, hc]; simp
          · rw [if_neg q3]; simp
        · rw [if_neg q2]
          show f l j + (if l < x + 1 then c l else 0) * f a j = f l j + (if l < x then c l else 0) * f a j
          by_cases q : l < x
          · rw [if_pos q, if_pos (by omega)]
          · rw [if_neg q, if_neg (by omega)]
  rw [← h J.length (Nat.le_refl _)]
  exact dt_congr (fun l hl j _ => by rw [if_pos hl])
/-- a row that is a combination of the rows -/
theorem dt_comb {J : List Nat} {f : Nat → Nat → Int} {k : Nat} (hk : k < J.length) (b : Nat → Int) : dt J (fup f k (fun j => sumI J.length (fun l => b l * f l j))) = b k * dt J f := by
  have h : ∀ x, x ≤ J.length → dt J (fup f k (fun j => sumI x (fun l => b l * f l j))) = (if k < x then b k else 0) * dt J f := by
    intro x
    induction x with
    | zero =>
      intro _
      rw [if_neg (by omega), Int.zero_mul]
      exact dt_zero hk
    | succ x ih =>
      intro hx
      have h1 := dt_lin (J := J) (f := f) (k := k) (fun j => sumI x (fun l => b l * f l j)) (f x) (b x) hk
      show dt J (fup f k (fun j => sumI x (fun l => b l * f l j) + b x * f x j)) = _
      rw [h1, ih (by omega)]
      by_cases e : x = k
      · subst e
        rw [fup_self, if_neg (by omega), if_pos (by omega)]; omega
      · have : dt J (fup f k (f x)) = 0 := dt_alike (show x < J.length by omega) hk e (fun j => by simp only [fup, if_neg e, if_pos])
        rw [this]
        by_cases q : k < x
        · rw [if_pos q, if_pos (by omega)]; omega
        · rw [if_neg q, if_neg (by omega)]; omega
  rw [h J.length (Nat.le_refl _), if_pos hk]
end Go.Proofs.YtbkgpfalljgdcaaGreatDoor
