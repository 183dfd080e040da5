/- SurfaceSums: the law's walk. -/
import Derived.Test.YtjeklcgfffibpaaGreatDoorZSym
namespace Go.Proofs.YtjeklcgfffibpaaGreatDoor
open Go.RowKit
set_option linter.unusedVariables false

/-- the numbers that the law looks at are within the limit -/
def gdB (m : List (List Int)) (i j : Nat) : Bool := sfB (gm m i j) && sfB (gm m j i) && sfB (gm m i j + gm m j i)
theorem sfB_iff {x : Int} : sfB x = true ↔ -1125899906842624 ≤ x ∧ x ≤ 1125899906842624 := by unfold sfB; simp
theorem absF_gt {x : Int} (h : -9223372036854775808 ≤ x ∧ x ≤ 9223372036854775807) : (1125899906842624 < absF x) ↔ sfB x = false := by
  rw [← Bool.not_eq_true, sfB_iff]
  unfold absF
  constructor
  · intro h1 h2
    split at h1
    · omega
    · split at h1 <;> omega
  · intro h1
    split
    · omega
    · split <;> omega
theorem gd_all {m : List (List Int)} (hsq : sqM m = true) (h : ∀ i j, i < m.length → j < m.length → gdB m i j = true) : smM m = true ∧ smM (symM m) = true := by
  refine ⟨List.all_eq_true.2 fun r hr => List.all_eq_true.2 fun x hx => ?_, List.all_eq_true.2 fun r hr => List.all_eq_true.2 fun x hx => ?_⟩
  · obtain ⟨i, hi, rfl⟩ := List.getElem_of_mem hr
    obtain ⟨j, hj, rfl⟩ := List.getElem_of_mem hx
    have hl : m[i].length = m.length := of_decide_eq_true (List.all_eq_true.1 hsq _ (List.getElem_mem hi))
    have h1 := h i j hi (by omega)
    unfold gdB at h1
    simp only [Bool.and_eq_true] at h1
    have e : gm m i j = m[i][j] := by unfold gm; rw [List.getElem?_eq_getElem hi, Option.getD_some, List.getElem?_eq_getElem hj]; rfl
    rw [← e]; exact h1.1.1
  · obtain ⟨i, hi, rfl⟩ := List.mem_map.1 hr
    obtain ⟨j, hj, rfl⟩ := List.mem_map.1 hx
    have h1 := h i j (List.mem_range.1 hi) (List.mem_range.1 hj)
    unfold gdB at h1
    simp only [Bool.and_eq_true] at h1
    exact h1.2
theorem gd_some {m : List (List Int)} {i j : Nat} (hi : i < m.length) (hj : j < m.length) (h : gdB m i j = false) : ¬ (smM m = true ∧ smM (symM m) = true) := by
  rintro ⟨h1, h2⟩
  have a1 := sfB_iff.2 (gm_small h1 i j)
  have a2 := sfB_iff.2 (gm_small h1 j i)
  have a3 : sfB (gm m i j + gm m j i) = true := by
    have b1 := List.all_eq_true.1 h2 (symR m i) (List.mem_map.2 ⟨i, List.mem_range.2 hi, rfl⟩)
    exact List.all_eq_true.1 b1 _ (List.mem_map.2 ⟨j, List.mem_range.2 hj, rfl⟩)
  unfold gdB at h
  rw [a1, a2, a3] at h
  cases h
/-- what lies at (i, j) and at (j, i) -/
theorem MatI.two {w : World} {A : Option Addr} {n c : Nat} {m : List (List Int)} (h : MatI w (.slice A n c) m) (hsq : sqM m = true) (hn : n = m.length) {i j : Nat} (hi : i < n) (hj : j < n) : ∃ b1 o1 b2 o2 c2 b3 o3 c3, A = some ⟨b1, o1, none⟩ ∧ ∀ W, Below w.heap.size w W → (W.cell? ⟨b1, o1 + i, none⟩ = some (.slice (some ⟨b2, o2, none⟩) n c2) ∧ W.cell? ⟨b2, o2 + j, none⟩ = some (.int .i64 (gm m i j)) ∧ W.cell? ⟨b1, o1 + j, none⟩ = some (.slice (some ⟨b3, o3, none⟩) n c3) ∧ W.cell? ⟨b3, o3 + i, none⟩ = some (.int .i64 (gm m j i))) := by
  subst hn
  obtain ⟨A0, c0, b1, o1, A2, c2, b2, o2, hv0, rfl, q1, rfl, q2⟩ := h.gmc hsq hi hj
  obtain ⟨A0', c0', b1', o1', A3, c3, b3, o3, hv1, rfl, q3, rfl, q4⟩ := h.gmc hsq hj hi
  injection hv0 with e1 _ e2
  injection hv1 with e3 _ e4
  subst e1
  injection e3 with e3
  injection e3 with e5 e6
  subst e5; subst e6
  exact ⟨b1, o1, b2, o2, c2, b3, o3, c3, rfl, fun W hb => ⟨(hb.cell (block_lt_of_cell q1)).trans q1, (hb.cell (block_lt_of_cell q2)).trans q2, (hb.cell (block_lt_of_cell q3)).trans q3, (hb.cell (block_lt_of_cell q4)).trans q4⟩⟩
theorem MatI.rowv {w : World} {A : Option Addr} {n c i : Nat} {m : List (List Int)} (h : MatI w (.slice A n c) m) (hi : i < m.length) : ∃ b1 o1 A2 c2, A = some ⟨b1, o1, none⟩ ∧ ∀ W, Below w.heap.size w W → W.cell? ⟨b1, o1 + i, none⟩ = some (.slice A2 m[i].length c2) := by
  obtain ⟨b1, o1, hA, -, u, hu, hrow⟩ := h.at_ hi
  obtain ⟨A2, c2, rfl, -, -⟩ := hrow
  exact ⟨b1, o1, A2, c2, hA, fun W hb => (hb.cell (block_lt_of_cell hu)).trans hu⟩
theorem gm_bd {m : List (List Int)} (h : ∀ r ∈ m, ∀ x ∈ r, -9223372036854775808 ≤ x ∧ x ≤ 9223372036854775807) (i j : Nat) : -9223372036854775808 ≤ gm m i j ∧ gm m i j ≤ 9223372036854775807 := by
  unfold gm
  cases hi : m[i]? with
  | none => simp
  | some r =>
    rw [Option.getD_some]
    cases hj : r[j]? with
    | none => simp
    | some x => exact h r (List.mem_of_getElem? hi) x (List.mem_of_getElem? hj)
theorem symM_sq (m : List (List Int)) : sqM (symM m) = true := List.all_eq_true.2 fun r hr => decide_eq_true (by
  obtain ⟨i, _, rfl⟩ := List.mem_map.1 hr
  rw [symR_length, symM_length])
theorem gm_sym {m : List (List Int)} {i j : Nat} (hi : i < m.length) (hj : j < m.length) : gm (symM m) i j = gm m i j + gm m j i := by
  unfold gm
  rw [symM_get hi, Option.getD_some, symR_get hj]; rfl
def WantP (n : Nat) (m : List (List Int)) (i j : Nat) (want : Int) : Prop := (want = 0 ∧ ∀ i' j', i' < n → j' < n → (i' < i ∨ (i' = i ∧ j' < j)) → gdB m i' j' = true) ∨ (want = 9 ∧ ∃ i' j', i' < n ∧ j' < n ∧ gdB m i' j' = false)
theorem WantP.good {n : Nat} {m : List (List Int)} {i j : Nat} {want : Int} (h : WantP n m i j want) (hg : gdB m i j = true) : WantP n m i (j + 1) want := by
  rcases h with ⟨h1, h2⟩ | h
  · refine .inl ⟨h1, fun i' j' a b c => ?_⟩
    by_cases e : i' = i ∧ j' = j
    · rw [e.1, e.2]; exact hg
    · exact h2 i' j' a b (by omega)
  · exact .inr h
theorem WantP.bad {n : Nat} {m : List (List Int)} {i j : Nat} (hi : i < n) (hj : j < n) (hg : gdB m i j = false) : WantP n m i (j + 1) 9 := .inr ⟨rfl, i, j, hi, hj, hg⟩
theorem WantP.row {n : Nat} {m : List (List Int)} {i : Nat} {want : Int} (h : WantP n m i n want) : WantP n m (i + 1) 0 want := by
  rcases h with ⟨h1, h2⟩ | h
  · exact .inl ⟨h1, fun i' j' a b c => h2 i' j' a b (by omega)⟩
  · exact .inr h
def LawT (w : World) (e : Ending) (w' : World) : Prop := e = .returned (.bool true) ∧ Below w.heap.size w w'
set_option maxHeartbeats 8000000 in
set_option maxRecDepth 100000 in
theorem sums_law38 (v : Value) (m : List (List Int)) (w : World) (h : MatI w v m) (hl : m.length ≤ 9223372036854775807) (hr : ∀ r ∈ m, r.length ≤ 9223372036854775807) (hz : ∀ r ∈ m, ∀ x ∈ r, -9223372036854775808 ≤ x ∧ x ≤ 9223372036854775807) (ht : Tb w) (ht6 : Tb6 w) :
    Calls Tryz.prog 6 #[v] w (LawT w) := by
  have HAW := Lib.hid (fun W (hb : Below w.heap.size w W) => awake38 W (ht.below hb) (ht6.below hb))
  have HSY := Lib.hid (fun (hn : m.length ≤ 12) W (hb : Below w.heap.size w W) => Symmetrized_any v m W (h.below hb) hn hr)
  have HM := Lib.hid (fun W (hb : Below w.heap.size w W) => h.below hb)
  have HBD := Lib.hid (gm_bd hz)
  have HR := Lib.hid hr
  obtain ⟨A, c, rfl⟩ := h.form
  obtain ⟨n, hnn⟩ : ∃ n, n = m.length := ⟨_, rfl⟩
  rw [← hnn] at hl HSY HM ⊢
  have HN := Lib.hid hnn
  clear h hr hz ht ht6 hnn
  by_cases hbig : 12 < n
  · have z1 : (12 : Int) < (n : Int) := by omega
    go_enter Tryz.func6, Tryz.ntmps6
    go_upto_region 2 with (go_at_call 7; refine (HAW.out w (Below.refl _ _)).mono ?_; rintro e w1 ⟨rfl, hb1⟩)
    have HB1 := Lib.hid hb1
    clear hb1
    go_wp2_with (go_at_call 7; refine (HAW.out w1 HB1.out).mono ?_; rintro e w2 ⟨rfl, hb2⟩)
    go_ret
    exact ⟨rfl, HB1.out.trans (hb2.mono HB1.out.size)⟩
  · have z1 : ¬ ((12 : Int) < (n : Int)) := by omega
    have HSY2 := Lib.hid (HSY.out (by omega))
    clear HSY
    go_enter Tryz.func6, Tryz.ntmps6
    go_upto_region 3 with (go_at_call 7; refine (HAW.out w (Below.refl _ _)).mono ?_; rintro e w1 ⟨rfl, hb1⟩)
    have HB1 := Lib.hid hb1
    have HS := Lib.hid (HSY2.out w1 hb1)
    clear hb1 HAW HSY2
    go_wp2_with fail
    refine HS.out.mono ?_
    rintro e w2 ⟨hb2, hd⟩
    have HB2 := Lib.hid (HB1.out.trans (hb2.mono HB1.out.size))
    have HMW := Lib.hid (HM.out w2 HB2.out)
    clear HS hb2 HB1 HM
    obtain ⟨sv, ec, rfl, hcs⟩ : ∃ (sv : Value) (ec : Int), e = .returned (.tuple #[sv, .int .i64 ec]) ∧ ((sqM m = false ∧ sv = .slice none 0 0 ∧ ec = 1) ∨ (sqM m = true ∧ ¬ (smM m = true ∧ smM (symM m) = true) ∧ sv = .slice none 0 0 ∧ ec = 9) ∨ (sqM m = true ∧ (smM m = true ∧ smM (symM m) = true) ∧ ec = 0 ∧ MatI w2 sv (symM m))) := by
      rcases hd with ⟨h1, he⟩ | ⟨h1, h2, he⟩ | ⟨h1, h2, h3, v', he, hm⟩
      · exact ⟨_, _, he, .inl ⟨h1, rfl, rfl⟩⟩
      · refine ⟨_, _, he, .inr (.inl ⟨h1, ?_, rfl, rfl⟩)⟩
        rintro ⟨q1, q2⟩
        rcases h2 with q | q
        · rw [q1] at q; cases q
        · rw [q2] at q; cases q
      · exact ⟨_, _, he, .inr (.inr ⟨h1, ⟨h2, h3⟩, rfl, hm⟩)⟩
    have HCS := Lib.hid hcs
    have hsf : ∃ As ns cs, sv = .slice As ns cs := by
      rcases hcs with ⟨_, e, _⟩ | ⟨_, _, e, _⟩ | ⟨_, _, _, hm⟩
      · exact ⟨_, _, _, e⟩
      · exact ⟨_, _, _, e⟩
      · obtain ⟨A', c', e⟩ := hm.form; exact ⟨_, _, _, e⟩
    obtain ⟨As, ns, cs, rfl⟩ := hsf
    clear hcs hd
    go_upto_region 6 with fail
    go_loopg [7, 31] n (fun gk s7 s31 wr => ∃ i : Nat, i ≤ n ∧ gk = n - i ∧ s31 = .int .i64 (i : Int) ∧ wr = w2 ∧ ∀ k (hk : k < m.length), k < i → m[k].length = n)
    case atStart => exact ⟨0, by omega, rfl, rfl, rfl, fun k _ h => absurd h (by omega)⟩
    case round =>
      obtain ⟨i, hi, rfl, rfl, rfl, hall⟩ := hrel
      have HALL := Lib.hid hall
      clear hall
      by_cases hit : i < n
      · have z2 : (i : Int) < (n : Int) := by omega
        have hml : i < m.length := by rw [← HN.out]; exact hit
        obtain ⟨b1, o1, A2, c2, rfl, hcell⟩ := HMW.out.rowv hml
        have c1 := hcell _ (Below.refl _ _)
        have hrl := HR.out _ (List.getElem_mem hml)
        obtain ⟨q, hq⟩ : ∃ q, q = m[i].length := ⟨_, rfl⟩
        rw [← hq] at c1 hrl
        have HQ := Lib.hid hq
        clear hq hcell
        by_cases hqn : q = n
        · have z4 : ((q : Int) != (n : Int)) = false := by simp [hqn]
          have HQN := Lib.hid hqn
          clear hqn
          go_wp2_with fail
          go_roundg (n - (i + 1))
          case measure => omega
          case rel => exact ⟨i + 1, by omega, rfl, by go_num, rfl, fun k hk hki => by
            rcases Nat.lt_or_ge k i with z | z
            · exact HALL.out k hk z
            · have : k = i := by omega
              subst this
              rw [← HQ.out]; exact HQN.out⟩
        · have z4 : ((q : Int) != (n : Int)) = true := by simp; omega
          have hsq : sqM m = false := by
            refine Bool.eq_false_iff.2 fun h => hqn ?_
            have := of_decide_eq_true (List.all_eq_true.1 h _ (List.getElem_mem hml))
            rw [HQ.out, HN.out]; exact this
          have hcs := HCS.out
          rw [hsq] at hcs
          simp only [Bool.false_eq_true, false_and, or_false, true_and] at hcs
          obtain ⟨hsv, rfl⟩ := hcs
          injection hsv with e1 e2 e3
          subst e1; subst e2; subst e3
          clear hqn HQ hml hsq HCS
          go_wp2_with fail
          go_ret
          exact ⟨rfl, HB2.out⟩
      · have z2 : ¬ ((i : Int) < (n : Int)) := by omega
        have hsq : sqM m = true := List.all_eq_true.2 fun r hr => decide_eq_true (by
          obtain ⟨k, hk, rfl⟩ := List.getElem_of_mem hr
          rw [← HN.out]; exact HALL.out k hk (by have := HN.out; omega))
        have HSQ := Lib.hid hsq
        have hcs := HCS.out
        rw [hsq] at hcs
        simp only [Bool.true_eq_false, false_and, false_or, true_and] at hcs
        have HCS2 := Lib.hid hcs
        clear hsq hcs HCS HALL
        go_upto_region 12 with fail
        obtain ⟨w2, rfl⟩ : ∃ w2 : World, w2 = wr := ⟨_, rfl⟩
        go_loopg [5, 8, 9, 10, 11, 50] n (fun gk s5 s8 s9 s10 s11 s50 wr => ∃ (ix : Nat) (want : Int), ix ≤ n ∧ gk = n - ix ∧ s50 = .int .i64 (ix : Int) ∧ s5 = .int .i64 want ∧ wr = w2 ∧ WantP n m ix 0 want)
        case atStart => exact ⟨0, 0, by omega, rfl, rfl, rfl, rfl, .inl ⟨rfl, fun i' j' _ _ h => absurd h (by omega)⟩⟩
        case round =>
          obtain ⟨ix, want, hix, rfl, rfl, rfl, rfl, hwp⟩ := hrel
          have HWP := Lib.hid hwp
          clear hwp
          by_cases hit2 : ix < n
          · have z3 : (ix : Int) < (n : Int) := by omega
            have hml : ix < m.length := by rw [← HN.out]; exact hit2
            obtain ⟨b1, o1, A2, c2, rfl, hcell⟩ := HMW.out.rowv hml
            have c1 := hcell _ (Below.refl _ _)
            rw [show m[ix].length = n by rw [HN.out]; exact of_decide_eq_true (List.all_eq_true.1 HSQ.out _ (List.getElem_mem hml))] at c1
            have HC1 := Lib.hid c1
            clear hcell hml
            go_upto_region 15 with fail
            clear c1
            obtain ⟨w2, rfl⟩ : ∃ w2 : World, w2 = wr := ⟨_, rfl⟩
            go_loopg [5, 10, 11, 57] n (fun gk s5 s10 s11 s57 wr => ∃ (jx : Nat) (want : Int), jx ≤ n ∧ gk = n - jx ∧ s57 = .int .i64 (jx : Int) ∧ s5 = .int .i64 want ∧ wr = w2 ∧ WantP n m ix jx want)
            case atStart => exact ⟨0, want, by omega, rfl, rfl, rfl, rfl, HWP.out⟩
            case round =>
              clear HWP
              obtain ⟨jx, want, hjx, rfl, rfl, rfl, rfl, hwp⟩ := hrel
              have HWP := Lib.hid hwp
              clear hwp
              by_cases hjt : jx < n
              · have z4 : (jx : Int) < (n : Int) := by omega
                obtain ⟨b1', o1', b2, o2, c2', b3, o3, c3, hA, hcells⟩ := HMW.out.two HSQ.out HN.out hit2 hjt
                injection hA with hA
                injection hA with e1 e2
                subst e1; subst e2
                obtain ⟨k1, k2, k3, k4⟩ := hcells _ (Below.refl _ _)
                have hA2 := HC1.out
                rw [k1] at hA2
                injection hA2 with hA2
                injection hA2 with e1 e2 e3
                subst e1
                have hbx := HBD.out ix jx
                have hby := HBD.out jx ix
                have HGD := Lib.hid (show gdB m ix jx = (sfB (gm m ix jx) && sfB (gm m jx ix) && sfB (gm m ix jx + gm m jx ix)) from rfl)
                generalize gm m ix jx = x at *
                generalize gm m jx ix = y at *
                have HAX := Lib.hid (fun W => abs26_any x W hbx)
                have HAY := Lib.hid (fun W => abs26_any y W hby)
                have HGX := Lib.hid (absF_gt hbx)
                have HGY := Lib.hid (absF_gt hby)
                generalize hax : absF x = ax at *
                generalize hay : absF y = ay at *
                clear hcells k1 e3 hax hay
                by_cases gx : sfB x = true
                · have zx : ¬ (1125899906842624 < ax) := fun h => by have := HGX.out.1 h; rw [gx] at this; cases this
                  by_cases gy : sfB y = true
                  · have zy : ¬ (1125899906842624 < ay) := fun h => by have := HGY.out.1 h; rw [gy] at this; cases this
                    have hx2 := sfB_iff.1 gx
                    have hy2 := sfB_iff.1 gy
                    have hsw : IntKind.i64.wrap (x + y) = x + y := IntWalk.i64_in _ (by omega)
                    have HAZ := Lib.hid (fun W => abs26_any (x + y) W (by omega))
                    have HGZ := Lib.hid (absF_gt (x := x + y) (by omega))
                    generalize haz : absF (x + y) = az at *
                    clear haz
                    by_cases gz : sfB (x + y) = true
                    · have zz : ¬ (1125899906842624 < az) := fun h => by have := HGZ.out.1 h; rw [gz] at this; cases this
                      have HGT := Lib.hid (show gdB m ix jx = true by rw [HGD.out, gx, gy, gz]; rfl)
                      clear gx gy gz HGX HGY HGZ HGD
                      go_wp2_with (go_at_call 24; first | ((with_reducible refine (HAX.out _).mono ?_); rintro e w' ⟨rfl, rfl⟩) | ((with_reducible refine (HAY.out _).mono ?_); rintro e w' ⟨rfl, rfl⟩) | ((with_reducible refine (HAZ.out _).mono ?_); rintro e w' ⟨rfl, rfl⟩))
                      go_roundg (n - (jx + 1))
                      case measure => omega
                      case rel => exact ⟨jx + 1, want, by omega, rfl, by go_num, rfl, rfl, HWP.out.good HGT.out⟩
                    · have zz : 1125899906842624 < az := HGZ.out.2 (by simpa using gz)
                      have HGT := Lib.hid (show gdB m ix jx = false by rw [HGD.out, gx, gy]; simpa using gz)
                      clear gx gy gz HGX HGY HGZ HGD
                      go_wp2_with (go_at_call 24; first | ((with_reducible refine (HAX.out _).mono ?_); rintro e w' ⟨rfl, rfl⟩) | ((with_reducible refine (HAY.out _).mono ?_); rintro e w' ⟨rfl, rfl⟩) | ((with_reducible refine (HAZ.out _).mono ?_); rintro e w' ⟨rfl, rfl⟩))
                      go_roundg (n - (jx + 1))
                      case measure => omega
                      case rel => exact ⟨jx + 1, 9, by omega, rfl, by go_num, rfl, rfl, WantP.bad hit2 hjt HGT.out⟩
                  · have zy0 : 1125899906842624 < ay := HGY.out.2 (by simpa using gy)
                    have zy : decide (1125899906842624 < ay) = true := decide_eq_true zy0
                    clear zy0
                    have HGT := Lib.hid (show gdB m ix jx = false by rw [HGD.out, gx, show sfB y = false by simpa using gy]; rfl)
                    clear gx gy HGX HGY HGD
                    go_wp2_with (go_at_call 24; first | ((with_reducible refine (HAX.out _).mono ?_); rintro e w' ⟨rfl, rfl⟩) | ((with_reducible refine (HAY.out _).mono ?_); rintro e w' ⟨rfl, rfl⟩))
                    go_roundg (n - (jx + 1))
                    case measure => omega
                    case rel => exact ⟨jx + 1, 9, by omega, rfl, by go_num, rfl, rfl, WantP.bad hit2 hjt HGT.out⟩
                · have zx : 1125899906842624 < ax := HGX.out.2 (by simpa using gx)
                  have HGT := Lib.hid (show gdB m ix jx = false by rw [HGD.out, show sfB x = false by simpa using gx]; rfl)
                  clear gx HGX HGY HGD
                  go_wp2_with (go_at_call 24; (with_reducible refine (HAX.out _).mono ?_); rintro e w' ⟨rfl, rfl⟩)
                  go_roundg (n - (jx + 1))
                  case measure => omega
                  case rel => exact ⟨jx + 1, 9, by omega, rfl, by go_num, rfl, rfl, WantP.bad hit2 hjt HGT.out⟩
              · have z4 : ¬ ((jx : Int) < (n : Int)) := by omega
                have HWR := Lib.hid (WantP.row (show WantP n m ix n want by have := HWP.out; rwa [show jx = n by omega] at this))
                go_wp2_with fail
                go_roundg (n - (ix + 1))
                case measure => omega
                case rel => exact ⟨ix + 1, want, by omega, rfl, by go_num, rfl, rfl, HWR.out⟩
          · have z3 : ¬ ((ix : Int) < (n : Int)) := by omega
            rcases HCS2.out with ⟨hno, hsv, rfl⟩ | ⟨hyes, rfl, hms⟩
            · have hw9 : want = 9 := by
                rcases HWP.out with ⟨_, h2⟩ | ⟨h2, _⟩
                · exact absurd (gd_all HSQ.out fun i j hi hj => h2 i j (by rw [HN.out]; exact hi) (by rw [HN.out]; exact hj) (.inl (by have := HN.out; omega))) hno
                · exact h2
              subst hw9
              injection hsv with e1 e2 e3
              subst e1; subst e2; subst e3
              clear hno HCS2 HWP
              go_wp2_with fail
              go_ret
              exact ⟨rfl, HB2.out⟩
            · have hw0 : want = 0 := by
                rcases HWP.out with ⟨h2, _⟩ | ⟨_, i', j', h1, h2, h3⟩
                · exact h2
                · exact absurd hyes (gd_some (by rw [← HN.out]; exact h1) (by rw [← HN.out]; exact h2) h3)
              subst hw0
              have HMS := Lib.hid hms
              have hlen : ns = n := by
                obtain ⟨A', c', e⟩ := hms.form
                injection e with _ e2 _
                rw [e2, symM_length, HN.out]
              subst hlen
              have HYES := Lib.hid hyes
              clear hyes hms HCS2 HWP
              go_upto_region 26 with fail
              obtain ⟨w2, rfl⟩ : ∃ w2 : World, w2 = wr := ⟨_, rfl⟩
              go_loopg [12, 13, 14, 15, 101] ns (fun gk s12 s13 s14 s15 s101 wr => ∃ iz : Nat, iz ≤ ns ∧ gk = ns - iz ∧ s101 = .int .i64 (iz : Int) ∧ Below w2.heap.size w2 wr)
              case atStart => exact ⟨0, by omega, rfl, rfl, Below.refl _ _⟩
              case round =>
                obtain ⟨iz, hiz, rfl, rfl, hbz⟩ := hrel
                obtain ⟨wp, rfl⟩ : ∃ wp : World, wp = wr := ⟨_, rfl⟩
                have HBZ := Lib.hid hbz
                clear hbz
                by_cases hit3 : iz < ns
                · have z5 : (iz : Int) < (ns : Int) := by omega
                  have hml : iz < m.length := by rw [← HN.out]; exact hit3
                  obtain ⟨b1, o1, A2, c2, rfl, hcell⟩ := HMW.out.rowv hml
                  have c1 := hcell _ HBZ.out
                  rw [show m[iz].length = ns by rw [HN.out]; exact of_decide_eq_true (List.all_eq_true.1 HSQ.out _ (List.getElem_mem hml))] at c1
                  have HC1 := Lib.hid (show ∀ W, Below w2.heap.size w2 W → W.cell? ⟨b1, o1 + iz, none⟩ = some (.slice A2 ns c2) from fun W hb => by
                    have := hcell W hb
                    rwa [show m[iz].length = ns by rw [HN.out]; exact of_decide_eq_true (List.all_eq_true.1 HSQ.out _ (List.getElem_mem hml))] at this)
                  clear hcell hml
                  go_upto_region 29 with fail
                  clear c1
                  go_loopg [14, 15, 108] ns (fun gk s14 s15 s108 wr => ∃ jz : Nat, jz ≤ ns ∧ gk = ns - jz ∧ s108 = .int .i64 (jz : Int) ∧ Below w2.heap.size w2 wr)
                  case atStart => exact ⟨0, by omega, rfl, rfl, HBZ.out⟩
                  case round =>
                    clear HBZ
                    obtain ⟨jz, hjz, rfl, rfl, hbj⟩ := hrel
                    obtain ⟨wq, rfl⟩ : ∃ wq : World, wq = wr := ⟨_, rfl⟩
                    have HBJ := Lib.hid hbj
                    clear hbj
                    by_cases hjt : jz < ns
                    · have z6 : (jz : Int) < (ns : Int) := by omega
                      obtain ⟨b1', o1', b2, o2, c2', b3, o3, c3, hA, hcells⟩ := HMW.out.two HSQ.out HN.out hit3 hjt
                      injection hA with hA
                      injection hA with e1 e2
                      subst e1; subst e2
                      have hA2 := HC1.out _ (Below.refl _ _)
                      rw [(hcells _ (Below.refl _ _)).1] at hA2
                      injection hA2 with hA2
                      injection hA2 with e1 e2 e3
                      subst e1; subst e3
                      obtain ⟨s1, t1, s2, t2, d2, s3, t3, d3, hSA, hsc⟩ := HMS.out.two (symM_sq m) (by rw [symM_length, HN.out]) hit3 hjt
                      subst hSA
                      rw [gm_sym (by rw [← HN.out]; exact hit3) (by rw [← HN.out]; exact hjt)] at hsc
                      have hx2 := gm_small HYES.out.1 iz jz
                      have hy2 := gm_small HYES.out.1 jz iz
                      have HCM := Lib.hid hcells
                      have HCS3 := Lib.hid hsc
                      obtain ⟨k1, k2, k3, k4⟩ := hcells _ HBJ.out
                      generalize gm m iz jz = x_ at *
                      generalize gm m jz iz = y_ at *
                      have HSW := Lib.hid (show IntKind.i64.wrap (x_ + y_) = x_ + y_ from IntWalk.i64_in _ (by omega))
                      have HNN := Lib.hid (show ((ns : Int) != (ns : Int)) = false by simp)
                      have HVV := Lib.hid (show ((x_ + y_ : Int) != x_ + y_) = false by simp)
                      clear hcells hsc k1 k3 k4
                      go_upto_region 31 with fail
                      clear k2
                      refine wp_region_phy (fun a b => Below a.heap.size a b) (fun h k => h.trans (k.mono h.size)) ((Below.refl _ _).drew) (by kernel_rfl) (by kernel_rfl) (by kernel_rfl) (by kernel_rfl) (phiT (fun i => ([some (.slice (some ⟨s1, t1, none⟩) ns cs), some (.int .i64 (ns : Int)), some (.slice (some ⟨b1, o1, none⟩) ns c), some (.int .i64 (ns : Int)), some (.bool false), some (.bool false), some (.slice (some ⟨s1, t1, none⟩) ns cs), some (.int .i64 (iz : Int)), some (.pointer (some ⟨s1, t1 + iz, none⟩)), some (.slice (some ⟨s2, t2, none⟩) ns d2), some (.int .i64 (ns : Int)), some (.slice (some ⟨b1, o1, none⟩) ns c), some (.int .i64 (ns : Int)), some (.bool false), some (.bool false), some (.bool false), some (.slice (some ⟨s1, t1, none⟩) ns cs), some (.int .i64 (iz : Int)), some (.pointer (some ⟨s1, t1 + iz, none⟩)), some (.slice (some ⟨s2, t2, none⟩) ns d2), some (.int .i64 (jz : Int)), some (.pointer (some ⟨s2, t2 + jz, none⟩)), some (.int .i64 (x_ + y_)), some (.int .i64 x_), some (.slice (some ⟨b1, o1, none⟩) ns c), some (.int .i64 (jz : Int)), some (.pointer (some ⟨b1, o1 + jz, none⟩)), some (.slice (some ⟨b3, o3, none⟩) ns c3), some (.int .i64 (iz : Int)), some (.pointer (some ⟨b3, o3 + iz, none⟩)), some (.int .i64 y_), some (.int .i64 (x_ + y_)), some (.bool false), some (.bool false)] : List (Option Value)).getD i none) (fun i v w => True)) (fun i v w w' h hb => ?_) ⟨?_, ?_, ?_, ?_, ?_, ?_, ?_, ?_, ?_, ?_, ?_, ?_, ?_, ?_, ?_, ?_, ?_, ?_, ?_, ?_, ?_, ?_, ?_, ?_, ?_, ?_, ?_, ?_, ?_, ?_, ?_, ?_, ?_, ?_, trivial⟩ ?_
                      · unfold phiT at h ⊢
                        split
                        · next u hu => rw [hu] at h; exact h
                        · next hu =>
                          rw [hu] at h
                          exact True.intro
                      · intro x w1 bA hT hdep hold hb
                        refine .inl ⟨trivial, ?_⟩
                        have e3 : bA.tmps[3]?.getD undef = .slice (some ⟨s1, t1, none⟩) ns cs := hb 3
                        refine phx_run (.slice (some ⟨s1, t1, none⟩) ns cs) ?_ (Below.refl _ _) rfl
                        clear hb hdep hold
                        go_simp
                      · intro x w1 bA hT hdep hold hb
                        refine .inl ⟨trivial, ?_⟩
                        have e113 : bA.tmps[113]?.getD undef = .slice (some ⟨s1, t1, none⟩) ns cs := (hb 113).trans (hdep 0 (by decide))
                        refine phx_run (.int .i64 (ns : Int)) ?_ (Below.refl _ _) rfl
                        clear hb hdep hold
                        go_simp
                      · intro x w1 bA hT hdep hold hb
                        refine .inl ⟨trivial, ?_⟩
                        have e0 : bA.tmps[0]?.getD undef = .slice (some ⟨b1, o1, none⟩) ns c := hb 0
                        refine phx_run (.slice (some ⟨b1, o1, none⟩) ns c) ?_ (Below.refl _ _) rfl
                        clear hb hdep hold
                        go_simp
                      · intro x w1 bA hT hdep hold hb
                        refine .inl ⟨trivial, ?_⟩
                        have e115 : bA.tmps[115]?.getD undef = .slice (some ⟨b1, o1, none⟩) ns c := (hb 115).trans (hdep 2 (by decide))
                        refine phx_run (.int .i64 (ns : Int)) ?_ (Below.refl _ _) rfl
                        clear hb hdep hold
                        go_simp
                      · intro x w1 bA hT hdep hold hb
                        refine .inl ⟨trivial, ?_⟩
                        have e114 : bA.tmps[114]?.getD undef = .int .i64 (ns : Int) := (hb 114).trans (hdep 1 (by decide))
                        have e116 : bA.tmps[116]?.getD undef = .int .i64 (ns : Int) := (hb 116).trans (hdep 3 (by decide))
                        have zz := HNN.out
                        refine phx_run (.bool false) ?_ (Below.refl _ _) rfl
                        clear hb hdep hold
                        go_simp
                      · intro x w1 bA hT hdep hold hb
                        refine .inl ⟨trivial, ?_⟩
                        have e117 : bA.tmps[117]?.getD undef = .bool false := (hb 117).trans (hdep 4 (by decide))
                        refine phx_run (.bool false) ?_ (Below.refl _ _) rfl
                        clear hb hdep hold
                        go_simp
                      · intro x w1 bA hT hdep hold hb
                        refine .inl ⟨⟨118, rfl, (hb 118).trans (hdep 5 (by decide))⟩, ?_⟩
                        have e3 : bA.tmps[3]?.getD undef = .slice (some ⟨s1, t1, none⟩) ns cs := hb 3
                        refine phx_run (.slice (some ⟨s1, t1, none⟩) ns cs) ?_ (Below.refl _ _) rfl
                        clear hb hdep hold
                        go_simp
                      · intro x w1 bA hT hdep hold hb
                        refine .inl ⟨⟨118, rfl, (hb 118).trans (hdep 5 (by decide))⟩, ?_⟩
                        have e12 : bA.tmps[12]?.getD undef = .int .i64 (iz : Int) := hb 12
                        refine phx_run (.int .i64 (iz : Int)) ?_ (Below.refl _ _) rfl
                        clear hb hdep hold
                        go_simp
                      · intro x w1 bA hT hdep hold hb
                        refine .inl ⟨⟨118, rfl, (hb 118).trans (hdep 5 (by decide))⟩, ?_⟩
                        have e119 : bA.tmps[119]?.getD undef = .slice (some ⟨s1, t1, none⟩) ns cs := (hb 119).trans (hdep 6 (by decide))
                        have e120 : bA.tmps[120]?.getD undef = .int .i64 (iz : Int) := (hb 120).trans (hdep 7 (by decide))
                        refine phx_run (.pointer (some ⟨s1, t1 + iz, none⟩)) ?_ (Below.refl _ _) rfl
                        clear hb hdep hold
                        go_simp
                      · intro x w1 bA hT hdep hold hb
                        refine .inl ⟨⟨118, rfl, (hb 118).trans (hdep 5 (by decide))⟩, ?_⟩
                        have e121 : bA.tmps[121]?.getD undef = .pointer (some ⟨s1, t1 + iz, none⟩) := (hb 121).trans (hdep 8 (by decide))
                        have hcc := HCS3.out w1 (HBJ.out.trans (hT.mono HBJ.out.size))
                        have cc := hcc.1
                        clear hcc
                        refine phx_run (.slice (some ⟨s2, t2, none⟩) ns d2) ?_ (Below.refl _ _) rfl
                        clear hb hdep hold
                        go_simp
                      · intro x w1 bA hT hdep hold hb
                        refine .inl ⟨⟨118, rfl, (hb 118).trans (hdep 5 (by decide))⟩, ?_⟩
                        have e122 : bA.tmps[122]?.getD undef = .slice (some ⟨s2, t2, none⟩) ns d2 := (hb 122).trans (hdep 9 (by decide))
                        refine phx_run (.int .i64 (ns : Int)) ?_ (Below.refl _ _) rfl
                        clear hb hdep hold
                        go_simp
                      · intro x w1 bA hT hdep hold hb
                        refine .inl ⟨⟨118, rfl, (hb 118).trans (hdep 5 (by decide))⟩, ?_⟩
                        have e0 : bA.tmps[0]?.getD undef = .slice (some ⟨b1, o1, none⟩) ns c := hb 0
                        refine phx_run (.slice (some ⟨b1, o1, none⟩) ns c) ?_ (Below.refl _ _) rfl
                        clear hb hdep hold
                        go_simp
                      · intro x w1 bA hT hdep hold hb
                        refine .inl ⟨⟨118, rfl, (hb 118).trans (hdep 5 (by decide))⟩, ?_⟩
                        have e124 : bA.tmps[124]?.getD undef = .slice (some ⟨b1, o1, none⟩) ns c := (hb 124).trans (hdep 11 (by decide))
                        refine phx_run (.int .i64 (ns : Int)) ?_ (Below.refl _ _) rfl
                        clear hb hdep hold
                        go_simp
                      · intro x w1 bA hT hdep hold hb
                        refine .inl ⟨⟨118, rfl, (hb 118).trans (hdep 5 (by decide))⟩, ?_⟩
                        have e123 : bA.tmps[123]?.getD undef = .int .i64 (ns : Int) := (hb 123).trans (hdep 10 (by decide))
                        have e125 : bA.tmps[125]?.getD undef = .int .i64 (ns : Int) := (hb 125).trans (hdep 12 (by decide))
                        have zz := HNN.out
                        refine phx_run (.bool false) ?_ (Below.refl _ _) rfl
                        clear hb hdep hold
                        go_simp
                      · intro x w1 bA hT hdep hold hb
                        refine .inl ⟨trivial, ?_⟩
                        have e118 : bA.tmps[118]?.getD undef = .bool false := (hb 118).trans (hdep 5 (by decide))
                        have e126 : bA.tmps[126]?.getD undef = .bool false := (hb 126).trans (hdep 13 (by decide))
                        refine phx_run (.bool false) ?_ (Below.refl _ _) rfl
                        clear hb hdep hold
                        go_simp
                      · intro x w1 bA hT hdep hold hb
                        refine .inl ⟨trivial, ?_⟩
                        have e127 : bA.tmps[127]?.getD undef = .bool false := (hb 127).trans (hdep 14 (by decide))
                        refine phx_run (.bool false) ?_ (Below.refl _ _) rfl
                        clear hb hdep hold
                        go_simp
                      · intro x w1 bA hT hdep hold hb
                        refine .inl ⟨⟨128, rfl, (hb 128).trans (hdep 15 (by decide))⟩, ?_⟩
                        have e3 : bA.tmps[3]?.getD undef = .slice (some ⟨s1, t1, none⟩) ns cs := hb 3
                        refine phx_run (.slice (some ⟨s1, t1, none⟩) ns cs) ?_ (Below.refl _ _) rfl
                        clear hb hdep hold
                        go_simp
                      · intro x w1 bA hT hdep hold hb
                        refine .inl ⟨⟨128, rfl, (hb 128).trans (hdep 15 (by decide))⟩, ?_⟩
                        have e12 : bA.tmps[12]?.getD undef = .int .i64 (iz : Int) := hb 12
                        refine phx_run (.int .i64 (iz : Int)) ?_ (Below.refl _ _) rfl
                        clear hb hdep hold
                        go_simp
                      · intro x w1 bA hT hdep hold hb
                        refine .inl ⟨⟨128, rfl, (hb 128).trans (hdep 15 (by decide))⟩, ?_⟩
                        have e129 : bA.tmps[129]?.getD undef = .slice (some ⟨s1, t1, none⟩) ns cs := (hb 129).trans (hdep 16 (by decide))
                        have e130 : bA.tmps[130]?.getD undef = .int .i64 (iz : Int) := (hb 130).trans (hdep 17 (by decide))
                        refine phx_run (.pointer (some ⟨s1, t1 + iz, none⟩)) ?_ (Below.refl _ _) rfl
                        clear hb hdep hold
                        go_simp
                      · intro x w1 bA hT hdep hold hb
                        refine .inl ⟨⟨128, rfl, (hb 128).trans (hdep 15 (by decide))⟩, ?_⟩
                        have e131 : bA.tmps[131]?.getD undef = .pointer (some ⟨s1, t1 + iz, none⟩) := (hb 131).trans (hdep 18 (by decide))
                        have hcc := HCS3.out w1 (HBJ.out.trans (hT.mono HBJ.out.size))
                        have cc := hcc.1
                        clear hcc
                        refine phx_run (.slice (some ⟨s2, t2, none⟩) ns d2) ?_ (Below.refl _ _) rfl
                        clear hb hdep hold
                        go_simp
                      · intro x w1 bA hT hdep hold hb
                        refine .inl ⟨⟨128, rfl, (hb 128).trans (hdep 15 (by decide))⟩, ?_⟩
                        have e14 : bA.tmps[14]?.getD undef = .int .i64 (jz : Int) := hb 14
                        refine phx_run (.int .i64 (jz : Int)) ?_ (Below.refl _ _) rfl
                        clear hb hdep hold
                        go_simp
                      · intro x w1 bA hT hdep hold hb
                        refine .inl ⟨⟨128, rfl, (hb 128).trans (hdep 15 (by decide))⟩, ?_⟩
                        have e132 : bA.tmps[132]?.getD undef = .slice (some ⟨s2, t2, none⟩) ns d2 := (hb 132).trans (hdep 19 (by decide))
                        have e133 : bA.tmps[133]?.getD undef = .int .i64 (jz : Int) := (hb 133).trans (hdep 20 (by decide))
                        refine phx_run (.pointer (some ⟨s2, t2 + jz, none⟩)) ?_ (Below.refl _ _) rfl
                        clear hb hdep hold
                        go_simp
                      · intro x w1 bA hT hdep hold hb
                        refine .inl ⟨⟨128, rfl, (hb 128).trans (hdep 15 (by decide))⟩, ?_⟩
                        have e134 : bA.tmps[134]?.getD undef = .pointer (some ⟨s2, t2 + jz, none⟩) := (hb 134).trans (hdep 21 (by decide))
                        have hcc := HCS3.out w1 (HBJ.out.trans (hT.mono HBJ.out.size))
                        have cc := hcc.2.1
                        clear hcc
                        refine phx_run (.int .i64 (x_ + y_)) ?_ (Below.refl _ _) rfl
                        clear hb hdep hold
                        go_simp
                      · intro x w1 bA hT hdep hold hb
                        refine .inl ⟨⟨128, rfl, (hb 128).trans (hdep 15 (by decide))⟩, ?_⟩
                        have e15 : bA.tmps[15]?.getD undef = .int .i64 x_ := hb 15
                        refine phx_run (.int .i64 x_) ?_ (Below.refl _ _) rfl
                        clear hb hdep hold
                        go_simp
                      · intro x w1 bA hT hdep hold hb
                        refine .inl ⟨⟨128, rfl, (hb 128).trans (hdep 15 (by decide))⟩, ?_⟩
                        have e0 : bA.tmps[0]?.getD undef = .slice (some ⟨b1, o1, none⟩) ns c := hb 0
                        refine phx_run (.slice (some ⟨b1, o1, none⟩) ns c) ?_ (Below.refl _ _) rfl
                        clear hb hdep hold
                        go_simp
                      · intro x w1 bA hT hdep hold hb
                        refine .inl ⟨⟨128, rfl, (hb 128).trans (hdep 15 (by decide))⟩, ?_⟩
                        have e14 : bA.tmps[14]?.getD undef = .int .i64 (jz : Int) := hb 14
                        refine phx_run (.int .i64 (jz : Int)) ?_ (Below.refl _ _) rfl
                        clear hb hdep hold
                        go_simp
                      · intro x w1 bA hT hdep hold hb
                        refine .inl ⟨⟨128, rfl, (hb 128).trans (hdep 15 (by decide))⟩, ?_⟩
                        have e137 : bA.tmps[137]?.getD undef = .slice (some ⟨b1, o1, none⟩) ns c := (hb 137).trans (hdep 24 (by decide))
                        have e138 : bA.tmps[138]?.getD undef = .int .i64 (jz : Int) := (hb 138).trans (hdep 25 (by decide))
                        refine phx_run (.pointer (some ⟨b1, o1 + jz, none⟩)) ?_ (Below.refl _ _) rfl
                        clear hb hdep hold
                        go_simp
                      · intro x w1 bA hT hdep hold hb
                        refine .inl ⟨⟨128, rfl, (hb 128).trans (hdep 15 (by decide))⟩, ?_⟩
                        have e139 : bA.tmps[139]?.getD undef = .pointer (some ⟨b1, o1 + jz, none⟩) := (hb 139).trans (hdep 26 (by decide))
                        have hcc := HCM.out w1 (HBJ.out.trans (hT.mono HBJ.out.size))
                        have cc := hcc.2.2.1
                        clear hcc
                        refine phx_run (.slice (some ⟨b3, o3, none⟩) ns c3) ?_ (Below.refl _ _) rfl
                        clear hb hdep hold
                        go_simp
                      · intro x w1 bA hT hdep hold hb
                        refine .inl ⟨⟨128, rfl, (hb 128).trans (hdep 15 (by decide))⟩, ?_⟩
                        have e12 : bA.tmps[12]?.getD undef = .int .i64 (iz : Int) := hb 12
                        refine phx_run (.int .i64 (iz : Int)) ?_ (Below.refl _ _) rfl
                        clear hb hdep hold
                        go_simp
                      · intro x w1 bA hT hdep hold hb
                        refine .inl ⟨⟨128, rfl, (hb 128).trans (hdep 15 (by decide))⟩, ?_⟩
                        have e140 : bA.tmps[140]?.getD undef = .slice (some ⟨b3, o3, none⟩) ns c3 := (hb 140).trans (hdep 27 (by decide))
                        have e141 : bA.tmps[141]?.getD undef = .int .i64 (iz : Int) := (hb 141).trans (hdep 28 (by decide))
                        refine phx_run (.pointer (some ⟨b3, o3 + iz, none⟩)) ?_ (Below.refl _ _) rfl
                        clear hb hdep hold
                        go_simp
                      · intro x w1 bA hT hdep hold hb
                        refine .inl ⟨⟨128, rfl, (hb 128).trans (hdep 15 (by decide))⟩, ?_⟩
                        have e142 : bA.tmps[142]?.getD undef = .pointer (some ⟨b3, o3 + iz, none⟩) := (hb 142).trans (hdep 29 (by decide))
                        have hcc := HCM.out w1 (HBJ.out.trans (hT.mono HBJ.out.size))
                        have cc := hcc.2.2.2
                        clear hcc
                        refine phx_run (.int .i64 y_) ?_ (Below.refl _ _) rfl
                        clear hb hdep hold
                        go_simp
                      · intro x w1 bA hT hdep hold hb
                        refine .inl ⟨⟨128, rfl, (hb 128).trans (hdep 15 (by decide))⟩, ?_⟩
                        have e136 : bA.tmps[136]?.getD undef = .int .i64 x_ := (hb 136).trans (hdep 23 (by decide))
                        have e143 : bA.tmps[143]?.getD undef = .int .i64 y_ := (hb 143).trans (hdep 30 (by decide))
                        have zz := HSW.out
                        refine phx_run (.int .i64 (x_ + y_)) ?_ (Below.refl _ _) rfl
                        clear hb hdep hold
                        go_simp
                      · intro x w1 bA hT hdep hold hb
                        refine .inl ⟨⟨128, rfl, (hb 128).trans (hdep 15 (by decide))⟩, ?_⟩
                        have e135 : bA.tmps[135]?.getD undef = .int .i64 (x_ + y_) := (hb 135).trans (hdep 22 (by decide))
                        have e144 : bA.tmps[144]?.getD undef = .int .i64 (x_ + y_) := (hb 144).trans (hdep 31 (by decide))
                        have zz := HVV.out
                        refine phx_run (.bool false) ?_ (Below.refl _ _) rfl
                        clear hb hdep hold
                        go_simp
                      · intro x w1 bA hT hdep hold hb
                        refine .inl ⟨trivial, ?_⟩
                        have e128 : bA.tmps[128]?.getD undef = .bool false := (hb 128).trans (hdep 15 (by decide))
                        have e145 : bA.tmps[145]?.getD undef = .bool false := (hb 145).trans (hdep 32 (by decide))
                        refine phx_run (.bool false) ?_ (Below.refl _ _) rfl
                        clear hb hdep hold
                        go_simp
                      intro x w1 hT hall
                      have x0e : x 0 = .slice (some ⟨s1, t1, none⟩) ns cs := hall 0 (by decide)
                      have x1e : x 1 = .int .i64 (ns : Int) := hall 1 (by decide)
                      have x2e : x 2 = .slice (some ⟨b1, o1, none⟩) ns c := hall 2 (by decide)
                      have x3e : x 3 = .int .i64 (ns : Int) := hall 3 (by decide)
                      have x4e : x 4 = .bool false := hall 4 (by decide)
                      have x5e : x 5 = .bool false := hall 5 (by decide)
                      have x6e : x 6 = .slice (some ⟨s1, t1, none⟩) ns cs := hall 6 (by decide)
                      have x7e : x 7 = .int .i64 (iz : Int) := hall 7 (by decide)
                      have x8e : x 8 = .pointer (some ⟨s1, t1 + iz, none⟩) := hall 8 (by decide)
                      have x9e : x 9 = .slice (some ⟨s2, t2, none⟩) ns d2 := hall 9 (by decide)
                      have x10e : x 10 = .int .i64 (ns : Int) := hall 10 (by decide)
                      have x11e : x 11 = .slice (some ⟨b1, o1, none⟩) ns c := hall 11 (by decide)
                      have x12e : x 12 = .int .i64 (ns : Int) := hall 12 (by decide)
                      have x13e : x 13 = .bool false := hall 13 (by decide)
                      have x14e : x 14 = .bool false := hall 14 (by decide)
                      have x15e : x 15 = .bool false := hall 15 (by decide)
                      have x16e : x 16 = .slice (some ⟨s1, t1, none⟩) ns cs := hall 16 (by decide)
                      have x17e : x 17 = .int .i64 (iz : Int) := hall 17 (by decide)
                      have x18e : x 18 = .pointer (some ⟨s1, t1 + iz, none⟩) := hall 18 (by decide)
                      have x19e : x 19 = .slice (some ⟨s2, t2, none⟩) ns d2 := hall 19 (by decide)
                      have x20e : x 20 = .int .i64 (jz : Int) := hall 20 (by decide)
                      have x21e : x 21 = .pointer (some ⟨s2, t2 + jz, none⟩) := hall 21 (by decide)
                      have x22e : x 22 = .int .i64 (x_ + y_) := hall 22 (by decide)
                      have x23e : x 23 = .int .i64 x_ := hall 23 (by decide)
                      have x24e : x 24 = .slice (some ⟨b1, o1, none⟩) ns c := hall 24 (by decide)
                      have x25e : x 25 = .int .i64 (jz : Int) := hall 25 (by decide)
                      have x26e : x 26 = .pointer (some ⟨b1, o1 + jz, none⟩) := hall 26 (by decide)
                      have x27e : x 27 = .slice (some ⟨b3, o3, none⟩) ns c3 := hall 27 (by decide)
                      have x28e : x 28 = .int .i64 (iz : Int) := hall 28 (by decide)
                      have x29e : x 29 = .pointer (some ⟨b3, o3 + iz, none⟩) := hall 29 (by decide)
                      have x30e : x 30 = .int .i64 y_ := hall 30 (by decide)
                      have x31e : x 31 = .int .i64 (x_ + y_) := hall 31 (by decide)
                      have x32e : x 32 = .bool false := hall 32 (by decide)
                      have x33e : x 33 = .bool false := hall 33 (by decide)
                      simp only [putAll, dstOf, Act.put, List.map_cons, List.map_nil, List.setIfInBounds_toArray, List.set_cons_succ, List.set_cons_zero, Nat.reduceAdd, x0e, x1e, x2e, x3e, x4e, x5e, x6e, x7e, x8e, x9e, x10e, x11e, x12e, x13e, x14e, x15e, x16e, x17e, x18e, x19e, x20e, x21e, x22e, x23e, x24e, x25e, x26e, x27e, x28e, x29e, x30e, x31e, x32e, x33e]
                      clear x0e x1e x2e x3e x4e x5e x6e x7e x8e x9e x10e x11e x12e x13e x14e x15e x16e x17e x18e x19e x20e x21e x22e x23e x24e x25e x26e x27e x28e x29e x30e x31e x32e x33e hall
                      have HBK := Lib.hid (HBJ.out.trans (hT.mono HBJ.out.size))
                      clear hT HBJ
                      go_wp2_with fail
                      go_roundg (ns - (jz + 1))
                      case measure => omega
                      case rel => exact ⟨jz + 1, by omega, rfl, by go_num, HBK.out⟩
                    · have z6 : ¬ ((jz : Int) < (ns : Int)) := by omega
                      go_wp2_with fail
                      go_roundg (ns - (iz + 1))
                      case measure => omega
                      case rel => exact ⟨iz + 1, by omega, rfl, by go_num, HBJ.out⟩
                · have z5 : ¬ ((iz : Int) < (ns : Int)) := by omega
                  have z7 : ((ns : Int) == (ns : Int)) = true := by simp
                  go_wp2_with fail
                  go_ret
                  exact ⟨by simp, HB2.out.trans (HBZ.out.mono HB2.out.size)⟩
end Go.Proofs.YtjeklcgfffibpaaGreatDoor
