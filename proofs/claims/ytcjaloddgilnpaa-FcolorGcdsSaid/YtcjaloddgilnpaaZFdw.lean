/- intmatrix.find: the walk. -/
import Derived.Test.YtcjaloddgilnpaaZSmp
import Derived.BigRegion
namespace Go.Proofs.Ytcjaloddgilnpaa
open Go.RowKit
set_option linter.unusedVariables false

set_option maxHeartbeats 2000000 in
set_option maxRecDepth 100000 in
theorem find_none (R : Nat) (bs : List Nat) (C : Nat) (A : List (List Nat)) (k : Nat) (w : World) (h : MU w R bs C A) (hA : A.length ≤ 1000) (hC : C ≤ 1000) (hk : k ≤ 1000) (hF : findF A k C = none) :
    Calls Try.prog 81 #[.slice (some ⟨R, 0, none⟩) A.length A.length, .int .i64 (k : Nat)] w fun e w' => e = .returned (.tuple #[.int .i64 0, .bool false]) ∧ w = w' := by
  have HF := Lib.hid (findF_none hF)
  clear hF
  go_enter Try.func81, Try.ntmps81
  go_wp2_with fail
  go_loopg [6, 7] (A.length + 1000 - k) (fun gk s6 s7 wr => ∃ i : Nat, k ≤ i ∧ gk = A.length + 1000 - i ∧ i ≤ 1000 ∧ s6 = .int .i64 (i : Int) ∧ w = wr)
  case atStart => exact ⟨k, Nat.le_refl _, rfl, hk, rfl, rfl⟩
  case round =>
    obtain ⟨i, hki, rfl, hi1, rfl, rfl⟩ := hrel
    by_cases hlt : i < A.length
    · have z1 : (i : Int) < (A.length : Int) := by omega
      obtain ⟨b, hb, hbm⟩ := h.bl hlt
      have zc := h.cellR hb
      have HB := Lib.hid hb
      have HH := Lib.hid h
      clear hb h
      go_wp2_with fail
      go_loopg [7] (C + 1000 - k) (fun gk s7 wr => ∃ j : Nat, k ≤ j ∧ gk = C + 1000 - j ∧ j ≤ 1000 ∧ s7 = .int .i64 (j : Int) ∧ w = wr)
      case atStart => exact ⟨k, Nat.le_refl _, rfl, hk, rfl, rfl⟩
      case round =>
        obtain ⟨j, hkj, rfl, hj1, rfl, rfl⟩ := hrel
        by_cases hjt : j < C
        · have z2 : (j : Int) < (C : Int) := by omega
          have zd := HH.out.cell HB.out hjt
          rw [HF.out i j hki hlt hkj hjt] at zd
          go_wp2_with fail
          go_roundg (C + 1000 - (j + 1))
          case measure => omega
          case rel => exact ⟨j + 1, by omega, rfl, by omega, by go_num, rfl⟩
        · have z2 : ¬ ((j : Int) < (C : Int)) := by omega
          go_wp2_with fail
          go_roundg (A.length + 1000 - (i + 1))
          case measure => omega
          case rel => exact ⟨i + 1, by omega, rfl, by omega, by go_num, rfl⟩
    · have z1 : ¬ ((i : Int) < (A.length : Int)) := by omega
      go_wp2_with fail
      go_ret2
      exact ⟨rfl, rfl⟩
theorem fdR_step {A : List (List Nat)} {k C i f x y : Nat} (h : fdR A k C i (f + 1) = some (x, y)) : (∃ j, fdC (gr A i) k (C - k) = some j ∧ x = i ∧ y = j) ∨ (fdC (gr A i) k (C - k) = none ∧ fdR A k C (i + 1) f = some (x, y)) := by
  unfold fdR at h
  split at h
  · next j hj => injection h with h; injection h with h1 h2; exact .inl ⟨j, hj, h1.symm, h2.symm⟩
  · next hn => exact .inr ⟨hn, h⟩
theorem fdC_hit {r : List Nat} {j f : Nat} (h : gn r j ≠ 0) : fdC r j (f + 1) = some j := by unfold fdC; rw [if_pos h]
theorem fdC_miss {r : List Nat} {j f : Nat} (h : gn r j = 0) : fdC r j (f + 1) = fdC r (j + 1) f := by
  rw [fdC, if_neg (by simpa using h)]
theorem swap_hd (C : Nat) (bs : List Nat) (i k b c : Nat) : ((bs.map (hd C)).set i (hd C c)).set k (hd C b) = ((bs.set i c).set k b).map (hd C) := by
  rw [← List.map_set, ← List.map_set]
theorem swap_all {w : World} {R C : Nat} {bs : List Nat} {A : List (List Nat)} (h : MU w R bs C A) {i k b c : Nat} (hi : bs[i]? = some b) (hk : bs[k]? = some c) :
    MU ((w.drew.setCell ⟨R, i, none⟩ (.slice (some ⟨c, 0, none⟩) C C)).setCell ⟨R, k, none⟩ (.slice (some ⟨b, 0, none⟩) C C)) R ((bs.set i c).set k b) C (swR A i k) ∧ (∀ x ∈ (bs.set i c).set k b, x ∈ bs) ∧
      Wr (R :: bs) w ((w.drew.setCell ⟨R, i, none⟩ (.slice (some ⟨c, 0, none⟩) C C)).setCell ⟨R, k, none⟩ (.slice (some ⟨b, 0, none⟩) C C)) := by
  have o : Onl R w ((w.drew.setCell ⟨R, i, none⟩ (.slice (some ⟨c, 0, none⟩) C C)).setCell ⟨R, k, none⟩ (.slice (some ⟨b, 0, none⟩) C C)) := ((Onl.refl R w).drew.setCell i _).setCell k _
  have ha := ((h.drew.outer.set i (hd C c)).set k (hd C b))
  rw [swap_hd] at ha
  have hs := h.swap hi hk o ha
  exact ⟨hs.1, hs.2, Wr.of_onl o (by simp)⟩
theorem swap_row {w w0 : World} {R C : Nat} {bs bs0 : List Nat} {A : List (List Nat)} (h : MU w R bs C A) {r d j k : Nat} (hr : bs[r]? = some d) (hj : j < C) (hk : k < C) (hd : d ∈ bs0) (hw : Wr (R :: bs0) w0 w) :
    MU ((w.drew.setCell ⟨d, j, none⟩ (.int .u64 (ge A r k : Nat))).setCell ⟨d, k, none⟩ (.int .u64 (ge A r j : Nat))) R bs C (A.set r (swp j k (gr A r))) ∧
      Wr (R :: bs0) w0 ((w.drew.setCell ⟨d, j, none⟩ (.int .u64 (ge A r k : Nat))).setCell ⟨d, k, none⟩ (.int .u64 (ge A r j : Nat))) := by
  have o : Onl d w ((w.drew.setCell ⟨d, j, none⟩ (.int .u64 (ge A r k : Nat))).setCell ⟨d, k, none⟩ (.int .u64 (ge A r j : Nat))) := ((Onl.refl d w).drew.setCell j _).setCell k _
  have ha := (((h.drew.row r d hr).set j (.int .u64 (ge A r k : Nat))).set k (.int .u64 (ge A r j : Nat)))
  rw [uc_set, uc_set] at ha
  exact ⟨h.setRow hr o (by rw [swp_length, h.cols r (h.ilt hr)]) ha, hw.trans (Wr.of_onl o (by simp [hd]))⟩
/-- what find has done -/
def Found (R : Nat) (bs : List Nat) (C : Nat) (A : List (List Nat)) (k x y : Nat) (w : World) (w' : World) : Prop :=
  ∃ bs', MU w' R bs' C (swC (swR A x k) y k) ∧ (∀ b ∈ bs', b ∈ bs) ∧ Wr (R :: bs) w w'
def exN (x y k : Nat) : Nat := (if x = k then 0 else 1) + (if y = k then 0 else 1)
set_option maxHeartbeats 2000000 in
set_option maxRecDepth 100000 in
theorem find_some (R : Nat) (bs : List Nat) (C : Nat) (A : List (List Nat)) (k x y : Nat) (w : World) (h : MU w R bs C A) (hA : A.length ≤ 1000) (hC : C ≤ 1000) (hk : k ≤ 1000) (hF : findF A k C = some (x, y)) :
    Calls Try.prog 81 #[.slice (some ⟨R, 0, none⟩) A.length A.length, .int .i64 (k : Nat)] w fun e w' => e = .returned (.tuple #[.int .i64 (exN x y k : Nat), .bool true]) ∧ Found R bs C A k x y w w' := by
  have HF := Lib.hid (show fdR A k C k (A.length - k) = some (x, y) from hF)
  clear hF
  go_enter Try.func81, Try.ntmps81
  go_wp2_with fail
  go_loopg [6, 7] (A.length + 1000 - k) (fun gk s6 s7 wr => ∃ i : Nat, k ≤ i ∧ gk = A.length + 1000 - i ∧ i ≤ 1000 ∧ s6 = .int .i64 (i : Int) ∧ Hid (fdR A k C i (A.length - i) = some (x, y)) ∧ w = wr)
  case atStart => exact ⟨k, Nat.le_refl _, rfl, hk, rfl, HF, rfl⟩
  case round =>
    clear HF
    obtain ⟨i, hki, rfl, hi1, rfl, HF, rfl⟩ := hrel
    by_cases hlt : i < A.length
    · have z1 : (i : Int) < (A.length : Int) := by omega
      obtain ⟨b, hb, hbm⟩ := h.bl hlt
      have zc := h.cellR hb
      have HB := Lib.hid hb
      have HH := Lib.hid h
      have HS := Lib.hid (fdR_step (f := A.length - (i + 1)) (show fdR A k C i (A.length - (i + 1) + 1) = some (x, y) by rw [show A.length - (i + 1) + 1 = A.length - i by omega]; exact HF.out))
      clear hb h HF
      go_wp2_with fail
      go_loopg [7] (C + 1000 - k) (fun gk s7 wr => ∃ j : Nat, k ≤ j ∧ gk = C + 1000 - j ∧ j ≤ 1000 ∧ s7 = .int .i64 (j : Int) ∧ Hid (fdC (gr A i) j (C - j) = fdC (gr A i) k (C - k)) ∧ w = wr)
      case atStart => exact ⟨k, Nat.le_refl _, rfl, hk, rfl, Lib.hid rfl, rfl⟩
      case round =>
        obtain ⟨j, hkj, rfl, hj1, rfl, HJ, rfl⟩ := hrel
        by_cases hjt : j < C
        · have z2 : (j : Int) < (C : Int) := by omega
          have zd := HH.out.cell HB.out hjt
          by_cases h0 : ge A i j = 0
          · rw [h0] at zd
            have HJ2 := Lib.hid (show fdC (gr A i) (j + 1) (C - (j + 1)) = fdC (gr A i) k (C - k) by rw [← HJ.out, show C - j = C - (j + 1) + 1 by omega, fdC_miss h0])
            clear h0 HJ
            go_wp2_with fail
            go_roundg (C + 1000 - (j + 1))
            case measure => omega
            case rel => exact ⟨j + 1, by omega, rfl, by omega, by go_num, HJ2, rfl⟩
          · have HJ2 := Lib.hid (show fdC (gr A i) k (C - k) = some j by rw [← HJ.out, show C - j = C - (j + 1) + 1 by omega, fdC_hit h0])
            have HXY := Lib.hid (show x = i ∧ y = j by
              rcases HS.out with ⟨j', e1, e2, e3⟩ | ⟨e1, _⟩
              · rw [HJ2.out] at e1; injection e1 with e1; exact ⟨e2, e3.trans e1.symm⟩
              · rw [HJ2.out] at e1; cases e1)
            clear HJ HJ2 HS
            have z3 : ((ge A i j : Nat) : Int) ≠ 0 := by omega
            have z4 : (((ge A i j : Nat) : Int) == 0) = false := by simp; omega
            generalize ge A i j = v at *
            clear h0
            go_upto_if 38 with fail
            have HR := Lib.hid (show (k < A.length) by omega)
            obtain ⟨c, hc', hcm⟩ := HH.out.bl HR.out
            have zk := HH.out.cellR hc'
            have zf := HH.out.outer.frozen
            have HC' := Lib.hid hc'
            clear hc'
            go_cut [8] (fun s8 wx => s8 = .int .i64 ((if i = k then 0 else 1 : Nat) : Int) ∧ ∃ bs1, MU wx R bs1 C (swR A i k) ∧ (∀ x ∈ bs1, x ∈ bs) ∧ Wr (R :: bs) w wx)
            case first =>
              by_cases e : i = k
              · have z5 : ((i : Int) != (k : Int)) = false := by simp; omega
                have E := Lib.hid e
                clear e
                go_wp2_with fail
                go_meet
                exact ⟨by rw [if_pos E.out]; rfl, bs, by rw [E.out, swR_self]; exact HH.out, fun _ h => h, Wr.refl _ _⟩
              · have z5 : ((i : Int) != (k : Int)) = true := by simp; omega
                have z6 : (k : Int) < (A.length : Int) := by omega
                have z7 := zf i
                have z8 := zf k
                go_upto_region 10 with fail
                go_region
                go_wp2_with fail
                go_meet
                have hS := swap_all HH.out HB.out HC'.out
                exact ⟨by rw [if_neg e]; rfl, _, hS.1, hS.2.1, hS.2.2⟩
            case rest =>
              clear zc zd zk zf
              obtain ⟨rfl, bs1, h1, hs1, hw1⟩ := hcut
              have hl1 : (swR A i k).length = A.length := swR_length _ _ _
              have HL := Lib.hid hl1
              have HH1 := Lib.hid h1
              have HX := Lib.hid hs1
              clear h1 hl1 hs1
              obtain ⟨ex1, hex1⟩ : ∃ n : Nat, n = (if i = k then 0 else 1) := ⟨_, rfl⟩
              have hex : ex1 ≤ 1 := by rw [hex1]; split <;> omega
              rw [← hex1]
              have HE1 := Lib.hid hex1
              clear hex1
              by_cases e : j = k
              · have z5 : ((j : Int) != (k : Int)) = false := by simp; omega
                have E := Lib.hid e
                clear e
                go_wp2_with fail
                go_ret2
                obtain ⟨rfl, rfl⟩ := HXY.out
                refine ⟨?_, bs1, ?_, HX.out, hw1⟩
                · unfold exN; rw [if_pos E.out, ← HE1.out]; rfl
                · rw [E.out, swC_self]; exact HH1.out
              · have z5 : ((j : Int) != (k : Int)) = true := by simp; omega
                have E := Lib.hid e
                clear e
                have hkc : (k : Int) < (C : Int) := by omega
                have hkC : k < C := by omega
                have HXW := Lib.hid hw1
                clear hw1
                go_wp2_with fail
                go_loopg [10, 60] A.length (fun gk s10 s60 wr => ∃ r : Nat, r ≤ A.length ∧ gk = A.length - r ∧ s60 = .int .i64 (r : Int) ∧ MU wr R bs1 C (updR (swR A i k) 0 r (swp j k)) ∧ Wr (R :: bs) w wr)
                case atStart => exact ⟨0, Nat.zero_le _, rfl, rfl, by rw [updR_start]; exact HH1.out, HXW.out⟩
                case round =>
                  clear HXW HH1 HH
                  obtain ⟨r, hr, rfl, rfl, hm, hw⟩ := hrel
                  obtain ⟨wo, rfl⟩ : ∃ wo : World, wo = wr := ⟨_, rfl⟩
                  by_cases hrt : r < A.length
                  · have z6 : (r : Int) < (A.length : Int) := by omega
                    obtain ⟨d, hd', hdm⟩ := hm.bl (i := r) (by rw [updR_length, HL.out]; exact hrt)
                    have zr := hm.cellR hd'
                    have zj := hm.cell hd' hjt
                    have zk := hm.cell hd' hkC
                    have zf1 := (hm.row r d hd').frozen j
                    have zf2 := (hm.row r d hd').frozen k
                    have HM := Lib.hid (swap_row hm hd' hjt hkC (HX.out d hdm) hw)
                    rw [gr_updR_at, updR_step (Nat.zero_le _) (by rw [HL.out]; exact hrt)] at HM
                    unfold ge at zj zk HM
                    rw [gr_updR_at] at zj zk HM
                    generalize gn (gr (swR A i k) r) j = v1 at *
                    generalize gn (gr (swR A i k) r) k = v2 at *
                    clear hm hw hd'
                    have z7 : ¬ (k = j) := fun q => E.out q.symm
                    go_upto_region 16 with fail
                    go_region
                    go_wp2_with fail
                    go_roundg (A.length - (r + 1))
                    case measure => omega
                    case rel => exact ⟨r + 1, by omega, rfl, by go_num, HM.out.1, HM.out.2⟩
                  · have z6 : ¬ ((r : Int) < (A.length : Int)) := by omega
                    have hrn : r = A.length := by omega
                    subst hrn
                    go_wp2_with fail
                    go_ret2
                    obtain ⟨rfl, rfl⟩ := HXY.out
                    refine ⟨?_, bs1, ?_, HX.out, hw⟩
                    · unfold exN; rw [if_neg E.out, ← HE1.out]; rfl
                    · unfold swC; rw [HL.out]; exact hm
        · have z2 : ¬ ((j : Int) < (C : Int)) := by omega
          have HF2 := Lib.hid (show fdR A k C (i + 1) (A.length - (i + 1)) = some (x, y) by
            rcases HS.out with ⟨j', e1, _, _⟩ | ⟨_, e2⟩
            · rw [← HJ.out, show C - j = 0 by omega] at e1; cases e1
            · exact e2)
          go_wp2_with fail
          go_roundg (A.length + 1000 - (i + 1))
          case measure => omega
          case rel => exact ⟨i + 1, by omega, rfl, by omega, by go_num, HF2, rfl⟩
    · exfalso
      have e1 := HF.out
      rw [show A.length - i = 0 by omega] at e1
      cases e1
end Go.Proofs.Ytcjaloddgilnpaa
