/- diagram.Valid: the walk. -/
/- wirtinger's closure find. -/
/- The numbers of the arcs by a map: plain. -/
import Derived.Test.YtcjaloddgilnpaaZVaw
import Derived.Deep.RegionHeld3
import Derived.Deep.DeepCutAuto
import Derived.Test.YtcjaloddgilnpaaZQue
import Derived.Deep.RegionWith
import Derived.Maps.OwnSet
import Derived.Maps.OwnOps
namespace Go.Proofs.Ytcjaloddgilnpaa
open Go.RowKit
set_option linter.unusedVariables false

set_option maxHeartbeats 4000000 in
set_option maxRecDepth 100000 in
theorem valid_code (vs vm : Value) (S M : List Int) (L : Int) (w : World) (hS : Ints w vs S) (hM : Ints w vm M) :
    Calls Try.prog 38 #[.agg #[vs, vm, .int .i64 L]] w fun e w' => e = .returned (.bool (valB S M L)) ∧ Below w.heap.size w w' := by
  have hS0 := hS
  have hM0 := hM
  obtain ⟨A, c, rfl, hc, hx⟩ := hS
  obtain ⟨A2, c2, rfl, hc2, hx2⟩ := hM
  clear hx hx2
  obtain ⟨V, hV⟩ : ∃ V, V = valB S M L := ⟨_, rfl⟩
  rw [← hV]
  have HV := Lib.hid hV
  clear hV
  go_enter Try.func38, Try.ntmps38
  go_upto_region 1 with fail
  have hW : Arr (w.alloc (.cells #[.slice A S.length c, .slice A2 M.length c2, .int .i64 L] 24)) w.heap.size 24 [.slice A S.length c, .slice A2 M.length c2, .int .i64 L] ∧ Below w.heap.size w (w.alloc (.cells #[.slice A S.length c, .slice A2 M.length c2, .int .i64 L] 24)) := ⟨Arr.new w _ _, (Below.refl _ _).alloc (Nat.le_refl _) _⟩
  generalize (w.alloc (.cells #[.slice A S.length c, .slice A2 M.length c2, .int .i64 L] 24)) = w4 at hW ⊢
  obtain ⟨q0, hb4⟩ := hW
  have y0 := q0.cell 0
  have y1 := q0.cell 1
  have y2 := q0.cell 2
  by_cases t1 : S.length ≤ 64
  case neg =>
    have t1' : (S.length : Int) > 64 := by omega
    have HE := Lib.hid (HV.out.trans (ok_size t1))
    go_wp2_with fail
    go_ret
    exact ⟨by rw [HE.out]; rfl, hb4⟩
  have t1' : ¬ ((S.length : Int) > 64) := by omega
  by_cases t2 : M.length = 4 * S.length
  case neg =>
    have t2' : ¬ ((M.length : Int) = 4 * (S.length : Int)) := by omega
    have HE := Lib.hid (HV.out.trans (ok_mate t2))
    generalize M.length = m at *
    go_wp2_with fail
    go_ret
    exact ⟨by rw [HE.out]; rfl, hb4⟩
  have t2' : (M.length : Int) = 4 * (S.length : Int) := by omega
  by_cases t3 : 0 ≤ L
  case neg =>
    have t3' : L < 0 := by omega
    have HE := Lib.hid (HV.out.trans (ok_low t3))
    go_wp2_with fail
    go_ret
    exact ⟨by rw [HE.out]; rfl, hb4⟩
  have t3' : ¬ (L < 0) := by omega
  by_cases t4 : L ≤ 64
  case neg =>
    have t4' : L > 64 := by omega
    have HE := Lib.hid (HV.out.trans (ok_high t4))
    go_wp2_with fail
    go_ret
    exact ⟨by rw [HE.out]; rfl, hb4⟩
  have t4' : ¬ (L > 64) := by omega
  go_wp2_with fail
  have T2 := Lib.hid t2
  have hml : M.length ≤ 256 := by omega
  have hgE : (M.length : Int) = 4 * (S.length : Int) := t2'
  clear t2 t2' y0 y1 y2 t1' hgE
  go_loopg [5, 34] S.length (fun gk s5 s34 wr => ∃ k : Nat, k ≤ S.length ∧ gk = S.length - k ∧ s34 = .int .i64 (k : Int) ∧ Arr wr w.heap.size 24 [.slice A S.length c, .slice A2 M.length c2, .int .i64 L] ∧ Below w.heap.size w wr ∧ Hid (∀ i (h : i < S.length), i < k → S[i] = 1 ∨ S[i] = -1))
  case atStart => exact ⟨0, Nat.zero_le _, rfl, rfl, q0, hb4, Lib.hid fun i h h1 => by omega⟩
  case round =>
    clear q0 hb4
    obtain ⟨k, hk, rfl, rfl, q0, hb4, HS⟩ := hrel
    have y0 := q0.cell 0
    by_cases hlt : k < S.length
    · have z1 : (k : Int) < (S.length : Int) := by omega
      obtain ⟨b, o, rfl, hbl, hcell⟩ := (hS0.below hb4).at_ hlt
      by_cases x1 : S[k] = 1
      · have HS2 : Hid (∀ i (h : i < S.length), i < k + 1 → S[i] = 1 ∨ S[i] = -1) := Lib.hid fun i h h1 => by
          rcases Nat.lt_or_ge i k with q | q
          · exact HS.out i h q
          · have : i = k := by omega
            subst this; exact Or.inl x1
        rw [x1] at hcell
        clear x1 HS
        go_wp2_with fail
        go_roundg (S.length - (k + 1))
        case measure => omega
        case rel => exact ⟨k + 1, by omega, rfl, by go_num, q0, hb4, HS2⟩
      · by_cases x2 : S[k] = -1
        · have HS2 : Hid (∀ i (h : i < S.length), i < k + 1 → S[i] = 1 ∨ S[i] = -1) := Lib.hid fun i h h1 => by
            rcases Nat.lt_or_ge i k with q | q
            · exact HS.out i h q
            · have : i = k := by omega
              subst this; exact Or.inr x2
          rw [x2] at hcell
          clear x1 x2 HS
          go_wp2_with fail
          go_roundg (S.length - (k + 1))
          case measure => omega
          case rel => exact ⟨k + 1, by omega, rfl, by go_num, q0, hb4, HS2⟩
        · have HE := Lib.hid (HV.out.trans (ok_sign hlt x1 x2))
          clear HS
          generalize S[k] = x at *
          have d1 : (x != 1) = true := by simp [x1]
          have d2 : (x != -1) = true := by simp [x2]
          go_wp2_with fail
          go_ret
          exact ⟨by rw [HE.out]; rfl, hb4⟩
    · have z1 : ¬ ((k : Int) < (S.length : Int)) := by omega
      have HS2 : Hid (∀ i (h : i < S.length), S[i] = 1 ∨ S[i] = -1) := Lib.hid fun i h => HS.out i h (by omega)
      clear HS y0
      have y1 := q0.cell 1
      go_wp2_with fail
      clear y1
      obtain ⟨wo, rfl⟩ : ∃ wo : World, wo = wr := ⟨_, rfl⟩
      go_loopg [6, 7, 48] M.length (fun gk s6 s7 s48 wi => ∃ h : Nat, h ≤ M.length ∧ gk = M.length - h ∧ s48 = .int .i64 (h : Int) ∧ Arr wi w.heap.size 24 [.slice A S.length c, .slice A2 M.length c2, .int .i64 L] ∧ Below w.heap.size w wi ∧ Hid (∀ i, i < h → mtB S M i = true))
      case atStart => exact ⟨0, Nat.zero_le _, rfl, rfl, q0, hb4, Lib.hid fun i h1 => by omega⟩
      case round =>
        clear q0 hb4 z1 hlt hk
        obtain ⟨h, hh, rfl, rfl, q0, hb4, HM⟩ := hrel
        have y0 := q0.cell 0
        have y1 := q0.cell 1
        have y2 := q0.cell 2
        by_cases hlt : h < M.length
        · have z1 : (h : Int) < 4 * (S.length : Int) := by have := T2.out; omega
          have z2 : (h : Int) < (M.length : Int) := by omega
          obtain ⟨b, o, rfl, hbl, hcell⟩ := (hM0.below hb4).at_ hlt
          have hgd := getD_lt hlt
          by_cases x1 : M[h] < 0
          · have HE := Lib.hid (HV.out.trans (ok_at (L := L) hlt (show mtB S M h = false by simp [mtB, hgd]; omega)))
            clear hgd
            generalize M[h] = x at *
            go_wp2_with fail
            go_ret
            exact ⟨by rw [HE.out]; rfl, hb4⟩
          obtain ⟨m, hm⟩ : ∃ m : Nat, M[h] = (m : Int) := ⟨M[h].toNat, by omega⟩
          have hmt : mt M h = m := by unfold mt; rw [hgd, hm]; omega
          rw [hm] at hcell
          have x1' : ¬ ((m : Int) < 0) := by omega
          by_cases x2 : m < M.length
          case neg =>
            have HE := Lib.hid (HV.out.trans (ok_at (L := L) hlt (show mtB S M h = false by have := T2.out; simp [mtB, hgd, hm]; omega)))
            have x2' : (m : Int) ≥ 4 * (S.length : Int) := by have := T2.out; omega
            clear hgd hm hmt x1 x2
            go_wp2_with fail
            go_ret
            exact ⟨by rw [HE.out]; rfl, hb4⟩
          have x2' : ¬ ((m : Int) ≥ 4 * (S.length : Int)) := by have := T2.out; omega
          have x2d : decide (4 * (S.length : Int) ≤ (m : Int)) = false := by have := T2.out; simp only [decide_eq_false_iff_not]; omega
          by_cases x3 : m = h
          · have HE := Lib.hid (HV.out.trans (ok_at (L := L) hlt (show mtB S M h = false by simp [mtB, hgd, hm, x3])))
            subst x3
            clear hgd hm hmt x1 x2
            go_wp2_with fail
            go_ret
            exact ⟨by rw [HE.out]; rfl, hb4⟩
          have x3' : ((m : Int) == (h : Int)) = false := by simp; omega
          have hgm := getD_lt x2
          obtain ⟨b', o', hA, hbl', hcell2⟩ := (hM0.below hb4).at_ x2
          injection hA with hA
          injection hA with hA1 hA2
          subst hA1 hA2
          have z3 : (m : Int) < (M.length : Int) := by omega
          by_cases x4 : M[m] = (h : Int)
          case neg =>
            have HE := Lib.hid (HV.out.trans (ok_at (L := L) hlt (show mtB S M h = false by simp [mtB, hgd, hm, hmt, hgm, x4])))
            clear hgd hm hmt hgm x1
            generalize M[m] = y at *
            have x4' : (y != (h : Int)) = true := by simp [x4]
            go_wp2_with fail
            go_ret
            exact ⟨by rw [HE.out]; rfl, hb4⟩
          rw [x4] at hcell2
          have lw := q0.lt
          obtain ⟨A3, hA3⟩ : ∃ A3, A3 = some (⟨b, o, none⟩ : Addr) := ⟨_, rfl⟩
          have HMB := Lib.hid (show mtB S M h = (outB S h != outB S m) by
            have t2 := T2.out
            unfold mtB
            rw [hgd, hm, hmt, hgm, x4]
            have e1 : decide ((0 : Int) ≤ (m : Int)) = true := by simp
            have e2 : decide ((m : Int) < ((4 * S.length : Nat) : Int)) = true := by simp only [decide_eq_true_eq]; omega
            have e3 : decide ((m : Int) ≠ (h : Int)) = true := by simp only [decide_eq_true_eq]; omega
            have e4 : decide ((h : Int) = (h : Int)) = true := by simp
            rw [e1, e2, e3, e4]; rfl)
          have HAT := Lib.hid (fun e => ok_at (L := L) hlt (HMB.out.trans e))
          have x4' : ((h : Int) != (h : Int)) = false := by simp
          clear hgd hm hmt hgm x1 x4
          go_upto_region 15 with fail
          have KS := Lib.hid (fun W (hb : Below wr.heap.size wr W) => (⟨(hb.cell lw).trans y0, (hb.cell lw).trans y1, (hb.cell lw).trans y2, hb⟩ : W.cell? ⟨w.heap.size, 0, none⟩ = some (.slice A S.length c) ∧ W.cell? ⟨w.heap.size, 1, none⟩ = some (.slice (some ⟨b, o, none⟩) M.length c2) ∧ W.cell? ⟨w.heap.size, 2, none⟩ = some (.int .i64 L) ∧ Below wr.heap.size wr W))
          have HJ := Lib.hid (fun W W' (hS : W.cell? ⟨w.heap.size, 0, none⟩ = some (.slice A S.length c) ∧ W.cell? ⟨w.heap.size, 1, none⟩ = some (.slice (some ⟨b, o, none⟩) M.length c2) ∧ W.cell? ⟨w.heap.size, 2, none⟩ = some (.int .i64 L) ∧ Below wr.heap.size wr W) (hb : Below W.heap.size W W') => Below.trans hS.2.2.2 (hb.mono hS.2.2.2.size))
          have HO1 := Lib.hid (fun W (hS : W.cell? ⟨w.heap.size, 0, none⟩ = some (.slice A S.length c) ∧ W.cell? ⟨w.heap.size, 1, none⟩ = some (.slice (some ⟨b, o, none⟩) M.length c2) ∧ W.cell? ⟨w.heap.size, 2, none⟩ = some (.int .i64 L) ∧ Below wr.heap.size wr W) => out_code (.slice A S.length c) (.slice (some ⟨b, o, none⟩) M.length c2) L S h W (hS0.below (hb4.trans (Below.mono hS.2.2.2 hb4.size))) (by have := T2.out; omega) (by omega))
          have HO2 := Lib.hid (fun W (hS : W.cell? ⟨w.heap.size, 0, none⟩ = some (.slice A S.length c) ∧ W.cell? ⟨w.heap.size, 1, none⟩ = some (.slice (some ⟨b, o, none⟩) M.length c2) ∧ W.cell? ⟨w.heap.size, 2, none⟩ = some (.int .i64 L) ∧ Below wr.heap.size wr W) => out_code (.slice A S.length c) (.slice (some ⟨b, o, none⟩) M.length c2) L S m W (hS0.below (hb4.trans (Below.mono hS.2.2.2 hb4.size))) (by have := T2.out; omega) (by omega))
          generalize outB S h = b1 at *
          generalize outB S m = b2 at *
          clear hA3
          go_cut [81] (fun s81 wx => s81 = .bool (b1 == b2) ∧ Below wr.heap.size wr wx)
          case first =>
            go_region_held3 (fun w' => w'.cell? ⟨w.heap.size, 0, none⟩ = some (.slice A S.length c) ∧ w'.cell? ⟨w.heap.size, 1, none⟩ = some (.slice (some ⟨b, o, none⟩) M.length c2) ∧ w'.cell? ⟨w.heap.size, 2, none⟩ = some (.int .i64 L) ∧ Below wr.heap.size wr w') ((refine KS.out _ ?_; repeat (first | exact Below.refl _ _ | exact hB1 | exact hB2 | refine Below.drew ?_)))
              (first
                | (go_at_call_of 62 (Value.int .i64 (h : Int)); refine (HO1.out _ (by assumption)).mono ?_; rintro e w11 ⟨rfl, hb11⟩; have hB1 := HJ.out _ _ (by assumption) hb11; clear hb11)
                | (go_at_call_of 62 (Value.int .i64 (m : Int)); refine (HO2.out _ (by assumption)).mono ?_; rintro e w12 ⟨rfl, hb12⟩; have hB2 := HJ.out _ _ (by assumption) hb12; clear hb12))
            all_goals
              go_wp2_with fail
              go_meet
              exact ⟨rfl, by assumption⟩
          case rest =>
            obtain ⟨rfl, hbc⟩ := hcut
            have hb5 : Below w.heap.size w wc := hb4.trans (hbc.mono hb4.size)
            have q5 := q0.below hbc lw
            clear HO1 HO2 KS HJ y0 y1 y2 hcell hcell2
            by_cases he : b1 = b2
            · have HE := Lib.hid (HV.out.trans (HAT.out (by simp [he])))
              have he' : (b1 == b2) = true := by simp [he]
              rw [he']
              clear he he' HMB HAT
              go_wp2_with fail
              go_ret
              exact ⟨by rw [HE.out]; rfl, hb5⟩
            · have HM2 : Hid (∀ i, i < h + 1 → mtB S M i = true) := Lib.hid fun i h1 => by
                rcases Nat.lt_or_ge i h with q | q
                · exact HM.out i q
                · have : i = h := by omega
                  subst this; rw [HMB.out]; simpa using he
              have he' : (b1 == b2) = false := by simpa using he
              rw [he']
              clear he he' HMB HAT
              go_wp2_with fail
              go_roundg (M.length - (h + 1))
              case measure => omega
              case rel => exact ⟨h + 1, by omega, rfl, by go_num, q5, hb5, HM2⟩
        · have z1 : ¬ ((h : Int) < (M.length : Int)) := by omega
          have hK := ok_make t1 T2.out t3 t4 HS2.out (fun i hi => HM.out i (by omega))
          have HV2 := Lib.hid (show V = sphR M S.length by rw [HV.out, valB, hK]; rfl)
          have KK := Lib.hid (ok_of hK)
          clear hK HM HS2 HV
          go_wp2_with (go_at_call 63; refine (spherical_code _ _ S M L _ (hS0.below hb4) (hM0.below hb4) KK.out).mono ?_; rintro e w5 ⟨rfl, hb5⟩)
          go_ret
          exact ⟨by rw [HV2.out]; rfl, hb4.trans (hb5.mono hb4.size)⟩
end Go.Proofs.Ytcjaloddgilnpaa

namespace Go.Proofs.Ytcjaloddgilnpaa
open Go.RowKit
set_option linter.unusedVariables false

/-- only block g has been written -/
structure Onl (g : Nat) (w w' : World) : Prop where
  os : w'.os = w.os
  tape : w'.tape = w.tape
  output : w'.output = w.output
  size : w'.heap.size = w.heap.size
  block : ∀ k, k ≠ g → w'.heap[k]? = w.heap[k]?
theorem Onl.refl (g : Nat) (w : World) : Onl g w w := ⟨rfl, rfl, rfl, rfl, fun _ _ => rfl⟩
theorem Onl.trans {g : Nat} {a b c : World} (h : Onl g a b) (k : Onl g b c) : Onl g a c := ⟨k.os.trans h.os, k.tape.trans h.tape, k.output.trans h.output, k.size.trans h.size, fun i hi => (k.block i hi).trans (h.block i hi)⟩
theorem Onl.drew {g : Nat} {a w : World} (h : Onl g a w) : Onl g a w.drew := ⟨h.os, h.tape, h.output, h.size, h.block⟩
theorem Onl.drewN {g : Nat} {a w : World} (h : Onl g a w) (n : Nat) : Onl g a (w.drewN n) := ⟨h.os, h.tape, h.output, h.size, h.block⟩
theorem Onl.below {g B : Nat} {a w : World} (h : Onl g a w) (hB : B ≤ g) : Below B a w := ⟨h.os, h.tape, h.output, Nat.le_of_eq h.size.symm, fun k hk => h.block k (by omega)⟩
theorem Onl.setCell {g : Nat} {a w : World} (h : Onl g a w) (i : Nat) (u : Value) : Onl g a (w.setCell ⟨g, i, none⟩ u) := by
  have hb := (Below.refl 0 w).setCell (p := ⟨g, i, none⟩) (Nat.zero_le _) u
  exact ⟨hb.os.trans h.os, hb.tape.trans h.tape, hb.output.trans h.output, by simp [h.size], fun k hk => (Below.heap_setCell w ⟨g, i, none⟩ u k hk).trans (h.block k hk)⟩
theorem Arr.onl {g b : Nat} {w w' : World} {t : TypeId} {cs : List Value} (h : Arr w b t cs) (o : Onl g w w') (hb : b ≠ g) : Arr w' b t cs := (o.block b hb).trans h
theorem Onl.cell {g : Nat} {w w' : World} (o : Onl g w w') {p : Addr} (hp : p.block ≠ g) : w'.cell? p = w.cell? p := by
  unfold World.cell?; rw [o.block p.block hp]

/-- the closure that finds roots -/
def fnV (pb fb : Nat) : Value := .func (.func 77) #[] #[.pointer (some ⟨pb, 0, none⟩), .pointer (some ⟨fb, 0, none⟩)]

set_option maxHeartbeats 4000000 in
theorem find_code (pb fb g N : Nat) (hpg : pb ≠ g) (hfg : fb ≠ g) (hN : N ≤ 256) : ∀ (n x r : Nat) (P : List Nat) (w : World), P.length = N → (∀ y, y < N → gn P y < N) → x < N → Dp P n x r →
    Arr w pb 22 [.slice (some ⟨g, 0, none⟩) N N] → Arr w fb 60 [fnV pb fb] → Arr w g 3 (nc P) →
    Calls Try.prog 77 #[.int .i64 x, .pointer (some ⟨pb, 0, none⟩), .pointer (some ⟨fb, 0, none⟩)] w fun e w' => ∃ P', e = .returned (.int .i64 (r : Nat)) ∧ Fnd P P' n ∧ Arr w' g 3 (nc P') ∧ Onl g w w' := by
  intro n
  induction n with
  | zero =>
    intro x r P w hl hP hx hd ap af ag
    have y0 := ap.cell 0
    have zc := (ag.cell x).trans (nc_get (by omega))
    obtain ⟨h1, rfl⟩ := hd
    rw [h1] at zc
    have z1 : (r : Int) < (N : Int) := by omega
    clear h1
    go_enter Try.func77, Try.ntmps77
    go_wp2_with fail
    go_ret
    exact ⟨P, rfl, Fnd.refl P, ag, Onl.refl _ _⟩
  | succ n ih =>
    intro x r P w hl hP hx hd ap af ag
    have y0 := ap.cell 0
    have y1 := af.cell 0
    have zc := (ag.cell x).trans (nc_get (by omega))
    have hpx := hP x hx
    have HD := Lib.hid hd
    have hne := hd.1
    have HI := Lib.hid (fun W (hW : Onl g w W) (hg : Arr W g 3 (nc P)) => ih (gn P x) r P W hl hP hpx hd.2 (ap.onl hW hpg) (af.onl hW hfg) hg)
    clear hd ih
    have z1 : (x : Int) < (N : Int) := by omega
    have z2 : ((gn P x : Nat) : Int) ≠ (x : Int) := by omega
    have z3 : (((gn P x : Nat) : Int) != (x : Int)) = true := by simp; omega
    generalize hp : gn P x = p at *
    have HP := Lib.hid hp
    clear hp
    go_enter Try.func77, Try.ntmps77
    go_wp2_with fail
    have y1' : w.cell? ⟨fb, 0, none⟩ = some (.func (.func 77) #[] #[.pointer (some ⟨pb, 0, none⟩), .pointer (some ⟨fb, 0, none⟩)]) := y1
    clear y1
    have HZ := Lib.hid (fun (P' : List Nat) (W : World) (hF : Fnd P P' n) (ag : Arr W g 3 (nc P')) => show W.cell? ⟨g, x, none⟩ = some (.int .i64 (p : Int)) by
      have e := hF.stays HD.out.1 HD.out.2
      rw [HP.out] at e
      rw [ag.cell x, nc_get (by rw [hF.kp.len]; omega), e])
    have HQ := Lib.hid (fun (W : World) (hb : Onl g w W) => (⟨(hb.cell hpg).trans y0, (hb.cell hfg).trans y1'⟩ : W.cell? ⟨pb, 0, none⟩ = some (.slice (some ⟨g, 0, none⟩) N N) ∧ W.cell? ⟨fb, 0, none⟩ = some (.func (.func 77) #[] #[.pointer (some ⟨pb, 0, none⟩), .pointer (some ⟨fb, 0, none⟩)])))
    go_region_with (go_at_call 77; refine (HI.out _ ?_ ?_).mono ?_; (focus (first | exact Onl.refl _ _ | exact (Onl.refl _ _).drew | exact (Onl.refl _ _).drew.drew)); exact ag; rintro e w1 ⟨P', rfl, hF, ag1, hO1⟩; have hO : Onl g w w1 := Onl.trans (by first | exact Onl.refl _ _ | exact (Onl.refl _ _).drew | exact (Onl.refl _ _).drew.drew) hO1; clear hO1; have zd := HZ.out _ _ hF ag1; have zf := ag1.frozen x; obtain ⟨y3, y4⟩ := HQ.out _ hO)
    all_goals
      go_wp2_with fail
      go_ret
      exact ⟨P'.set x r, rfl, hF.step (by omega) HD.out.1 HD.out.2, by rw [← nc_set]; exact ag1.set x _, hO.setCell _ _⟩
end Go.Proofs.Ytcjaloddgilnpaa

namespace Go.Proofs.Ytcjaloddgilnpaa
set_option linter.unusedVariables false
open Go.RowKit Go.Maps

def ky (r : Nat) : Lit := .int .i64 (r : Int)
theorem ky_ne {a b : Nat} (h : a ≠ b) : ky a ≠ ky b := by
  intro e
  unfold ky at e
  injection e with _ e
  omega
/-- the map of the numbers when k half-edges have been looked at -/
structure NM {H : Type} (lab : List Nat) (ρ : Nat → Nat) (k : Nat) (D : DataW H) : Prop where
  tidy : Tidy D
  has : ∀ r : Nat, Maps.has D (ky r) = true ↔ ∃ h, h < k ∧ ρ h = r
  val : ∀ h, h < k → D.atKey (ky (ρ h)) (.lit (.int .i64 0)) = .lit (.int .i64 (rk lab (gn lab h) : Nat))
  size : Maps.size D = rk lab k
section
variable {H : Type} {lab : List Nat} {ρ : Nat → Nat} {k N : Nat} {D : DataW H}
theorem NM.start : NM lab ρ 0 (.map [] : DataW H) := ⟨tidy_empty, fun r => by simp [Maps.has], fun h hh => by omega, rfl⟩
/-- which labels fit the roots -/
structure Fits (lab : List Nat) (ρ : Nat → Nat) (N : Nat) : Prop where
  le : ∀ x, x < N → gn lab x ≤ x
  self : ∀ x, x < N → gn lab (gn lab x) = gn lab x
  iff : ∀ x y, x < N → y < N → (ρ x = ρ y ↔ gn lab x = gn lab y)
theorem NM.old (f : Fits lab ρ N) (h : NM lab ρ k D) (hk : k < N) (hh : Maps.has D (ky (ρ k)) = true) :
    NM lab ρ (k + 1) D ∧ D.atKey (ky (ρ k)) (.lit (.int .i64 0)) = .lit (.int .i64 (rk lab (gn lab k) : Nat)) := by
  obtain ⟨j, hj, e⟩ := (h.has _).1 hh
  have e2 := (f.iff j k (by omega) hk).1 e
  have hle := f.le j (by omega)
  have hv : D.atKey (ky (ρ k)) (.lit (.int .i64 0)) = .lit (.int .i64 (rk lab (gn lab k) : Nat)) := by rw [← e, h.val j hj, e2]
  refine ⟨⟨h.tidy, fun r => (h.has r).trans ⟨fun ⟨i, h1, h2⟩ => ⟨i, by omega, h2⟩, fun ⟨i, h1, h2⟩ => ?_⟩, fun i hi => ?_, ?_⟩, hv⟩
  · by_cases q : i = k
    · subst q; exact ⟨j, hj, e.trans h2⟩
    · exact ⟨i, by omega, h2⟩
  · by_cases q : i = k
    · subst q; exact hv
    · exact h.val i (by omega)
  · rw [h.size, rk, if_neg (by omega)]
theorem NM.new (f : Fits lab ρ N) (h : NM lab ρ k D) (hk : k < N) (hh : Maps.has D (ky (ρ k)) = false) :
    NM lab ρ (k + 1) (D.put (ky (ρ k)) (.lit (.int .i64 (Maps.size D : Nat)))) ∧ rk lab (gn lab k) = Maps.size D := by
  have hno : ∀ j, j < k → ρ j ≠ ρ k := fun j hj e => by
    have := (h.has (ρ k)).2 ⟨j, hj, e⟩
    rw [hh] at this; cases this
  have hle := f.le k hk
  have hs : gn lab k = k := by
    by_cases q : gn lab k < k
    · exact absurd ((f.iff (gn lab k) k (by omega) hk).2 (f.self k hk)) (hno _ q)
    · omega
  have hr : rk lab (gn lab k) = Maps.size D := by rw [hs, h.size]
  have hkl : WideAt.IsKeyLit (ky (ρ k)) := trivial
  refine ⟨⟨h.tidy.put hkl _, fun r => ?_, fun i hi => ?_, ?_⟩, hr⟩
  · by_cases q : r = ρ k
    · subst q
      rw [has_put_same h.tidy.isMap hkl]
      exact ⟨fun _ => ⟨k, by omega, rfl⟩, fun _ => rfl⟩
    · rw [has_put_other (ky_ne q), h.has]
      constructor
      · rintro ⟨i, h1, h2⟩; exact ⟨i, by omega, h2⟩
      · rintro ⟨i, h1, h2⟩
        by_cases q2 : i = k
        · subst q2; exact absurd h2.symm q
        · exact ⟨i, by omega, h2⟩
  · by_cases q : i = k
    · subst q
      rw [atKey_put_same h.tidy.isMap hkl, hr]
    · rw [atKey_put_other (ky_ne (hno i (by omega))), h.val i (by omega)]
  · rw [size_put h.tidy, hh, h.size, rk, if_pos hs]; rfl
end
theorem rk_mono (l : List Nat) : ∀ {a b : Nat}, a ≤ b → rk l a ≤ rk l b := by
  intro a b h
  induction b with
  | zero => have : a = 0 := by omega
            subst this; exact Nat.le_refl _
  | succ b ih =>
    rcases Nat.lt_or_ge b a with q | q
    · have : a = b + 1 := by omega
      subst this; exact Nat.le_refl _
    · have := ih q
      rw [rk]; split <;> omega
/-- the roots of a forest as a function -/
theorem root_fun {N : Nat} {P : List Nat} (h : Fst N P) : ∃ ρ : Nat → Nat, ∀ x, x < N → ρ x < N ∧ ∃ n, Dp P n x (ρ x) := by
  refine ⟨fun x => if hx : x < N then (h.ex x hx).choose_spec.choose else 0, fun x hx => ?_⟩
  have hs := (h.ex x hx).choose_spec.choose_spec
  simp only [hx, dif_pos]
  exact ⟨hs.lt h.lt hx, _, hs⟩
theorem fits_of {S M : List Int} {L : Int} (k : Ok S M L) {P : List Nat} (h : UF (Sees M M.length) M.length P) (h1 : ∀ x, x < M.length → Sm P x (mt M x)) (h2 : ∀ c, c < S.length → Sm P (4 * c + 1) (4 * c + 3))
    {ρ : Nat → Nat} (hρ : ∀ x, x < M.length → ρ x < M.length ∧ ∃ n, Dp P n x (ρ x)) : Fits (labA M M.length M.length) ρ M.length := by
  refine ⟨fun x hx => la_le k hx, fun x hx => la_self k hx, fun x y hx hy => ?_⟩
  rw [la_eq k hx hy, ← uf_conn k h h1 h2 hx hy]
  obtain ⟨_, n, d1⟩ := hρ x hx
  obtain ⟨_, m, d2⟩ := hρ y hy
  constructor
  · intro e; rw [← e] at d2; exact ⟨n, m, _, d1, d2⟩
  · rintro ⟨a, b, r, d3, d4⟩
    rw [(Dp.uniq d1 d3).2, (Dp.uniq d2 d4).2]
end Go.Proofs.Ytcjaloddgilnpaa
