/- GridmovePlays returns true. -/
import Derived.Test.YtgclngoeglopcaaAwake
import Derived.Test.YtgclngoeglopcaaPlay
import Derived.Deep.RegionHeld3
import Derived.Deep.DeepCutAuto
namespace Go.Proofs.Ytgclngoeglopcaa
open Go.RowKit
set_option linter.unusedVariables false

theorem info_move : (Try.prog.info? 26).map (fun i => (i.zero, i.size, i.bytes)) = some (some (.agg #[.int .i64 0, .bool false, .int .i64 0, .int .i64 0]), 4, 32) := by kernel_rfl
theorem IntsE.of_below {E : Nat → Prop} {w wr : World} {v : Value} {xs : List Int} (h : Ints w v xs) (hb : Below w.heap.size w wr) (hE : ∀ b, E b → w.heap.size ≤ b) : IntsE E wr v xs :=
  fun W hW => h.keep (fun b o hlt => World.cell?_of_block ((hW b (fun e => by have := hE b e; omega) (Nat.lt_of_lt_of_le hlt hb.size)).trans (hb.block b hlt)))
theorem make_moves : ∃ arr : Array Value, ∀ W, (Instr.makeSlice 39 (.int .i64 10001) (.int .i64 10001)).run Try.prog W = .ok (.slice (some ⟨W.heap.size, 0, none⟩) 10001 10001) (W.alloc (.cells arr 26)) := by
  obtain ⟨i0, hi0, hz0, hz1, hz2⟩ := info_parts info_move
  exact ⟨_, fun W => run_make (P := Try.prog) W 39 26 i0 _ Try.underlying39 hi0 hz0 .i64 .i64 10001 10001 (by decide) (by decide) (by rw [hz2]; decide) (by decide)⟩
theorem allockedS {W : World} {w : World} {t t' : TypeId} {a b : Value} {cs : Array Value} (hb : Below ((W.alloc (.cells #[a, b] t)).alloc (.cells cs t')).heap.size ((W.alloc (.cells #[a, b] t)).alloc (.cells cs t')) w) : Arr w W.heap.size t [a, b] := ((Arr.new W t [a, b]).alloc _).below hb (by simp <;> omega)

theorem Ints.empty {w : World} {v : Value} {xs : List Int} (h : Ints w v xs) (hx : xs = []) (W : World) : Ints W v [] := by
  subst hx
  obtain ⟨A, c, hv, hc, _⟩ := h
  exact ⟨A, c, hv, hc, fun k x hk => by simp at hk⟩
theorem Ints.long1 {w : World} {v : Value} {X O : List Int} (h : Ints w v (longM X O).2.1) (W : World) : Ints W v [] := h.empty (by unfold longM; split <;> rfl) W
theorem Ints.long2 {w : World} {v : Value} {X O : List Int} (h : Ints w v (longM X O).2.2.1) (W : World) : Ints W v [] := h.empty (by unfold longM; split <;> rfl) W
theorem allockedSD {W : World} {w : World} {t t' : TypeId} {a b : Value} {cs : Array Value} (hb : Below ((W.alloc (.cells #[a, b] t)).alloc (.cells cs t')).drew.heap.size ((W.alloc (.cells #[a, b] t)).alloc (.cells cs t')).drew w) : Arr w W.heap.size t [a, b] :=
  Arr.below (w := ((W.alloc (.cells #[a, b] t)).alloc (.cells cs t')).drew) ((Arr.new W t [a, b]).alloc _) hb (by show W.heap.size < ((W.alloc _).alloc _).heap.size; simp <;> omega)

set_option maxRecDepth 100000 in
set_option maxHeartbeats 4000000 in
theorem plays_any (vx vo vm : Value) (X O : List Int) (ms : List Mv) (long : Bool) (w : World) (hX : Ints w vx X) (hO : Ints w vo O) (hM : Moves w vm ms) :
    Calls Try.prog 8 #[.agg #[vx, vo], vm, .bool long] w fun e w' => e = .returned (.bool true) ∧ Below w.heap.size w w' := by
  have hM0 := hM
  obtain ⟨Am, cm, rfl, hm'⟩ := hM
  clear hm'
  have hX0 := hX
  have hO0 := hO
  obtain ⟨A, c, rfl, hc, hh⟩ := hX
  obtain ⟨A', c', rfl, hc', hh'⟩ := hO
  clear hh hh'
  go_enter Try.func8, Try.ntmps8
  go_wp2_with fail
  have hW : Arr (w.alloc (.cells #[.slice A X.length c, .slice A' O.length c'] 24)) w.heap.size 24 [.slice A X.length c, .slice A' O.length c'] ∧ Below w.heap.size w (w.alloc (.cells #[.slice A X.length c, .slice A' O.length c'] 24)) := ⟨Arr.new _ _ [_, _], (Below.refl _ _).alloc (Nat.le_refl _) _⟩
  generalize (w.alloc (.cells #[.slice A X.length c, .slice A' O.length c'] 24)) = w4 at hW ⊢
  obtain ⟨q0, hb4⟩ := hW
  refine (awake_any _).mono ?_
  rintro e w5 ⟨rfl, hb5⟩
  have hbw5 := hb4.trans (hb5.mono hb4.size)
  have p0 := q0.below hb5 q0.lt
  clear q0 hb5 hb4
  have y0 := p0.cell 0
  have y1 := p0.cell 1
  go_wp2_with fail
  refine (great_any _ _ _ _ _ _ _).mono ?_
  rintro e w6 ⟨rfl, hb6⟩
  have hbw6 := hbw5.trans (hb6.mono hbw5.size)
  have r0 := p0.below hb6 p0.lt
  have hX6 := hX0.below hbw6
  have hO6 := hO0.below hbw6
  have hM6 := hM0.below hbw6
  clear p0 hb6 hbw5 y0 y1
  have y0 := r0.cell 0
  have y1 := r0.cell 1
  have l6 := r0.lt
  cases hg : greatB X.length O.length with
  | true =>
    clear hg
    go_wp2_with fail
    go_ret
    exact ⟨rfl, hbw6⟩
  | false =>
    have hg' : X.length ≤ 50 ∧ O.length ≤ 50 := by simp only [greatB, decide_eq_false_iff_not] at hg; omega
    clear hg
    obtain ⟨gl, gl'⟩ := hg'
    by_cases t20 : 20 < ms.length
    · have u8 : decide (20 < (ms.length : Int)) = true := by simp; omega
      go_wp2_with fail
      go_ret
      exact ⟨rfl, hbw6⟩
    have u20 : decide (20 < (ms.length : Int)) = false := by simp; omega
    have t20' : ms.length ≤ 20 := by omega
    clear t20
    cases long with
    | true =>
      obtain ⟨arr, hmk⟩ := make_moves
      have HP := Lib.hid (fun B n d W (hS : W.cell? ⟨w.heap.size, 0, none⟩ = some (.slice A X.length c) ∧ W.cell? ⟨w.heap.size, 1, none⟩ = some (.slice A' O.length c') ∧ Below w6.heap.size w6 W) (hn : 10000 < n) => play_long (.slice A X.length c) (.slice A' O.length c') X O B n d W (hX0.below (hbw6.trans (Below.mono hS.2.2 hbw6.size))) (hO0.below (hbw6.trans (Below.mono hS.2.2 hbw6.size))) (by omega) (by omega) hn)
      have KS := Lib.hid (fun W (hb : Below w6.heap.size w6 W) => (⟨(hb.cell r0.lt).trans y0, (hb.cell r0.lt).trans y1, hb⟩ : W.cell? ⟨w.heap.size, 0, none⟩ = some (.slice A X.length c) ∧ W.cell? ⟨w.heap.size, 1, none⟩ = some (.slice A' O.length c') ∧ Below w6.heap.size w6 W))
      have HJ := Lib.hid (fun W W' (hS : W.cell? ⟨w.heap.size, 0, none⟩ = some (.slice A X.length c) ∧ W.cell? ⟨w.heap.size, 1, none⟩ = some (.slice A' O.length c') ∧ Below w6.heap.size w6 W) (hb : Below W.heap.size W W') => Below.trans hS.2.2 (hb.mono hS.2.2.size))
      have hlm := Lib.hid (show longM X O = (if validB X O = false then (1, [], [], -1) else (5, [], [], -1)) from rfl)
      go_upto_region 6 with fail
      clear u20
      go_cut [7, 8, 9] (fun s7 s8 s9 wx => ∃ g7 C0 m0 d0 C1 m1 d1, s7 = .pointer (some ⟨g7, 0, none⟩) ∧ s8 = .int .i64 (longM X O).2.2.2 ∧ s9 = .int .i64 (longM X O).1 ∧ Arr wx g7 24 [.slice C0 m0 d0, .slice C1 m1 d1] ∧ Ints wx (.slice C0 m0 d0) [] ∧ Ints wx (.slice C1 m1 d1) [] ∧ Below w6.heap.size w6 wx)
      case first =>
        go_region_held3 (fun w' => w'.cell? ⟨w.heap.size, 0, none⟩ = some (.slice A X.length c) ∧ w'.cell? ⟨w.heap.size, 1, none⟩ = some (.slice A' O.length c') ∧ Below w6.heap.size w6 w') ((refine KS.out _ ?_; repeat (first | exact Below.refl _ _ | exact hb10 | refine Below.drew ?_ | refine Below.alloc ?_ (by first | exact hb10.size | (simp <;> omega)) _ | refine Below.setCell ?_ (by first | exact Nat.le_refl _ | (simp <;> omega)) _)))
          (first
            | (go_at_call 22; refine (HP.out _ _ _ _ (by assumption) (by decide)).mono ?_; rintro e w9 ⟨hb9, C0, m0, d0, C1, m1, d1, rfl, j1, j2⟩; have hb10 := HJ.out _ _ (by assumption) hb9; (first | have hz9 := allockedSD hb9 | have hz9 := allockedD hb9 | skip); (try simp only [heap_push, Array.size_push] at hz9); (first | (have x0 := Arr.cell hz9 0; have x1 := Arr.cell hz9 1; have x2 := Arr.frozen hz9 0; have x3 := Arr.frozen hz9 1) | skip)))
        · go_wp2_with fail
          go_meet
          exact ⟨w9.heap.size, _, _, _, _, _, _, rfl, rfl, rfl, Arr.new w9 _ [_, _], j1.long1 _, j2.long2 _, hb10.alloc hb10.size _⟩
        · go_wp2_with fail
          go_meet
          exact ⟨w6.heap.size + 1, _, _, _, _, _, _, rfl, rfl, rfl, (hz9.set 0 _).set 1 _, j1.long1 _, j2.long2 _, bset2 (r := w6.heap.size + 1) hb10 (by omega)⟩
        · go_wp2_with fail
          go_meet
          exact ⟨w6.heap.size, _, _, _, _, _, _, rfl, rfl, rfl, (hz9.set 0 _).set 1 _, j1.long1 _, j2.long2 _, bset2 (r := w6.heap.size) hb10 (Nat.le_refl _)⟩
      case rest =>
        clear KS HP HJ hmk
        obtain ⟨g7, C0, m0, d0, C1, m1, d1, rfl, rfl, rfl, hg7, j1, j2, hbc⟩ := hcut
        have hbwc := hbw6.trans (hbc.mono hbw6.size)
        have rc := r0.below hbc r0.lt
        clear y0 y1
        have y0 := rc.cell 0
        have y1 := rc.cell 1
        go_wp2_with fail
        refine (valid_any _ _ X O _ (hX0.below hbwc) (hO0.below hbwc) (by omega) (by omega)).mono ?_
        rintro e w8 ⟨rfl, hb8⟩
        have hbw8 := hbwc.trans (hb8.mono hbwc.size)
        have hg8 := hg7.below hb8 hg7.lt
        have x0 := hg8.cell 0
        have x1 := hg8.cell 1
        have k1 := j1.below hb8
        have k2 := j2.below hb8
        clear y0 y1 hb8 hbc
        cases hv : validB X O with
        | false =>
          have hl := Lib.hid (show longM X O = (1, [], [], -1) by unfold longM; rw [if_pos hv])
          rw [hl.out]
          clear hv hlm
          go_wp2_with fail
          refine (same_any _ _ _ _ [] [] [] [] _ k1 k2 (Ints.nil _) (Ints.nil _) (by simp) (by simp)).mono ?_
          rintro e w9 ⟨rfl, hb9⟩
          go_wp2_with fail
          go_ret
          exact ⟨rfl, hbw8.trans (hb9.mono hbw8.size)⟩
        | true =>
          have hl := Lib.hid (show longM X O = (5, [], [], -1) by unfold longM; rw [if_neg (by simp [hv])])
          rw [hl.out]
          clear hv hlm
          go_wp2_with fail
          refine (same_any _ _ _ _ [] [] [] [] _ k1 k2 (Ints.nil _) (Ints.nil _) (by simp) (by simp)).mono ?_
          rintro e w9 ⟨rfl, hb9⟩
          go_wp2_with fail
          go_ret
          exact ⟨rfl, hbw8.trans (hb9.mono hbw8.size)⟩
    | false =>
      go_wp2_with fail
      refine (play_any _ _ _ X O ms _ hX6 hO6 hM6 (by omega) (by omega) (by omega)).mono ?_
      rintro e w7 ⟨hb7, B0, u0, e0, B1, u1, e1, rfl, i1, i2⟩
      have hbw7 := hbw6.trans (hb7.mono hbw6.size)
      have s0 := r0.below hb7 r0.lt
      have hl7 := s0.lt
      clear y0 y1 r0 hb7 hX6 hO6 hM6 u20
      have ba := hbw7.alloc hbw7.size (.cells #[.slice B0 u0 e0, .slice B1 u1 e1] 24)
      have y0 := (s0.alloc (.cells #[.slice B0 u0 e0, .slice B1 u1 e1] 24)).cell 0
      have y1 := (s0.alloc (.cells #[.slice B0 u0 e0, .slice B1 u1 e1] 24)).cell 1
      go_wp2_with fail
      refine (valid_any _ _ X O _ (hX0.below ba) (hO0.below ba) (by omega) (by omega)).mono ?_
      rintro e w8 ⟨rfl, hb8⟩
      have hbw8 := ba.trans (hb8.mono ba.size)
      have hg8 := allocked hb8
      have i1' := (i1.alloc _).below hb8
      have i2' := (i2.alloc _).below hb8
      have s0' := (s0.alloc _).below hb8 (s0.alloc _).lt
      have l7 := hg8.lt
      have l8 := s0'.lt
      clear y0 y1 s0 hb8 ba i1 i2
      have x0 := hg8.cell 0
      have x1 := hg8.cell 1
      have y0 := s0'.cell 0
      have y1 := s0'.cell 1
      cases hv : validB X O with
      | false =>
        have hl := Lib.hid (show playM X O ms = (1, [], [], -1) by unfold playM; rw [if_pos hv])
        rw [hl.out] at i1' i2' ⊢
        simp only at i1' i2'
        clear hv
        go_wp2_with fail
        refine (same_any _ _ _ _ [] [] [] [] _ i1' i2' (Ints.nil _) (Ints.nil _) (by simp) (by simp)).mono ?_
        rintro e w9 ⟨rfl, hb9⟩
        go_wp2_with fail
        go_ret
        exact ⟨rfl, hbw8.trans (hb9.mono hbw8.size)⟩
      | true =>
        have vd := (validB_iff X O).1 hv
        have hpl0 := Lib.hid (show playM X O ms = playFrom 0 X O (ms.drop 0) by unfold playM; rw [if_neg (by simp [hv]), List.drop_zero])
        clear hv
        go_wp2_with fail
        clear x0 x1 y0 y1
        go_loopw [84] (fun s wr => ∃ (i : Nat) (Y P : List Int) (D0 : Option Addr) (m0 d0 : Nat) (D1 : Option Addr) (m1 d1 : Nat), i ≤ ms.length ∧ s = .int .i64 i ∧ Arr wr w8.heap.size 24 [.slice D0 m0 d0, .slice D1 m1 d1] ∧ Arr wr w7.heap.size 24 [.slice B0 u0 e0, .slice B1 u1 e1] ∧
          IntsE (fun b => b = w8.heap.size) wr (.slice D0 m0 d0) Y ∧ IntsE (fun b => b = w8.heap.size) wr (.slice D1 m1 d1) P ∧ IntsE (fun b => b = w8.heap.size) wr (.slice B0 u0 e0) (playM X O ms).2.1 ∧ IntsE (fun b => b = w8.heap.size) wr (.slice B1 u1 e1) (playM X O ms).2.2.1 ∧ Below w.heap.size w wr ∧ Hid (Vd Y P ∧ playM X O ms = playFrom i Y P (ms.drop i))) (fun s _ => ms.length - (intOf s).toNat)
        case atStart =>
          have b8 := (Below.refl w8.heap.size w8).alloc (Nat.le_refl _) (.cells #[.slice A X.length c, .slice A' O.length c'] 24)
          have b9 := hbw8.alloc hbw8.size (.cells #[.slice A X.length c, .slice A' O.length c'] 24)
          exact ⟨0, X, O, _, _, _, _, _, _, Nat.zero_le _, rfl, Arr.new w8 _ [_, _], hg8.alloc _, IntsE.of_below hX0 b9 (fun b hb => by rw [hb]; exact hbw8.size), IntsE.of_below hO0 b9 (fun b hb => by rw [hb]; exact hbw8.size),
            IntsE.of_below i1' b8 (fun b hb => by rw [hb]; exact Nat.le_refl _), IntsE.of_below i2' b8 (fun b hb => by rw [hb]; exact Nat.le_refl _), b9, vd, hpl0.out⟩
        case round =>
          clear hpl0 i1' i2' s0' hg8
          obtain ⟨i, Y, P, D0, m0, d0, D1, m1, d1, hi, rfl, hg, hq, j1, j2, k1, k2, hbr, H⟩ := hrel
          have g0 := hg.cell 0
          have g1 := hg.cell 1
          have z0 := hq.cell 0
          have z1 := hq.cell 1
          have lg := hg.lt
          have lq := hq.lt
          have hY := H.out.1.most
          have hYP := Lib.hid H.out.1.len
          by_cases hlt : i < ms.length
          · obtain ⟨b, o, rfl, hbl, c0, c1, c2, c3⟩ := hM0.at_ hlt
            have c0' := (hbr.cell (p := ⟨b, o + i * 4, none⟩) hbl).trans c0
            have c1' := (hbr.cell (p := ⟨b, o + i * 4 + 1, none⟩) hbl).trans c1
            have c2' := (hbr.cell (p := ⟨b, o + i * 4 + 2, none⟩) hbl).trans c2
            have c3' := (hbr.cell (p := ⟨b, o + i * 4 + 3, none⟩) hbl).trans c3
            clear c0 c1 c2 c3
            have hpl := Lib.hid (And.intro (fun h : (ms[i].app Y P).1 = 0 => H.out.2.trans ((playFrom_drop Y P ms hlt).trans (if_pos h))) (fun h : ¬ (ms[i].app Y P).1 = 0 => H.out.2.trans ((playFrom_drop Y P ms hlt).trans (if_neg h))))
            generalize ms[i] = m at *
            obtain ⟨mk, mr, ma, mv⟩ := m
            simp only [Mv.app] at hpl c0' c1' c2' c3'
            go_wp2_with fail
            refine (apply_rf _ _ Y P mk mr ma mv _ (j1.ints.alloc _) (j2.ints.alloc _) (by omega) (by have := hYP.out; omega)).mono ?_
            rintro e w10 ⟨hb10, C0, o0, h0, C1, o1, h1, rfl, t1, t2⟩
            have hba := hbr.alloc hbr.size (.cells #[.int .i64 mk, .bool mr, .int .i64 ma, .int .i64 mv] 26)
            have hwa := (Below.refl wr.heap.size wr).alloc (Nat.le_refl _) (.cells #[.int .i64 mk, .bool mr, .int .i64 ma, .int .i64 mv] 26)
            have hwx := hwa.trans (hb10.mono hwa.size)
            have hbr' := hba.trans (hb10.mono hba.size)
            have hg' := (hg.alloc _).below hb10 (hg.alloc _).lt
            have hq' := (hq.alloc _).below hb10 (hq.alloc _).lt
            have sz8 := hb10.size
            have k1' := k1.below hwx
            have k2' := k2.below hwx
            have hvr := Lib.hid (@applyM_res_vd Y P (applyM Y P mk mr ma mv).2.1 (applyM Y P mk mr ma mv).2.2 mk ma mv mr)
            clear g0 g1 z0 z1 c0' c1' c2' c3' k1 k2
            generalize hR : applyM Y P mk mr ma mv = R at *
            obtain ⟨code, Y1, P1⟩ := R
            simp only at t1 t2 hpl hvr
            clear hR
            have bb := (Below.refl w10.heap.size w10).alloc (Nat.le_refl _) (.cells #[.slice C0 o0 h0, .slice C1 o1 h1] 24)
            have g0 := (hg'.alloc (.cells #[.slice C0 o0 h0, .slice C1 o1 h1] 24)).cell 0
            have g1 := (hg'.alloc (.cells #[.slice C0 o0 h0, .slice C1 o1 h1] 24)).cell 1
            have g2 := (hg'.alloc (.cells #[.slice C0 o0 h0, .slice C1 o1 h1] 24)).frozen 0
            have g3 := (hg'.alloc (.cells #[.slice C0 o0 h0, .slice C1 o1 h1] 24)).frozen 1
            have z0 := (hq'.alloc (.cells #[.slice C0 o0 h0, .slice C1 o1 h1] 24)).cell 0
            have z1 := (hq'.alloc (.cells #[.slice C0 o0 h0, .slice C1 o1 h1] 24)).cell 1
            have hbx := hbr'.alloc hbr'.size (.cells #[.slice C0 o0 h0, .slice C1 o1 h1] 24)
            by_cases hcd : code = 0
            · subst hcd
              have hv1 := hvr.out rfl
              have n1 : IntsE (fun b => b = w8.heap.size) w10 (.slice C0 o0 h0) Y1 := IntsE.of_fresh t1 (fun b hb => by simp; omega)
              have n2 : IntsE (fun b => b = w8.heap.size) w10 (.slice C1 o1 h1) P1 := IntsE.of_fresh t2 (fun b hb => by simp; omega)
              have hpl' := Lib.hid (hpl.out.1 rfl)
              go_wp2_with fail
              go_roundw
              case rel =>
                exact ⟨i + 1, Y1, P1, _, _, _, _, _, _, by omega, by go_num, ((hg'.alloc _).set 0 _).set 1 _, (hq'.alloc _).far2 (r := w8.heap.size) (by omega), (n1.below bb).set2 rfl _ _ _ _, (n2.below bb).set2 rfl _ _ _ _, (k1'.below bb).set2 rfl _ _ _ _, (k2'.below bb).set2 rfl _ _ _ _, bset2 (r := w8.heap.size) hbx hbw8.size, hv1, hpl'.out⟩
              case measure => simp [intOf]; omega
            · have hb0 : (code != 0) = true := by simpa using hcd
              have hfin := hpl.out.2 hcd
              rw [hfin] at k1' k2' ⊢
              simp only at k1' k2'
              have hcc : (code == code) = true := by simp
              have hii : ((i : Int) == (i : Int)) = true := by simp
              clear hcd hfin hpl H
              go_wp2_with fail
              refine (same_any _ _ _ _ [] [] [] [] _ (k1'.below bb).ints (k2'.below bb).ints (Ints.nil _) (Ints.nil _) (by simp) (by simp)).mono ?_
              rintro e w11 ⟨rfl, hb11⟩
              go_wp2_with fail
              go_ret
              exact ⟨rfl, hbx.trans (hb11.mono hbx.size)⟩
          · have hie : i = ms.length := by omega
            have hpl := show playM X O ms = (0, Y, P, -1) by rw [H.out.2, hie, List.drop_length]; rfl
            rw [hpl] at k1 k2 ⊢
            simp only at k1 k2
            clear hie hpl H
            go_wp2_with fail
            refine (same_any _ _ _ _ Y P Y P _ k1.ints k2.ints j1.ints j2.ints (by omega) (by have := hYP.out; omega)).mono ?_
            rintro e w11 ⟨rfl, hb11⟩
            go_wp2_with fail
            go_ret
            exact ⟨by simp, hbr.trans (hb11.mono hbr.size)⟩
end Go.Proofs.Ytgclngoeglopcaa
