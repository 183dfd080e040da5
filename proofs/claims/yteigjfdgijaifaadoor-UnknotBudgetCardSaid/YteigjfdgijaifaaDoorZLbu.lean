/- The law UnknotBudget: the walk. -/
import Derived.Test.YteigjfdgijaifaaDoorZBud
namespace Go.Proofs.YteigjfdgijaifaaDoor
open Go.RowKit Go.Shelf
set_option linter.unusedVariables false

theorem allockV {W : World} {w : World} {t : TypeId} {a b c : Value} (hb : Below (W.alloc (.cells #[a, b, c] t)).heap.size (W.alloc (.cells #[a, b, c] t)) w) : Arr w W.heap.size t [a, b, c] := (Arr.new W t [a, b, c]).below hb (by simp)
theorem allockVD {W : World} {w : World} {t : TypeId} {a b c : Value} (hb : Below (W.alloc (.cells #[a, b, c] t)).drew.heap.size (W.alloc (.cells #[a, b, c] t)).drew w) : Arr w W.heap.size t [a, b, c] := (Arr.new W t [a, b, c]).below (w := (W.alloc (.cells #[a, b, c] t)).drew) hb (by show W.heap.size < (W.alloc _).heap.size; simp)
/-- the verdict with the smaller budget -/
def VLess (g : Gd) (B : Nat) (w : World) (s14 s15 : Value) : Prop :=
  ∃ (q : Nat) (b : Bool) (A : Option Addr) (n c : Nat) (cd : Int), s14 = .pointer (some ⟨q, 0, none⟩) ∧ s15 = .int .i64 cd ∧ B ≤ q ∧ Arr w q 32 [.bool b, .slice A n c, .int .i64 0] ∧ (b = false ∧ cd = 13 ∨ b = true ∧ cd = 0 ∧ DU g)
set_option maxHeartbeats 8000000 in
set_option maxRecDepth 100000 in
theorem budget_law (v0 v1 : Value) (X O : List Int) (less : Int) (w : World) (hX : Ints w v0 X) (hO : Ints w v1 O) (hle : 0 ≤ less ∧ less ≤ 65535) (ht : Tb w) :
    Calls Tryd.prog 5 #[.agg #[v0, v1], .int .u16 less] w fun e w' => e = .returned (.bool true) ∧ Below w.heap.size w w' := by
  have HT := Lib.hid (fun W (hb : Below w.heap.size w W) => ht.below hb)
  have HX := Lib.hid (fun W (hb : Below w.heap.size w W) => hX.below hb)
  have HO := Lib.hid (fun W (hb : Below w.heap.size w W) => hO.below hb)
  obtain ⟨A0, c0, rfl, -, -⟩ := hX
  obtain ⟨A1, c1, rfl, -, -⟩ := hO
  obtain ⟨ln, rfl⟩ := Int.eq_ofNat_of_zero_le hle.1
  have hl5 : ln ≤ 65535 := by omega
  have HLN := Lib.hid hl5
  clear ht hle hl5
  go_enter Tryd.func5, Tryd.ntmps5
  go_upto_region 1 with fail
  have hal := (Below.refl w.heap.size w).alloc (Nat.le_refl _) (.cells #[.slice A0 X.length c0, .slice A1 O.length c1] 26)
  have YG := Lib.hid (show Arr (w.alloc (.cells #[.slice A0 X.length c0, .slice A1 O.length c1] 26)) w.heap.size 26 [.slice A0 X.length c0, .slice A1 O.length c1] from Arr.new w _ [_, _])
  have HB1 := Lib.hid hal
  generalize w.alloc (.cells #[.slice A0 X.length c0, .slice A1 O.length c1] 26) = w1 at YG HB1 ⊢
  clear hal
  have HAW := Lib.hid (awake45 w1 (HT.out _ HB1.out))
  go_upto_region 3 with (go_at_call 7; refine HAW.out.mono ?_; rintro e2 w2 ⟨rfl, hb2⟩)
  have HB2 := Lib.hid (HB1.out.trans (hb2.mono HB1.out.size))
  have YG2 := Lib.hid (YG.out.below hb2 YG.out.lt)
  clear hb2 YG HB1 HAW
  have y0 := YG2.out.cell 0
  have y1 := YG2.out.cell 1
  have hg := great45_any A0 A1 X.length c0 O.length c1 5 w2
  obtain ⟨gb, hgb⟩ : ∃ gb, gb = (decide ((5 : Int) < (X.length : Int)) || decide ((5 : Int) < (O.length : Int))) := ⟨_, rfl⟩
  rw [← hgb] at hg
  have HGB := Lib.hid hgb
  have HG := Lib.hid hg
  clear hg hgb
  go_wp2_with (fail)
  refine HG.out.mono ?_
  rintro e3 w3 ⟨rfl, hb3⟩
  have HB3 := Lib.hid (HB2.out.trans (hb3.mono HB2.out.size))
  have YG3 := Lib.hid (YG2.out.below hb3 YG2.out.lt)
  clear hb3 HG y0 y1 YG2 HB2
  cases gb with
  | true =>
    go_wp2_with fail
    go_ret
    exact ⟨rfl, HB3.out⟩
  | false =>
    have h5 : X.length ≤ 5 ∧ O.length ≤ 5 := by
      have h5 := HGB.out
      simp only [Bool.false_eq, Bool.or_eq_false_iff, decide_eq_false_iff_not] at h5
      omega
    have H5 := Lib.hid h5
    clear h5 HGB
    have y0 := YG3.out.cell 0
    have y1 := YG3.out.cell 1
    have HR := Lib.hid (Reached_any _ _ X O 5000 w3 (HX.out _ HB3.out) (HO.out _ HB3.out) (by have := H5.out; omega) (by have := H5.out; omega) (by decide) (HT.out _ HB3.out))
    go_wp2_with fail
    refine HR.out.mono ?_
    rintro e4 w4 ⟨hb4, hc⟩
    have HB4 := Lib.hid (HB3.out.trans (hb4.mono HB3.out.size))
    have YG4 := Lib.hid (YG3.out.below hb4 YG3.out.lt)
    clear hb4 HR y0 y1 YG3 HB3
    rcases hc with ⟨_, rfl⟩ | ⟨_, _, rfl⟩ | ⟨hv, hcp, r, hr, ⟨rfl, rfl⟩ | ⟨K, v, gs, rfl, hp, _, hg, rfl⟩⟩
    · go_wp2_with fail
      go_ret
      exact ⟨rfl, HB4.out⟩
    · go_wp2_with fail
      go_ret
      exact ⟨rfl, HB4.out⟩
    · clear hr hcp hv
      go_wp2_with fail
      go_ret
      exact ⟨rfl, HB4.out⟩
    · have hn1 : gs.length = K.length := by rw [hp.length_eq, List.length_map]
      obtain ⟨Al, cl, rfl, -⟩ := hg
      rw [hn1]
      have hn0 : 0 < K.length := by
        obtain ⟨A3, hA, hn, _⟩ := (Exq.pl (g := (X, O)) hv hr).1 K rfl
        have := hA.1
        cases A3 with
        | nil => exact absurd rfl hn
        | cons a t => simp at this; omega
      have hn5 := hr.most K (.inl rfl)
      have e5 : (5000 : Int).toNat = 5000 := rfl
      rw [e5] at hn5
      clear hp hn1 e5
      have HRF := Lib.hid (fun W (hb : Below w.heap.size w W) => reach_full (HX.out _ hb) (HO.out _ hb) (by have := H5.out; omega) (by have := H5.out; omega) hv hcp hr (HT.out _ hb))
      have HDF := Lib.hid (fun W (hb : Below w.heap.size w W) => decide_full (HX.out _ hb) (HO.out _ hb) (by have := H5.out; omega) hv hcp hr (HT.out _ hb))
      have HRL := Lib.hid (fun (m : Nat) (hm : m < K.length) W (hb : Below w.heap.size w W) => reach_less (m := (m : Int)) (HX.out _ hb) (HO.out _ hb) (by have := H5.out; omega) (by have := H5.out; omega) hv hcp hr (by omega) (by omega) (HT.out _ hb))
      have HDL := Lib.hid (fun (m : Nat) (hm : m < K.length) W (hb : Below w.heap.size w W) => decide_less (m := (m : Int)) (HX.out _ hb) (HO.out _ hb) (by have := H5.out; omega) hv hcp hr (by omega) (by omega) (HT.out _ hb))
      clear hv hcp hr
      generalize K.length = n at HRF HDF HRL HDL hn0 hn5 ⊢
      clear K
      obtain ⟨r, hrr⟩ : ∃ r, r = ln % n := ⟨_, rfl⟩
      have hrn : r < n := by rw [hrr]; exact Nat.mod_lt _ hn0
      have wr : Int.tmod (ln : Int) (n : Int) = (r : Int) := by
        rw [← Int.ofNat_tmod, ← hrr]
      obtain ⟨m, hmm⟩ : ∃ m, m + r + 1 = n := ⟨n - 1 - r, by omega⟩
      have wn1 : IntKind.i64.wrap ((n : Int) - 1) = (n : Int) - 1 := IntWalk.i64_in _ (by omega)
      have wl : IntKind.i64.wrap (ln : Int) = (ln : Int) := IntWalk.i64_in _ (by have := HLN.out; omega)
      have wm : IntKind.i64.wrap ((n : Int) - 1 - (r : Int)) = (m : Int) := (IntWalk.i64_in _ (by omega)).trans (by omega)
      have hml : m < n := by omega
      have HRM := Lib.hid (HRL.out m hml)
      have HDM := Lib.hid (HDL.out m hml)
      have nz : ((n : Int) == 0) = false := by simp; omega
      have nz2 : ¬ (n : Int) = 0 := by omega
      have nz3 : ¬ n = 0 := by omega
      clear HRL HDL hml hrn hrr hmm
      have y0 := YG4.out.cell 0
      have y1 := YG4.out.cell 1
      go_wp2_with fail
      refine (HRF.out w4 HB4.out).mono ?_
      rintro e5 w5 ⟨⟨A5, c5, rfl⟩, hb5⟩
      have HB5 := Lib.hid (HB4.out.trans (hb5.mono HB4.out.size))
      have YG5 := YG4.out.below hb5 YG4.out.lt
      clear hb5 y0 y1 YG4 HB4 HRF
      obtain ⟨B, hB⟩ : ∃ B, B = w.heap.size := ⟨_, rfl⟩
      have hBv : Value.pointer (some ⟨w.heap.size, 0, none⟩) = .pointer (some ⟨B, 0, none⟩) := by rw [hB]
      have hBa : Arr w5 B 26 [.slice A0 X.length c0, .slice A1 O.length c1] := by rw [hB]; exact YG5
      clear YG5
      try rw [hBv]
      clear hBv hB
      have y0 := hBa.cell 0
      have y1 := hBa.cell 1
      go_wp2_with fail
      have HRW := Lib.hid (fun W (hS : W.cell? ⟨B, 0, none⟩ = some (.slice A0 X.length c0) ∧ W.cell? ⟨B, 1, none⟩ = some (.slice A1 O.length c1) ∧ Below w5.heap.size w5 W) => HRM.out W (HB5.out.trans (hS.2.2.mono HB5.out.size)))
      have HJ := Lib.hid (fun W W' (hS : W.cell? ⟨B, 0, none⟩ = some (.slice A0 X.length c0) ∧ W.cell? ⟨B, 1, none⟩ = some (.slice A1 O.length c1) ∧ Below w5.heap.size w5 W) (hb : Below W.heap.size W W') => Below.trans hS.2.2 (hb.mono hS.2.2.size))
      have KS := Lib.hid (fun W (hb : Below w5.heap.size w5 W) => (⟨(hb.cell hBa.lt).trans y0, (hb.cell hBa.lt).trans y1, hb⟩ : W.cell? ⟨B, 0, none⟩ = some (.slice A0 X.length c0) ∧ W.cell? ⟨B, 1, none⟩ = some (.slice A1 O.length c1) ∧ Below w5.heap.size w5 W))
      clear HRM
      go_region_held3 (fun W => W.cell? ⟨B, 0, none⟩ = some (.slice A0 X.length c0) ∧ W.cell? ⟨B, 1, none⟩ = some (.slice A1 O.length c1) ∧ Below w5.heap.size w5 W) ((refine KS.out _ ?_; repeat (first | exact Below.refl _ _ | exact hb7 | refine Below.drew ?_)))
        (first
          | (go_at_call 14; refine (HRW.out _ (by assumption)).mono ?_; rintro e w6 ⟨rfl, hb6⟩; have hb7 := HJ.out _ _ (by assumption) hb6; clear hb6))
      clear HRW HJ KS y0 y1
      have hB6 := hBa.below hb7 hBa.lt
      have HB6 := Lib.hid (HB5.out.trans (hb7.mono HB5.out.size))
      clear hBa hb7
      have y0 := hB6.cell 0
      have y1 := hB6.cell 1
      go_wp2_with fail
      refine (HDF.out w6 HB6.out).mono ?_
      rintro e8 w8 ⟨⟨b1, D1, m1, k1, n1, rfl, hdu⟩, hb8⟩
      have HDU := Lib.hid hdu
      have hal := (Below.refl w8.heap.size w8).alloc (Nat.le_refl _) (.cells #[.bool b1, .slice D1 m1 k1, .int .i64 n1] 32)
      have HB9 := Lib.hid ((HB6.out.trans (hb8.mono HB6.out.size)).trans (hal.mono (HB6.out.trans (hb8.mono HB6.out.size)).size))
      have YV := Lib.hid (show Arr (w8.alloc (.cells #[.bool b1, .slice D1 m1 k1, .int .i64 n1] 32)) w8.heap.size 32 [.bool b1, .slice D1 m1 k1, .int .i64 n1] from Arr.new w8 _ [_, _, _])
      have hB9 := (hB6.below hb8 hB6.lt).below hal (hB6.below hb8 hB6.lt).lt
      clear hb8 hdu y0 y1 hB6 HDF HB6
      go_upto_region 12 with fail
      generalize w8.alloc (.cells #[.bool b1, .slice D1 m1 k1, .int .i64 n1] 32) = w9 at HB9 YV hB9 ⊢
      generalize w8.heap.size = q1 at YV ⊢
      clear hal
      have y0 := hB9.cell 0
      have y1 := hB9.cell 1
      have HDW := Lib.hid (fun W (hS : W.cell? ⟨B, 0, none⟩ = some (.slice A0 X.length c0) ∧ W.cell? ⟨B, 1, none⟩ = some (.slice A1 O.length c1) ∧ Below w9.heap.size w9 W) => HDM.out W (HB9.out.trans (hS.2.2.mono HB9.out.size)))
      have HJ := Lib.hid (fun W W' (hS : W.cell? ⟨B, 0, none⟩ = some (.slice A0 X.length c0) ∧ W.cell? ⟨B, 1, none⟩ = some (.slice A1 O.length c1) ∧ Below w9.heap.size w9 W) (hb : Below W.heap.size W W') => Below.trans hS.2.2 (hb.mono hS.2.2.size))
      have KS := Lib.hid (fun W (hb : Below w9.heap.size w9 W) => (⟨(hb.cell hB9.lt).trans y0, (hb.cell hB9.lt).trans y1, hb⟩ : W.cell? ⟨B, 0, none⟩ = some (.slice A0 X.length c0) ∧ W.cell? ⟨B, 1, none⟩ = some (.slice A1 O.length c1) ∧ Below w9.heap.size w9 W))
      clear HDM
      go_cut [14, 15] (fun s14 s15 wx => VLess (X, O) w9.heap.size wx s14 s15 ∧ Below w9.heap.size w9 wx)
      case first =>
        go_region_held3 (fun W => W.cell? ⟨B, 0, none⟩ = some (.slice A0 X.length c0) ∧ W.cell? ⟨B, 1, none⟩ = some (.slice A1 O.length c1) ∧ Below w9.heap.size w9 W) ((refine KS.out _ ?_; repeat (first | exact Below.refl _ _ | exact hb11 | refine Below.drew ?_ | refine Below.alloc ?_ (by first | exact hb11.size | exact Nat.le_refl _) _ | refine Below.setCell ?_ (by first | exact hb11.size | exact Nat.le_refl _) _)))
          (first
            | (go_at_call 10; refine (HDW.out _ (by assumption)).mono ?_; rintro e10 w10 ⟨⟨b2, D2, m2, k2, cd2, rfl, hf2⟩, hb10⟩; have hb11 := HJ.out _ _ (by assumption) hb10; have HF2 := Lib.hid hf2; (first | have hz := allockV hb10 | have hz := allockVD hb10 | skip); (first | (have x0 := Arr.cell hz 0; have x1 := Arr.cell hz 1; have x2 := Arr.cell hz 2; have x3 := Arr.frozen hz 0; have x4 := Arr.frozen hz 1; have x5 := Arr.frozen hz 2) | skip); clear hb10 hf2))
        · go_wp2_with fail
          go_meet
          exact ⟨⟨w10.heap.size, b2, D2, m2, k2, cd2, rfl, rfl, hb11.size, Arr.new w10 _ [_, _, _], HF2.out⟩, hb11.alloc hb11.size _⟩
        · go_wp2_with fail
          go_meet
          exact ⟨⟨w9.heap.size, b2, D2, m2, k2, cd2, rfl, rfl, Nat.le_refl _, ((hz.set 0 _).set 1 _).set 2 _, HF2.out⟩, ((hb11.setCell (p := ⟨w9.heap.size, 0, none⟩) (Nat.le_refl _) _).setCell (p := ⟨w9.heap.size, 1, none⟩) (Nat.le_refl _) _).setCell (p := ⟨w9.heap.size, 2, none⟩) (Nat.le_refl _) _⟩
      case rest =>
        clear y0 y1 HDW HJ KS
        obtain ⟨⟨q, b2, D2, m2, k2, cd2, rfl, rfl, hq, ha, hf⟩, hb12⟩ := hcut
        have HB12 := Lib.hid (HB9.out.trans (hb12.mono HB9.out.size))
        have hYV := YV.out.below hb12 YV.out.lt
        have y0 := hYV.cell 0
        have z0 := ha.cell 0
        have z2 := ha.cell 2
        clear hb12 hq hYV ha YV hB9
        have nn : ((n : Int) != (n : Int)) = false := by simp
        rcases hf with ⟨rfl, rfl⟩ | ⟨rfl, rfl, hd⟩
        · cases b1 with
          | true =>
            go_wp2_with fail
            go_ret
            exact ⟨rfl, HB12.out⟩
          | false =>
            go_wp2_with fail
            go_ret
            exact ⟨rfl, HB12.out⟩
        · cases b1 with
          | true =>
            go_wp2_with fail
            go_ret
            exact ⟨rfl, HB12.out⟩
          | false => exact absurd hd (HDU.out rfl)
end Go.Proofs.YteigjfdgijaifaaDoor
