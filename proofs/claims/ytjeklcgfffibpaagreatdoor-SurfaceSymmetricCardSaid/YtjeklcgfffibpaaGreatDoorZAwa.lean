/- unravellaw38.awake. -/
import Derived.Test.YtjeklcgfffibpaaGreatDoorZSfm
import Derived.Test.YtjeklcgfffibpaaGreatDoorZSfa
import Derived.Test.YtjeklcgfffibpaaGreatDoorZTxt
namespace Go.Proofs.YtjeklcgfffibpaaGreatDoor
open Go.RowKit
set_option linter.unusedVariables false

/-- a polynomial that the value of the determinant tells -/
theorem alex_is {m : List (List Int)} {D : LP} {R : Pol} {w : World} (hs1 : sqM m = true) (hs2 : smM m = true) (hc : Can D) (hl : Lim D) (h0 : ∀ t ∈ D, 0 ≤ t.1) (hv : ∀ x, 1 ≤ x → evQ 0 x D = detE 0 (alM m) x) (hR : norP (some D) = R) {e : Ending} {w' : World} (h : AlxP m w e w') :
    ∃ v, e = .returned (.tuple #[v, .int .i64 0]) ∧ PolyV w' v R ∧ Below w.heap.size w w' := by
  obtain ⟨hb, h⟩ := h
  rcases h with ⟨h1, _⟩ | ⟨_, h1, _⟩ | ⟨_, _, h⟩
  · rw [hs1] at h1; cases h1
  · rw [hs2] at h1; cases h1
  · rcases h with ⟨v, p, he, hp, pc, pl, p0, pv⟩ | ⟨_, hno⟩
    · have e1 : p = D := evQ_inj pc hc (fun t ht => by have := p0 t ht; omega) (fun t ht => by have := h0 t ht; omega) fun x hx => (pv x hx).trans (hv x hx).symm
      subst e1
      rw [hR] at hp
      exact ⟨v, he, hp, hb⟩
    · exact absurd hv (fun hv => hno D hc hl h0 hv)
def aw1 : List (List Int) := [[-1, 0], [1, -1]]
def aw2 : List (List Int) := [[-1, 1], [0, 1]]
theorem aw1_m : sfM [1, 1, 1] (lsF 2 [1, 1, 1]) = aw1 := by decide +kernel
theorem aw2_m : sfM [1, -2, 1, -2] (lsF 3 [1, -2, 1, -2]) = aw2 := by decide +kernel
theorem aw1_al : alM aw1 = [[[(0, -1), (1, 1)], [(1, -1)]], [[(0, 1)], [(0, -1), (1, 1)]]] := by decide +kernel
theorem aw2_al : alM aw2 = [[[(0, -1), (1, 1)], [(0, 1)]], [[(1, -1)], [(0, 1), (1, -1)]]] := by decide +kernel
theorem aw1_det (x : Int) : evQ 0 x [(0, 1), (1, -1), (2, 1)] = detE 0 (alM aw1) x := by
  rw [aw1_al]
  simp [detE, dt, List.range', sumI, sgn, skp, evQ]
  grind
theorem aw2_det (x : Int) : evQ 0 x [(0, -1), (1, 3), (2, -1)] = detE 0 (alM aw2) x := by
  rw [aw2_al]
  simp [detE, dt, List.range', sumI, sgn, skp, evQ]
  grind
theorem aw1_nor : norP (some [(0, 1), (1, -1), (2, 1)]) = some [(0, 1), (1, -1), (2, 1)] := by decide +kernel
theorem aw2_nor : norP (some [(0, -1), (1, 3), (2, -1)]) = some [(0, 1), (1, -3), (2, 1)] := by decide +kernel
theorem aw1_txt : (⟨(txt [116] (some [(0, 1), (1, -1), (2, 1)])).toArray⟩ : ByteArray) = ⟨#[49, 45, 116, 43, 116, 94, 50]⟩ := by decide +kernel
theorem aw2_txt : (⟨(txt [116] (some [(0, 1), (1, -3), (2, 1)])).toArray⟩ : ByteArray) = ⟨#[49, 45, 51, 116, 43, 116, 94, 50]⟩ := by decide +kernel
theorem aw_mtx {N : Int} {W : List Int} {m : List (List Int)} {w w' : World} {e : Ending} (h1 : brV N W = true) (h2 : cnB N W) (h3 : (lsF N W).length ≤ 64) (hm : sfM W (lsF N W) = m) (h : MtxP N W w e w') : ∃ v, e = .returned (.tuple #[v, .int .i64 0]) ∧ MatI w' v m ∧ Below w.heap.size w w' := by
  obtain ⟨hb, h⟩ := h
  rcases h with ⟨q, _⟩ | ⟨_, q, _⟩ | ⟨_, _, q, _⟩ | ⟨_, _, _, v, he, hv⟩
  · rw [h1] at q; cases q
  · exact absurd h2 q
  · omega
  · rw [hm] at hv; exact ⟨v, he, hv, hb⟩
theorem cn1 : cnB 2 [1, 1, 1] := fun g h1 h2 => by
  have : g = 1 := by omega
  subst this; decide +kernel
theorem cn2 : cnB 3 [1, -2, 1, -2] := fun g h1 h2 => by
  have : g = 1 ∨ g = 2 := by omega
  rcases this with rfl | rfl <;> decide +kernel
set_option maxHeartbeats 4000000 in
set_option maxRecDepth 100000 in
theorem awake38 (w : World) (ht : Tb w) (ht6 : Tb6 w) : Calls Tryz.prog 7 #[] w fun e w' => e = .returned (.bool true) ∧ Below w.heap.size w w' := by
  have HT := Lib.hid ht
  have HT6 := Lib.hid ht6
  clear ht ht6
  have HM1 := Lib.hid (fun W vw (h : Ints W vw [1, 1, 1]) => (sMatrix_any 2 vw [1, 1, 1] W h (by simp) (by decide)).mono (fun e w' hd => aw_mtx (by decide) cn1 (by decide +kernel) aw1_m hd))
  have HM2 := Lib.hid (fun W vw (h : Ints W vw [1, -2, 1, -2]) => (sMatrix_any 3 vw [1, -2, 1, -2] W h (by simp) (by decide)).mono (fun e w' hd => aw_mtx (by decide) cn2 (by decide +kernel) aw2_m hd))
  have HA1 := Lib.hid (fun W v (h : MatI W v aw1) (ht : Tb6 W) => (Alexander_any v aw1 W h (by decide) (by decide) ht).mono (fun e w' hd => alex_is (by decide) (by decide) ⟨by unfold Srt; simp, by simp⟩ ⟨by simp, by simp⟩ (by simp) (fun x _ => aw1_det x) aw1_nor hd))
  have HA2 := Lib.hid (fun W v (h : MatI W v aw2) (ht : Tb6 W) => (Alexander_any v aw2 W h (by decide) (by decide) ht).mono (fun e w' hd => alex_is (by decide) (by decide) ⟨by unfold Srt; simp, by simp⟩ ⟨by simp, by simp⟩ (by simp) (fun x _ => aw2_det x) aw2_nor hd))
  go_enter Tryz.func7, Tryz.ntmps7
  have hal1 := (Below.refl w.heap.size w).alloc (Nat.le_refl _) (.cells #[.int .i64 1, .int .i64 1, .int .i64 1] 3)
  have H1 := Lib.hid (HM1.out _ _ (Ints.of_arr (xs := [1, 1, 1]) (Arr.new w 3 [.int .i64 1, .int .i64 1, .int .i64 1])))
  have HB1 := Lib.hid hal1
  clear hal1 HM1
  go_wp2_with fail
  refine H1.out.mono ?_
  rintro e w2 ⟨v1, rfl, hm1, hb2⟩
  have HB2 := Lib.hid (HB1.out.trans (hb2.mono HB1.out.size))
  have HV1 := Lib.hid (fun W (hb : Below w2.heap.size w2 W) => hm1.below hb)
  obtain ⟨A1, c1, rfl⟩ := hm1.form
  have hal2 := (Below.refl w2.heap.size w2).alloc (Nat.le_refl _) (.cells #[.int .i64 1, .int .i64 (-2), .int .i64 1, .int .i64 (-2)] 3)
  have H2 := Lib.hid (HM2.out _ _ (Ints.of_arr (xs := [1, -2, 1, -2]) (Arr.new w2 3 [.int .i64 1, .int .i64 (-2), .int .i64 1, .int .i64 (-2)])))
  have HC2 := Lib.hid hal2
  clear hal2 HM2 H1 hm1 hb2 HB1
  go_upto_region 2 with fail
  go_wp2_with fail
  refine H2.out.mono ?_
  rintro e w3 ⟨v2, rfl, hm2, hb3⟩
  have HC3 := Lib.hid (HC2.out.trans (hb3.mono HC2.out.size))
  have HB3 := Lib.hid (HB2.out.trans (HC3.out.mono HB2.out.size))
  have HV2 := Lib.hid (fun W (hb : Below w3.heap.size w3 W) => hm2.below hb)
  obtain ⟨A2, c2, rfl⟩ := hm2.form
  have H3 := Lib.hid (HA1.out w3 _ (HV1.out w3 HC3.out) (HT6.out.below HB3.out))
  clear hm2 hb3 H2 HC2 HA1
  go_upto_region 3 with fail
  go_wp2_with fail
  refine H3.out.mono ?_
  rintro e w4 ⟨p1, rfl, hp1, hb4⟩
  have HB4 := Lib.hid (HB3.out.trans (hb4.mono HB3.out.size))
  obtain ⟨b5, A5, n5, c5, rfl, -, -⟩ := hp1.parts
  have hal := (Below.refl w4.heap.size w4).alloc (Nat.le_refl _) (.cells #[.bool b5, .slice A5 n5 c5] 39)
  have HQ1 := Lib.hid (show Arr (w4.alloc (.cells #[.bool b5, .slice A5 n5 c5] 39)) w4.heap.size 39 [.bool b5, .slice A5 n5 c5] from Arr.new w4 _ [_, _])
  have HP1 := Lib.hid (hp1.below hal)
  have HB5 := Lib.hid (HB4.out.trans (hal.mono HB4.out.size))
  have H4 := Lib.hid (HA2.out _ _ (HV2.out _ (hb4.trans (hal.mono hb4.size))) (HT6.out.below HB5.out))
  clear hal hp1 hb4 H3 HA2 HB4
  go_upto_region 4 with fail
  generalize w4.alloc (.cells #[.bool b5, .slice A5 n5 c5] 39) = w5 at *
  generalize w4.heap.size = g5 at *
  go_wp2_with fail
  refine H4.out.mono ?_
  rintro e w6 ⟨p2, rfl, hp2, hb6⟩
  have HB6 := Lib.hid (HB5.out.trans (hb6.mono HB5.out.size))
  obtain ⟨b6, A6, n6, c6, rfl, -, -⟩ := hp2.parts
  have hal := (Below.refl w6.heap.size w6).alloc (Nat.le_refl _) (.cells #[.bool b6, .slice A6 n6 c6] 39)
  have hq1 := HQ1.out.below hb6 HQ1.out.lt
  have HQ1b := Lib.hid (hq1.below hal hq1.lt)
  have HP1b := Lib.hid ((HP1.out.below hb6).below hal)
  have HQ2 := Lib.hid (show Arr (w6.alloc (.cells #[.bool b6, .slice A6 n6 c6] 39)) w6.heap.size 39 [.bool b6, .slice A6 n6 c6] from Arr.new w6 _ [_, _])
  have HP2 := Lib.hid (hp2.below hal)
  have HB7 := Lib.hid (HB6.out.trans (hal.mono HB6.out.size))
  clear hal hp2 hb6 H4 HB6 hq1 HQ1 HP1 HB5
  go_upto_region 5 with fail
  generalize w6.alloc (.cells #[.bool b6, .slice A6 n6 c6] 39) = w7 at *
  generalize w6.heap.size = g7 at *
  have HX1 := Lib.hid (fun W (hb : Below w7.heap.size w7 W) => (show Calls Tryz.prog 25 #[.agg #[.bool b5, .slice A5 n5 c5], .string ⟨#[116]⟩] W (fun e w' => e = .returned (.string ⟨#[49, 45, 116, 43, 116, 94, 50]⟩) ∧ Below W.heap.size W w') from by
    have h := Text_any _ (some [(0, 1), (1, -1), (2, 1)]) [116] W (HP1b.out.below hb) ⟨⟨by unfold Srt; simp, by simp⟩, ⟨by simp, by simp⟩⟩ (by simp) (HT.out.below (HB7.out.trans (hb.mono HB7.out.size)))
    rw [aw1_txt] at h; exact h))
  have HX2 := Lib.hid (fun W (hb : Below w7.heap.size w7 W) => (show Calls Tryz.prog 25 #[.agg #[.bool b6, .slice A6 n6 c6], .string ⟨#[116]⟩] W (fun e w' => e = .returned (.string ⟨#[49, 45, 51, 116, 43, 116, 94, 50]⟩) ∧ Below W.heap.size W w') from by
    have h := Text_any _ (some [(0, 1), (1, -3), (2, 1)]) [116] W (HP2.out.below hb) ⟨⟨by unfold Srt; simp, by simp⟩, ⟨by simp, by simp⟩⟩ (by simp) (HT.out.below (HB7.out.trans (hb.mono HB7.out.size)))
    rw [aw2_txt] at h; exact h))
  have y0 := HQ1b.out.cell 0
  have y1 := HQ1b.out.cell 1
  have K1 := Lib.hid (HX1.out w7 (Below.refl _ _))
  clear HX1
  go_wp2_with fail
  refine K1.out.mono ?_
  rintro e w8 ⟨rfl, hb8⟩
  have y2 := (HQ2.out.below hb8 HQ2.out.lt).cell 0
  have y3 := (HQ2.out.below hb8 HQ2.out.lt).cell 1
  have K2 := Lib.hid (HX2.out w8 hb8)
  have HB8 := Lib.hid hb8
  clear hb8 y0 y1 K1 HX2
  go_wp2_with fail
  refine K2.out.mono ?_
  rintro e w9 ⟨rfl, hb9⟩
  have HB9 := Lib.hid (HB8.out.trans (hb9.mono HB8.out.size))
  clear hb9 y2 y3 K2
  go_wp2_with fail
  go_ret
  exact ⟨rfl, HB7.out.trans (HB9.out.mono HB7.out.size)⟩
end Go.Proofs.YtjeklcgfffibpaaGreatDoor
