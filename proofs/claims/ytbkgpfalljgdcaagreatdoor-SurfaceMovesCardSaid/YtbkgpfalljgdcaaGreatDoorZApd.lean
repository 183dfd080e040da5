/- unravellaw38.awake. -/
/- Alexander's polynomial: plain lemmas that the laws share. -/
/- unravelref26.Transpose at a square matrix. -/
/- A region that draws its order, reads, calls (results known), appends one element to an own slice and hands the slice on to a slot. -/
import Derived.Test.YtbkgpfalljgdcaaGreatDoorZSfm
import Derived.Test.YtbkgpfalljgdcaaGreatDoorZSfa
import Derived.Test.YtbkgpfalljgdcaaGreatDoorZTxt
import Derived.Test.YtbkgpfalljgdcaaGreatDoorZDia
import Derived.Test.YtbkgpfalljgdcaaGreatDoorZTab
namespace Go.Proofs.YtbkgpfalljgdcaaGreatDoor
open Go.RowKit
set_option linter.unusedVariables false

/-- a polynomial that the value of the determinant tells -/
theorem alex_is {m : List (List Int)} {D : LP} {R : Pol} {w : World} (hs1 : sqM m = true) (hs2 : smM m = true) (hc : Can D) (hl : Lim D) (h0 : ∀ t ∈ D, 0 ≤ t.1) (hv : ∀ x, 1 ≤ x → evQ 0 x D = detE 0 (alM m) x) (hR : norP (some D) = R) {e : Ending} {w' : World} (h : AlxP m w e w') :
    ∃ v, e = .returned (.tuple #[v, .int .i64 0]) ∧ PolyV w' v R ∧ Below w.heap.size w w' := by
  obtain ⟨hb, h⟩ := h
  rcases h with ⟨h1, _⟩ | ⟨_, h1, _⟩ | ⟨_, _, h⟩
  · rw [hs1] at h1; cases h1
  · rw [hs2] at h1; cases h1
  · rcases h with ⟨v, p, he, hp, pc, pl, p0, pv⟩ | ⟨_, hno⟩
    · have e1 : p = D := evQ_inj pc hc (fun t ht => by have := p0 t ht; omega) (fun t ht => by have := h0 t ht; omega) fun x hx => (pv x hx).trans (hv x hx).symm
      subst e1
      rw [hR] at hp
      exact ⟨v, he, hp, hb⟩
    · exact absurd hv (fun hv => hno D hc hl h0 hv)
def aw1 : List (List Int) := [[-1, 0], [1, -1]]
def aw2 : List (List Int) := [[-1, 1], [0, 1]]
theorem aw1_m : sfM [1, 1, 1] (lsF 2 [1, 1, 1]) = aw1 := by decide +kernel
theorem aw2_m : sfM [1, -2, 1, -2] (lsF 3 [1, -2, 1, -2]) = aw2 := by decide +kernel
theorem aw1_al : alM aw1 = [[[(0, -1), (1, 1)], [(1, -1)]], [[(0, 1)], [(0, -1), (1, 1)]]] := by decide +kernel
theorem aw2_al : alM aw2 = [[[(0, -1), (1, 1)], [(0, 1)]], [[(1, -1)], [(0, 1), (1, -1)]]] := by decide +kernel
theorem aw1_det (x : Int) : evQ 0 x [(0, 1), (1, -1), (2, 1)] = detE 0 (alM aw1) x := by
  rw [aw1_al]
  simp [detE, dt, List.range', sumI, sgn, skp, evQ]
  grind
theorem aw2_det (x : Int) : evQ 0 x [(0, -1), (1, 3), (2, -1)] = detE 0 (alM aw2) x := by
  rw [aw2_al]
  simp [detE, dt, List.range', sumI, sgn, skp, evQ]
  grind
theorem aw1_nor : norP (some [(0, 1), (1, -1), (2, 1)]) = some [(0, 1), (1, -1), (2, 1)] := by decide +kernel
theorem aw2_nor : norP (some [(0, -1), (1, 3), (2, -1)]) = some [(0, 1), (1, -3), (2, 1)] := by decide +kernel
theorem aw1_txt : (⟨(txt [116] (some [(0, 1), (1, -1), (2, 1)])).toArray⟩ : ByteArray) = ⟨#[49, 45, 116, 43, 116, 94, 50]⟩ := by decide +kernel
theorem aw2_txt : (⟨(txt [116] (some [(0, 1), (1, -3), (2, 1)])).toArray⟩ : ByteArray) = ⟨#[49, 45, 51, 116, 43, 116, 94, 50]⟩ := by decide +kernel
theorem aw_mtx {N : Int} {W : List Int} {m : List (List Int)} {w w' : World} {e : Ending} (h1 : brV N W = true) (h2 : cnB N W) (h3 : (lsF N W).length ≤ 64) (hm : sfM W (lsF N W) = m) (h : MtxP N W w e w') : ∃ v, e = .returned (.tuple #[v, .int .i64 0]) ∧ MatI w' v m ∧ Below w.heap.size w w' := by
  obtain ⟨hb, h⟩ := h
  rcases h with ⟨q, _⟩ | ⟨_, q, _⟩ | ⟨_, _, q, _⟩ | ⟨_, _, _, v, he, hv⟩
  · rw [h1] at q; cases q
  · exact absurd h2 q
  · omega
  · rw [hm] at hv; exact ⟨v, he, hv, hb⟩
theorem cn1 : cnB 2 [1, 1, 1] := fun g h1 h2 => by
  have : g = 1 := by omega
  subst this; decide +kernel
theorem cn2 : cnB 3 [1, -2, 1, -2] := fun g h1 h2 => by
  have : g = 1 ∨ g = 2 := by omega
  rcases this with rfl | rfl <;> decide +kernel
set_option maxHeartbeats 4000000 in
set_option maxRecDepth 100000 in
theorem awake38 (w : World) (ht : Tb w) (ht6 : Tb6 w) : Calls Tryz.prog 5 #[] w fun e w' => e = .returned (.bool true) ∧ Below w.heap.size w w' := by
  have HT := Lib.hid ht
  have HT6 := Lib.hid ht6
  clear ht ht6
  have HM1 := Lib.hid (fun W vw (h : Ints W vw [1, 1, 1]) => (sMatrix_any 2 vw [1, 1, 1] W h (by simp) (by decide)).mono (fun e w' hd => aw_mtx (by decide) cn1 (by decide +kernel) aw1_m hd))
  have HM2 := Lib.hid (fun W vw (h : Ints W vw [1, -2, 1, -2]) => (sMatrix_any 3 vw [1, -2, 1, -2] W h (by simp) (by decide)).mono (fun e w' hd => aw_mtx (by decide) cn2 (by decide +kernel) aw2_m hd))
  have HA1 := Lib.hid (fun W v (h : MatI W v aw1) (ht : Tb6 W) => (Alexander_any v aw1 W h (by decide) (by decide) ht).mono (fun e w' hd => alex_is (by decide) (by decide) ⟨by unfold Srt; simp, by simp⟩ ⟨by simp, by simp⟩ (by simp) (fun x _ => aw1_det x) aw1_nor hd))
  have HA2 := Lib.hid (fun W v (h : MatI W v aw2) (ht : Tb6 W) => (Alexander_any v aw2 W h (by decide) (by decide) ht).mono (fun e w' hd => alex_is (by decide) (by decide) ⟨by unfold Srt; simp, by simp⟩ ⟨by simp, by simp⟩ (by simp) (fun x _ => aw2_det x) aw2_nor hd))
  go_enter Tryz.func5, Tryz.ntmps5
  have hal1 := (Below.refl w.heap.size w).alloc (Nat.le_refl _) (.cells #[.int .i64 1, .int .i64 1, .int .i64 1] 3)
  have H1 := Lib.hid (HM1.out _ _ (Ints.of_arr (xs := [1, 1, 1]) (Arr.new w 3 [.int .i64 1, .int .i64 1, .int .i64 1])))
  have HB1 := Lib.hid hal1
  clear hal1 HM1
  go_wp2_with fail
  refine H1.out.mono ?_
  rintro e w2 ⟨v1, rfl, hm1, hb2⟩
  have HB2 := Lib.hid (HB1.out.trans (hb2.mono HB1.out.size))
  have HV1 := Lib.hid (fun W (hb : Below w2.heap.size w2 W) => hm1.below hb)
  obtain ⟨A1, c1, rfl⟩ := hm1.form
  have hal2 := (Below.refl w2.heap.size w2).alloc (Nat.le_refl _) (.cells #[.int .i64 1, .int .i64 (-2), .int .i64 1, .int .i64 (-2)] 3)
  have H2 := Lib.hid (HM2.out _ _ (Ints.of_arr (xs := [1, -2, 1, -2]) (Arr.new w2 3 [.int .i64 1, .int .i64 (-2), .int .i64 1, .int .i64 (-2)])))
  have HC2 := Lib.hid hal2
  clear hal2 HM2 H1 hm1 hb2 HB1
  go_upto_region 2 with fail
  go_wp2_with fail
  refine H2.out.mono ?_
  rintro e w3 ⟨v2, rfl, hm2, hb3⟩
  have HC3 := Lib.hid (HC2.out.trans (hb3.mono HC2.out.size))
  have HB3 := Lib.hid (HB2.out.trans (HC3.out.mono HB2.out.size))
  have HV2 := Lib.hid (fun W (hb : Below w3.heap.size w3 W) => hm2.below hb)
  obtain ⟨A2, c2, rfl⟩ := hm2.form
  have H3 := Lib.hid (HA1.out w3 _ (HV1.out w3 HC3.out) (HT6.out.below HB3.out))
  clear hm2 hb3 H2 HC2 HA1
  go_upto_region 3 with fail
  go_wp2_with fail
  refine H3.out.mono ?_
  rintro e w4 ⟨p1, rfl, hp1, hb4⟩
  have HB4 := Lib.hid (HB3.out.trans (hb4.mono HB3.out.size))
  obtain ⟨b5, A5, n5, c5, rfl, -, -⟩ := hp1.parts
  have hal := (Below.refl w4.heap.size w4).alloc (Nat.le_refl _) (.cells #[.bool b5, .slice A5 n5 c5] 40)
  have HQ1 := Lib.hid (show Arr (w4.alloc (.cells #[.bool b5, .slice A5 n5 c5] 40)) w4.heap.size 40 [.bool b5, .slice A5 n5 c5] from Arr.new w4 _ [_, _])
  have HP1 := Lib.hid (hp1.below hal)
  have HB5 := Lib.hid (HB4.out.trans (hal.mono HB4.out.size))
  have H4 := Lib.hid (HA2.out _ _ (HV2.out _ (hb4.trans (hal.mono hb4.size))) (HT6.out.below HB5.out))
  clear hal hp1 hb4 H3 HA2 HB4
  go_upto_region 4 with fail
  generalize w4.alloc (.cells #[.bool b5, .slice A5 n5 c5] 40) = w5 at *
  generalize w4.heap.size = g5 at *
  go_wp2_with fail
  refine H4.out.mono ?_
  rintro e w6 ⟨p2, rfl, hp2, hb6⟩
  have HB6 := Lib.hid (HB5.out.trans (hb6.mono HB5.out.size))
  obtain ⟨b6, A6, n6, c6, rfl, -, -⟩ := hp2.parts
  have hal := (Below.refl w6.heap.size w6).alloc (Nat.le_refl _) (.cells #[.bool b6, .slice A6 n6 c6] 40)
  have hq1 := HQ1.out.below hb6 HQ1.out.lt
  have HQ1b := Lib.hid (hq1.below hal hq1.lt)
  have HP1b := Lib.hid ((HP1.out.below hb6).below hal)
  have HQ2 := Lib.hid (show Arr (w6.alloc (.cells #[.bool b6, .slice A6 n6 c6] 40)) w6.heap.size 40 [.bool b6, .slice A6 n6 c6] from Arr.new w6 _ [_, _])
  have HP2 := Lib.hid (hp2.below hal)
  have HB7 := Lib.hid (HB6.out.trans (hal.mono HB6.out.size))
  clear hal hp2 hb6 H4 HB6 hq1 HQ1 HP1 HB5
  go_upto_region 5 with fail
  generalize w6.alloc (.cells #[.bool b6, .slice A6 n6 c6] 40) = w7 at *
  generalize w6.heap.size = g7 at *
  have HX1 := Lib.hid (fun W (hb : Below w7.heap.size w7 W) => (show Calls Tryz.prog 17 #[.agg #[.bool b5, .slice A5 n5 c5], .string ⟨#[116]⟩] W (fun e w' => e = .returned (.string ⟨#[49, 45, 116, 43, 116, 94, 50]⟩) ∧ Below W.heap.size W w') from by
    have h := Text_any _ (some [(0, 1), (1, -1), (2, 1)]) [116] W (HP1b.out.below hb) ⟨⟨by unfold Srt; simp, by simp⟩, ⟨by simp, by simp⟩⟩ (by simp) (HT.out.below (HB7.out.trans (hb.mono HB7.out.size)))
    rw [aw1_txt] at h; exact h))
  have HX2 := Lib.hid (fun W (hb : Below w7.heap.size w7 W) => (show Calls Tryz.prog 17 #[.agg #[.bool b6, .slice A6 n6 c6], .string ⟨#[116]⟩] W (fun e w' => e = .returned (.string ⟨#[49, 45, 51, 116, 43, 116, 94, 50]⟩) ∧ Below W.heap.size W w') from by
    have h := Text_any _ (some [(0, 1), (1, -3), (2, 1)]) [116] W (HP2.out.below hb) ⟨⟨by unfold Srt; simp, by simp⟩, ⟨by simp, by simp⟩⟩ (by simp) (HT.out.below (HB7.out.trans (hb.mono HB7.out.size)))
    rw [aw2_txt] at h; exact h))
  have y0 := HQ1b.out.cell 0
  have y1 := HQ1b.out.cell 1
  have K1 := Lib.hid (HX1.out w7 (Below.refl _ _))
  clear HX1
  go_wp2_with fail
  refine K1.out.mono ?_
  rintro e w8 ⟨rfl, hb8⟩
  have y2 := (HQ2.out.below hb8 HQ2.out.lt).cell 0
  have y3 := (HQ2.out.below hb8 HQ2.out.lt).cell 1
  have K2 := Lib.hid (HX2.out w8 hb8)
  have HB8 := Lib.hid hb8
  clear hb8 y0 y1 K1 HX2
  go_wp2_with fail
  refine K2.out.mono ?_
  rintro e w9 ⟨rfl, hb9⟩
  have HB9 := Lib.hid (HB8.out.trans (hb9.mono HB8.out.size))
  clear hb9 y2 y3 K2
  go_wp2_with fail
  go_ret
  exact ⟨rfl, HB7.out.trans (HB9.out.mono HB7.out.size)⟩
end Go.Proofs.YtbkgpfalljgdcaaGreatDoor

namespace Go.Proofs.YtbkgpfalljgdcaaGreatDoor
open Go.RowKit
set_option linter.unusedVariables false

theorem ev2L (a b x : Int) : evQ 0 x (ofL 0 [a, b]) = a + b * x := by
  rw [evQ_ofL 0 x [a, b] 0 (by simp)]
  simp [ev]
  grind
theorem ev3L (a b c x : Int) : evQ 0 x (ofL 0 [a, b, c]) = a + b * x + c * x * x := by
  rw [evQ_ofL 0 x [a, b, c] 0 (by simp)]
  simp [ev]
  grind
theorem al_1 (a : Int) : alM [[a]] = [[ofL 0 [a, -a]]] := by
  simp [alM, alR, alE, gm, List.range_succ]
theorem al_2 (a b c d : Int) : alM [[a, b], [c, d]] = [[ofL 0 [a, -a], ofL 0 [b, -c]], [ofL 0 [c, -b], ofL 0 [d, -d]]] := by
  simp [alM, alR, alE, gm, List.range_succ]
theorem det_1 (a x : Int) : evQ 0 x (ofL 0 [a, -a]) = detE 0 (alM [[a]]) x := by
  rw [al_1]
  simp [detE, dt, sumI, sgn]
def cs2 (a b c d : Int) : List Int := [a * d - b * c, b * b + c * c - 2 * (a * d), a * d - b * c]
theorem det_2 (a b c d x : Int) : evQ 0 x (ofL 0 (cs2 a b c d)) = detE 0 (alM [[a, b], [c, d]]) x := by
  rw [al_2, cs2, ev3L]
  simp [detE, dt, List.range', sumI, sgn, skp, ev2L]
  grind
theorem cf_2L (a b e : Int) : cf (ofL 0 [a, b]) e = cf [(0, a), (1, b)] e := by
  by_cases h1 : a = 0 <;> by_cases h2 : b = 0 <;> simp [ofL, cf, h1, h2]
theorem cf_3L (a b c e : Int) : cf (ofL 0 [a, b, c]) e = cf [(0, a), (1, b), (2, c)] e := by
  by_cases h1 : a = 0 <;> by_cases h2 : b = 0 <;> by_cases h3 : c = 0 <;> simp [ofL, cf, h1, h2, h3]
theorem lim_ofL {cs : List Int} (hl : cs.length ≤ 3) (h : ∀ c ∈ cs, -1125899906842624 ≤ c ∧ c ≤ 1125899906842624) : Lim (ofL 0 cs) := by
  refine ofL_lim ?_
  have key : ∀ (cs : List Int) (low : Int), 0 ≤ low → low + cs.length ≤ 3 → (∀ c ∈ cs, -1125899906842624 ≤ c ∧ c ≤ 1125899906842624) → ofB low cs = true := by
    intro cs
    induction cs with
    | nil => intro low _ _ _; rfl
    | cons c cs ih =>
      intro low h0 h1 h2
      rw [List.length_cons] at h1
      rw [ofB, ih (low + 1) (by omega) (by omega) fun z hz => h2 z (List.mem_cons_of_mem _ hz)]
      have := h2 c (by simp)
      simp
      right
      omega
  exact key cs 0 (by omega) (by omega) h
theorem ofL_0 {cs : List Int} : ∀ t ∈ ofL 0 cs, 0 ≤ t.1 := fun t ht => (ofL_ge 0 cs t ht).1
theorem can_mvS {l : LP} (h : Can l) (n : Int) : Can (l.map (mvT (fun x => x + n))) := by
  refine ⟨?_, fun t ht => ?_⟩
  · unfold Srt
    rw [List.pairwise_map]
    exact h.srt.imp fun {a b} hab => by show a.1 + n < b.1 + n; omega
  · obtain ⟨s, hs, rfl⟩ := List.mem_map.1 ht
    exact h.nz s hs
theorem okP_mov (n : Int) {l : LP} (hc : Can l) (hl : Lim l) : okP (movP (fun e => e + n) (some l)) := by
  show okP (if (l.all fun t => wiB (t.1 + n) 1048576) = true then some (l.map (mvT fun e => e + n)) else none)
  split
  · next h =>
    refine ⟨can_mvS hc n, fun t ht => ?_, fun t ht => ?_⟩
    · obtain ⟨s, hs, rfl⟩ := List.mem_map.1 ht
      exact hl.co s hs
    · obtain ⟨s, hs, rfl⟩ := List.mem_map.1 ht
      exact wiB_iff.1 (List.all_eq_true.1 h s hs)
  · trivial
theorem okP_nor {l : LP} (hc : Can l) (hl : Lim l) : okP (norP (some l)) := by
  rw [norP_some]
  split
  · exact ⟨hc, hl⟩
  · refine okP_mov _ ?_ ?_
    · unfold nsL; split
      · exact negL_can hc
      · exact hc
    · unfold nsL; split
      · exact negL_lim hl
      · exact hl
theorem Zero5 (w : World) : Calls Tryz.prog 44 #[.agg #[.bool false, .slice none 0 0]] w fun e w' => e = .returned (.bool true) ∧ Below w.heap.size w w' :=
  Zero_any _ (some []) w (PolyV.zero w) ⟨Can.nil, Lim.nil⟩
theorem MatI.rowv5 {w : World} {A : Option Addr} {n c i : Nat} {m : List (List Int)} (h : MatI w (.slice A n c) m) (hi : i < m.length) : ∃ b1 o1 A2 c2, A = some ⟨b1, o1, none⟩ ∧ ∀ W, Below w.heap.size w W → W.cell? ⟨b1, o1 + i, none⟩ = some (.slice A2 m[i].length c2) := by
  obtain ⟨b1, o1, hA, -, u, hu, hrow⟩ := h.at_ hi
  obtain ⟨A2, c2, rfl, -, -⟩ := hrow
  exact ⟨b1, o1, A2, c2, hA, fun W hb => (hb.cell (block_lt_of_cell hu)).trans hu⟩
def LawT5 (w : World) (e : Ending) (w' : World) : Prop := e = .returned (.bool true) ∧ Below w.heap.size w w'
end Go.Proofs.YtbkgpfalljgdcaaGreatDoor

namespace Go.Proofs.YtbkgpfalljgdcaaGreatDoor
open Go.RowKit
set_option linter.unusedVariables false

def eI5 (x : Int) : List Value := [.int .i64 x]
theorem elI5 : ElA Tryz.prog 3 1 eI5 where
  ex := by
    obtain ⟨i, hi, hz, hs, hb⟩ := info_parts info_i64
    exact ⟨i, _, 8, hi, hz, hs, hb, rfl, by omega⟩
  pos := by omega
  len := fun x => rfl
  one := fun x q h => by unfold eI5 at h; simp at h; subst h; rfl
theorem elR5 : ElA Tryz.prog 22 1 eS where
  ex := by
    obtain ⟨i, hi, hz, hs, hb⟩ := info_parts info_isl
    exact ⟨i, _, 24, hi, hz, hs, hb, rfl, by omega⟩
  pos := by omega
  len := fun x => rfl
  one := fun x q h => by unfold eS at h; simp at h; subst h; rfl
theorem flat_eI5 (r : List Int) : r.flatMap eI5 = r.map (Value.int .i64) := by
  induction r with
  | nil => rfl
  | cons x r ih => rw [List.flatMap_cons, ih, List.map_cons]; rfl
theorem flat_eS5 (r : List SVt) : r.flatMap eS = r.map vS := by
  induction r with
  | nil => rfl
  | cons x r ih => rw [List.flatMap_cons, ih, List.map_cons]; rfl
theorem own5_ints {B : Nat} {w : World} {v : Value} {r : List Int} (h : OwnA 3 1 eI5 B w v r) : Ints w v r := by
  obtain ⟨A, c, e, hc, hx⟩ := h.sl
  refine ⟨A, c, e, hc, fun k x hk => hx k _ ?_⟩
  rw [flat_eI5, List.getElem?_map, hk]; rfl
theorem own5_mat {B : Nat} {w : World} {v : Value} {es : List SVt} {k : List (List Int)} (h : OwnA 22 1 eS B w v es) (hl : es.length = k.length) (hr : ∀ (j : Nat) s, es[j]? = some s → ∀ r, k[j]? = some r → Ints w (vS s) r) : MatI w v k := by
  obtain ⟨A, c, e, hc, hx⟩ := h.sl
  refine ⟨A, c, by rw [e, hl], by omega, fun i r hi => ?_⟩
  have hil : i < es.length := by have := (List.getElem?_eq_some_iff.1 hi).1; omega
  obtain ⟨b, o, hA, hcell⟩ := hx i (vS es[i]) (by rw [flat_eS5, List.getElem?_map, List.getElem?_eq_getElem hil]; rfl)
  exact ⟨b, o, hA, _, hcell, hr i _ (List.getElem?_eq_getElem hil) r hi⟩
def trR (m : List (List Int)) (i : Nat) : List Int := (List.range m.length).map fun k => gm m k i
def trM (m : List (List Int)) : List (List Int) := (List.range m.length).map (trR m)
theorem trM_length (m : List (List Int)) : (trM m).length = m.length := by simp [trM]
theorem trR_length (m : List (List Int)) (i : Nat) : (trR m i).length = m.length := by simp [trR]
theorem trM_get {m : List (List Int)} {i : Nat} (h : i < m.length) : (trM m)[i]? = some (trR m i) := by
  unfold trM; rw [List.getElem?_map, List.getElem?_range h]; rfl
theorem trR_get {m : List (List Int)} {i j : Nat} (h : j < m.length) : (trR m i)[j]? = some (gm m j i) := by
  unfold trR; rw [List.getElem?_map, List.getElem?_range h]; rfl
theorem trR_take {m : List (List Int)} {i j : Nat} (h : j < m.length) : (trR m i).take (j + 1) = (trR m i).take j ++ [gm m j i] := by
  rw [List.take_succ_eq_append_getElem (by rw [trR_length]; exact h)]
  congr 2
  have := trR_get (i := i) h
  rw [List.getElem?_eq_getElem (by rw [trR_length]; exact h)] at this
  injection this
theorem gm_tr {m : List (List Int)} {i j : Nat} (hi : i < m.length) (hj : j < m.length) : gm (trM m) i j = gm m j i := by
  unfold gm
  rw [trM_get hi, Option.getD_some, trR_get hj]; rfl
theorem trM_sq (m : List (List Int)) : sqM (trM m) = true := List.all_eq_true.2 fun r hr => decide_eq_true (by
  obtain ⟨i, _, rfl⟩ := List.mem_map.1 hr
  rw [trR_length, trM_length])
theorem sl5_one (w : World) (x : Int) : SlA eI5 (w.alloc (.cells #[.int .i64 x] 3)) (.slice (some ⟨w.heap.size, 0, none⟩) 1 1) [x] :=
  (OwnA.lit (e := 3) (sz := 1) (enc := eI5) (base := w.heap.size) (xs := [x]) (fun y _ => rfl) (Nat.le_refl _) (by simp) (by simp)).sl
theorem sl5_row (w : World) (s : SVt) : SlA eS (w.alloc (.cells #[vS s] 22)) (.slice (some ⟨w.heap.size, 0, none⟩) 1 1) [s] :=
  (OwnA.lit (e := 22) (sz := 1) (enc := eS) (base := w.heap.size) (xs := [s]) (fun y _ => rfl) (Nat.le_refl _) (by simp) (by simp)).sl
end Go.Proofs.YtbkgpfalljgdcaaGreatDoor

namespace Go.Proofs.YtbkgpfalljgdcaaGreatDoor
open Go.RowKit
set_option linter.unusedVariables false

section
variable {α : Type}
/-- c: the literal; a: the append; f: what hands the slice on -/
structure ApD (e : TypeId) (sz : Nat) (enc : α → List Value) (B : Nat) (w0 : World) (ev : Nat → Option Value) (c a f : Nat) (v0 : Value) (L LIT : List α) (D : Nat → Bool) (x : Nat → Value) (w : World) : Prop where
  kn : ∀ i v, ev i = some v → D i = true → x i = v
  old : D f = false → x f = v0
  pre : D a = false → D f = false → Below w0.heap.size w0 w
  lit : D c = true → D a = false → D f = false → OwnA e sz enc w0.heap.size w (x c) LIT
  mid : D a = true → D f = false → OwnA e sz enc B w (x a) (L ++ LIT) ∧ Kpt B w0 w v0 (x a)
  fin : D f = true → OwnA e sz enc B w (x f) (L ++ LIT) ∧ Kpt B w0 w v0 (x f)
variable {e : TypeId} {sz : Nat} {enc : α → List Value} {B : Nat} {w0 w w' : World} {ev : Nat → Option Value} {c a f : Nat} {v0 : Value} {L LIT : List α} {D : Nat → Bool} {x : Nat → Value}
theorem ApD.start (h : x f = v0) : ApD e sz enc B w0 ev c a f v0 L LIT (fun _ => false) x w0.drew :=
  ⟨fun i v _ h => Bool.noConfusion h, fun _ => h, fun _ _ => (Below.refl _ _).drew, fun h => Bool.noConfusion h, fun h => Bool.noConfusion h, fun h => Bool.noConfusion h⟩
theorem ApD.val (h : ApD e sz enc B w0 ev c a f v0 L LIT D x w) {i : Nat} {v : Value} (hv : ev i = some v) (h1 : i ≠ c) (h2 : i ≠ a) (h3 : i ≠ f) : ApD e sz enc B w0 ev c a f v0 L LIT (upd D i true) (upd x i v) w := by
  refine ⟨fun j u hu hd => ?_, fun d => (by rw [upd_ne _ _ (Ne.symm h3)] at d ⊢; exact h.old d), fun d1 d2 => ?_, fun d1 d2 d3 => ?_, fun d1 d2 => ?_, fun d => ?_⟩
  · by_cases e : j = i
    · subst e; rw [upd_same]; rw [hv] at hu; injection hu
    · rw [upd_ne _ _ e] at hd ⊢; exact h.kn j u hu hd
  · rw [upd_ne _ _ (Ne.symm h2)] at d1; rw [upd_ne _ _ (Ne.symm h3)] at d2; exact h.pre d1 d2
  · rw [upd_ne _ _ (Ne.symm h1)] at d1 ⊢; rw [upd_ne _ _ (Ne.symm h2)] at d2; rw [upd_ne _ _ (Ne.symm h3)] at d3; exact h.lit d1 d2 d3
  · rw [upd_ne _ _ (Ne.symm h2)] at d1 ⊢; rw [upd_ne _ _ (Ne.symm h3)] at d2; exact h.mid d1 d2
  · rw [upd_ne _ _ (Ne.symm h3)] at d ⊢; exact h.fin d
theorem ApD.call (h : ApD e sz enc B w0 ev c a f v0 L LIT D x w) {v : Value} (hev : ev c = none) (h1 : c ≠ a) (h2 : c ≠ f) (ha : D a = false) (hf : D f = false) (hb : Below w.heap.size w w') (ho : OwnA e sz enc w.heap.size w' v LIT) : ApD e sz enc B w0 ev c a f v0 L LIT (upd D c true) (upd x c v) w' := by
  have hp := h.pre ha hf
  refine ⟨fun j u hu hd => ?_, fun d => (by rw [upd_ne _ _ (Ne.symm h2)] at d ⊢; exact h.old d), fun d1 d2 => hp.trans (hb.mono hp.size), fun d1 d2 d3 => by rw [upd_same]; exact ho.low hp.size, fun d1 d2 => ?_, fun d => ?_⟩
  · have e : j ≠ c := fun e => (by rw [e, hev] at hu; cases hu)
    rw [upd_ne _ _ e] at hd ⊢; exact h.kn j u hu hd
  · rw [upd_ne _ _ (Ne.symm h1), ha] at d1; cases d1
  · rw [upd_ne _ _ (Ne.symm h2), hf] at d; cases d
theorem ApD.app {P : Program} (E : ElA P e sz enc) (h : ApD e sz enc B w0 ev c a f v0 L LIT D x w) {o : Oper} {b : Act} (sx ux : Operand) (t t2 : TypeId) (ho : o.op = .call { callee := .builtin .append, args := #[sx, ux], argTypes := #[t, t2] })
    (ht : P.underlying t = some (.slice e)) (ht2 : P.underlying t2 = some (.slice e)) (hev : ev a = none) (hca : c ≠ a) (haf : a ≠ f) (hc : D c = true) (ha : D a = false) (hf : D f = false)
    (he1 : b.eval sx = v0) (he2 : b.eval ux = x c) (hv0 : OwnA e sz enc B w0 v0 L) (hB : B ≤ w0.heap.size) (hlen : L.length + LIT.length ≤ 100000000) : o.wp P b w (StepPost (ApD e sz enc B w0 ev c a f v0 L LIT) D x a b o.dst) NoQ := by
  have hp := h.pre ha hf
  have hl := h.lit hc ha hf
  refine wp_appA (P := P) (base := B) E sx ux t t2 ho ht ht2 he1 (hv0.below hp) he2 hl.sl (by omega) (Nat.le_trans hB hp.size) ?_
  intro v' w' h1 h2 h3 h4
  refine ⟨v', rfl, fun j u hu hd => ?_, fun d => (by rw [upd_ne _ _ (Ne.symm haf)] at d ⊢; exact h.old d), fun d1 d2 => ?_, fun d1 d2 d3 => ?_, fun d1 d2 => ?_, fun d => ?_⟩
  · have e : j ≠ a := fun e => (by rw [e, hev] at hu; cases hu)
    rw [upd_ne _ _ e] at hd ⊢; exact h.kn j u hu hd
  · rw [upd_same] at d1; cases d1
  · rw [upd_same] at d2; cases d2
  · rw [upd_same]
    refine ⟨h1, (hp.mono hB).trans h2, fun k hk hne => (h3 k (Nat.lt_of_lt_of_le hk hp.size) hne).trans (hp.block k hk), fun k hk => ?_⟩
    rcases h4 with q | q
    · rw [q] at hk; exact .inl hk
    · rw [q] at hk
      injection hk with hk
      subst hk
      exact .inr hp.size
  · rw [upd_ne _ _ (Ne.symm haf), hf] at d; cases d
theorem ApD.last (h : ApD e sz enc B w0 ev c a f v0 L LIT D x w) (hev : ev f = none) (ha : D a = true) (hf : D f = false) {v : Value} (hv : v = x a) : ApD e sz enc B w0 ev c a f v0 L LIT (upd D f true) (upd x f v) w := by
  subst hv
  obtain ⟨m1, m2⟩ := h.mid ha hf
  refine ⟨fun j u hu hd => ?_, fun d => (by rw [upd_same] at d; cases d), fun d1 d2 => ?_, fun d1 d2 d3 => ?_, fun d1 d2 => ?_, fun d => by rw [upd_same]; exact ⟨m1, m2⟩⟩
  · have e : j ≠ f := fun e => (by rw [e, hev] at hu; cases hu)
    rw [upd_ne _ _ e] at hd ⊢; exact h.kn j u hu hd
  · rw [upd_same] at d2; cases d2
  · rw [upd_same] at d3; cases d3
  · rw [upd_same] at d2; cases d2
/-- an operation of a known value that makes memory, before the append -/
theorem ApD.grow (h : ApD e sz enc B w0 ev c a f v0 L LIT D x w) {i : Nat} {v : Value} (hv : ev i = some v) (h1 : i ≠ c) (h2 : i ≠ a) (h3 : i ≠ f) (ha : D a = false) (hf : D f = false) (hb : Below w.heap.size w w') : ApD e sz enc B w0 ev c a f v0 L LIT (upd D i true) (upd x i v) w' := by
  have hp := h.pre ha hf
  refine ⟨fun j u hu hd => ?_, fun d => (by rw [upd_ne _ _ (Ne.symm h3)] at d ⊢; exact h.old d), fun d1 d2 => hp.trans (hb.mono hp.size), fun d1 d2 d3 => ?_, fun d1 d2 => ?_, fun d => ?_⟩
  · by_cases e : j = i
    · subst e; rw [upd_same]; rw [hv] at hu; injection hu
    · rw [upd_ne _ _ e] at hd ⊢; exact h.kn j u hu hd
  · rw [upd_ne _ _ (Ne.symm h1)] at d1 ⊢; exact (h.lit d1 ha hf).below hb
  · rw [upd_ne _ _ (Ne.symm h2), ha] at d1; cases d1
  · rw [upd_ne _ _ (Ne.symm h3), hf] at d; cases d
/-- a block that the append does not write, at any time before the store -/
theorem ApD.arrK (h : ApD e sz enc B w0 ev c a f v0 L LIT D x w) (hf : D f = false) {g : Nat} {t : TypeId} {cs : List Value} (hg : Arr w0 g t cs) (hne : v0.ownBlock ≠ some g) : Arr w g t cs := by
  cases ha : D a with
  | false => exact hg.below (h.pre ha hf) hg.lt
  | true => exact (h.mid ha hf).2.arr hg hne
end
end Go.Proofs.YtbkgpfalljgdcaaGreatDoor
