/- unravellaw38.awake. -/
/- surface.Symmetrized; unravelref26.Abs. -/
import Derived.Test.YtjeklcgfffibpaaGreatDoorZSfm
import Derived.Test.YtjeklcgfffibpaaGreatDoorZSfa
import Derived.Test.YtjeklcgfffibpaaGreatDoorZTxt
import Derived.Test.YtjeklcgfffibpaaGreatDoorZSfp
import Derived.Test.YtjeklcgfffibpaaGreatDoorZMvs
namespace Go.Proofs.YtjeklcgfffibpaaGreatDoor
open Go.RowKit
set_option linter.unusedVariables false

/-- a polynomial that the value of the determinant tells -/
theorem alex_is {m : List (List Int)} {D : LP} {R : Pol} {w : World} (hs1 : sqM m = true) (hs2 : smM m = true) (hc : Can D) (hl : Lim D) (h0 : ∀ t ∈ D, 0 ≤ t.1) (hv : ∀ x, 1 ≤ x → evQ 0 x D = detE 0 (alM m) x) (hR : norP (some D) = R) {e : Ending} {w' : World} (h : AlxP m w e w') :
    ∃ v, e = .returned (.tuple #[v, .int .i64 0]) ∧ PolyV w' v R ∧ Below w.heap.size w w' := by
  obtain ⟨hb, h⟩ := h
  rcases h with ⟨h1, _⟩ | ⟨_, h1, _⟩ | ⟨_, _, h⟩
  · rw [hs1] at h1; cases h1
  · rw [hs2] at h1; cases h1
  · rcases h with ⟨v, p, he, hp, pc, pl, p0, pv⟩ | ⟨_, hno⟩
    · have e1 : p = D := evQ_inj pc hc (fun t ht => by have := p0 t ht; omega) (fun t ht => by have := h0 t ht; omega) fun x hx => (pv x hx).trans (hv x hx).symm
      subst e1
      rw [hR] at hp
      exact ⟨v, he, hp, hb⟩
    · exact absurd hv (fun hv => hno D hc hl h0 hv)
def aw1 : List (List Int) := [[-1, 0], [1, -1]]
def aw2 : List (List Int) := [[-1, 1], [0, 1]]
theorem aw1_m : sfM [1, 1, 1] (lsF 2 [1, 1, 1]) = aw1 := by decide +kernel
theorem aw2_m : sfM [1, -2, 1, -2] (lsF 3 [1, -2, 1, -2]) = aw2 := by decide +kernel
theorem aw1_al : alM aw1 = [[[(0, -1), (1, 1)], [(1, -1)]], [[(0, 1)], [(0, -1), (1, 1)]]] := by decide +kernel
theorem aw2_al : alM aw2 = [[[(0, -1), (1, 1)], [(0, 1)]], [[(1, -1)], [(0, 1), (1, -1)]]] := by decide +kernel
theorem aw1_det (x : Int) : evQ 0 x [(0, 1), (1, -1), (2, 1)] = detE 0 (alM aw1) x := by
  rw [aw1_al]
  simp [detE, dt, List.range', sumI, sgn, skp, evQ]
  grind
theorem aw2_det (x : Int) : evQ 0 x [(0, -1), (1, 3), (2, -1)] = detE 0 (alM aw2) x := by
  rw [aw2_al]
  simp [detE, dt, List.range', sumI, sgn, skp, evQ]
  grind
theorem aw1_nor : norP (some [(0, 1), (1, -1), (2, 1)]) = some [(0, 1), (1, -1), (2, 1)] := by decide +kernel
theorem aw2_nor : norP (some [(0, -1), (1, 3), (2, -1)]) = some [(0, 1), (1, -3), (2, 1)] := by decide +kernel
theorem aw1_txt : (⟨(txt [116] (some [(0, 1), (1, -1), (2, 1)])).toArray⟩ : ByteArray) = ⟨#[49, 45, 116, 43, 116, 94, 50]⟩ := by decide +kernel
theorem aw2_txt : (⟨(txt [116] (some [(0, 1), (1, -3), (2, 1)])).toArray⟩ : ByteArray) = ⟨#[49, 45, 51, 116, 43, 116, 94, 50]⟩ := by decide +kernel
theorem aw_mtx {N : Int} {W : List Int} {m : List (List Int)} {w w' : World} {e : Ending} (h1 : brV N W = true) (h2 : cnB N W) (h3 : (lsF N W).length ≤ 64) (hm : sfM W (lsF N W) = m) (h : MtxP N W w e w') : ∃ v, e = .returned (.tuple #[v, .int .i64 0]) ∧ MatI w' v m ∧ Below w.heap.size w w' := by
  obtain ⟨hb, h⟩ := h
  rcases h with ⟨q, _⟩ | ⟨_, q, _⟩ | ⟨_, _, q, _⟩ | ⟨_, _, _, v, he, hv⟩
  · rw [h1] at q; cases q
  · exact absurd h2 q
  · omega
  · rw [hm] at hv; exact ⟨v, he, hv, hb⟩
theorem cn1 : cnB 2 [1, 1, 1] := fun g h1 h2 => by
  have : g = 1 := by omega
  subst this; decide +kernel
theorem cn2 : cnB 3 [1, -2, 1, -2] := fun g h1 h2 => by
  have : g = 1 ∨ g = 2 := by omega
  rcases this with rfl | rfl <;> decide +kernel
set_option maxHeartbeats 4000000 in
set_option maxRecDepth 100000 in
theorem awake38 (w : World) (ht : Tb w) (ht6 : Tb6 w) : Calls Tryz.prog 7 #[] w fun e w' => e = .returned (.bool true) ∧ Below w.heap.size w w' := by
  have HT := Lib.hid ht
  have HT6 := Lib.hid ht6
  clear ht ht6
  have HM1 := Lib.hid (fun W vw (h : Ints W vw [1, 1, 1]) => (sMatrix_any 2 vw [1, 1, 1] W h (by simp) (by decide)).mono (fun e w' hd => aw_mtx (by decide) cn1 (by decide +kernel) aw1_m hd))
  have HM2 := Lib.hid (fun W vw (h : Ints W vw [1, -2, 1, -2]) => (sMatrix_any 3 vw [1, -2, 1, -2] W h (by simp) (by decide)).mono (fun e w' hd => aw_mtx (by decide) cn2 (by decide +kernel) aw2_m hd))
  have HA1 := Lib.hid (fun W v (h : MatI W v aw1) (ht : Tb6 W) => (Alexander_any v aw1 W h (by decide) (by decide) ht).mono (fun e w' hd => alex_is (by decide) (by decide) ⟨by unfold Srt; simp, by simp⟩ ⟨by simp, by simp⟩ (by simp) (fun x _ => aw1_det x) aw1_nor hd))
  have HA2 := Lib.hid (fun W v (h : MatI W v aw2) (ht : Tb6 W) => (Alexander_any v aw2 W h (by decide) (by decide) ht).mono (fun e w' hd => alex_is (by decide) (by decide) ⟨by unfold Srt; simp, by simp⟩ ⟨by simp, by simp⟩ (by simp) (fun x _ => aw2_det x) aw2_nor hd))
  go_enter Tryz.func7, Tryz.ntmps7
  have hal1 := (Below.refl w.heap.size w).alloc (Nat.le_refl _) (.cells #[.int .i64 1, .int .i64 1, .int .i64 1] 3)
  have H1 := Lib.hid (HM1.out _ _ (Ints.of_arr (xs := [1, 1, 1]) (Arr.new w 3 [.int .i64 1, .int .i64 1, .int .i64 1])))
  have HB1 := Lib.hid hal1
  clear hal1 HM1
  go_wp2_with fail
  refine H1.out.mono ?_
  rintro e w2 ⟨v1, rfl, hm1, hb2⟩
  have HB2 := Lib.hid (HB1.out.trans (hb2.mono HB1.out.size))
  have HV1 := Lib.hid (fun W (hb : Below w2.heap.size w2 W) => hm1.below hb)
  obtain ⟨A1, c1, rfl⟩ := hm1.form
  have hal2 := (Below.refl w2.heap.size w2).alloc (Nat.le_refl _) (.cells #[.int .i64 1, .int .i64 (-2), .int .i64 1, .int .i64 (-2)] 3)
  have H2 := Lib.hid (HM2.out _ _ (Ints.of_arr (xs := [1, -2, 1, -2]) (Arr.new w2 3 [.int .i64 1, .int .i64 (-2), .int .i64 1, .int .i64 (-2)])))
  have HC2 := Lib.hid hal2
  clear hal2 HM2 H1 hm1 hb2 HB1
  go_upto_region 2 with fail
  go_wp2_with fail
  refine H2.out.mono ?_
  rintro e w3 ⟨v2, rfl, hm2, hb3⟩
  have HC3 := Lib.hid (HC2.out.trans (hb3.mono HC2.out.size))
  have HB3 := Lib.hid (HB2.out.trans (HC3.out.mono HB2.out.size))
  have HV2 := Lib.hid (fun W (hb : Below w3.heap.size w3 W) => hm2.below hb)
  obtain ⟨A2, c2, rfl⟩ := hm2.form
  have H3 := Lib.hid (HA1.out w3 _ (HV1.out w3 HC3.out) (HT6.out.below HB3.out))
  clear hm2 hb3 H2 HC2 HA1
  go_upto_region 3 with fail
  go_wp2_with fail
  refine H3.out.mono ?_
  rintro e w4 ⟨p1, rfl, hp1, hb4⟩
  have HB4 := Lib.hid (HB3.out.trans (hb4.mono HB3.out.size))
  obtain ⟨b5, A5, n5, c5, rfl, -, -⟩ := hp1.parts
  have hal := (Below.refl w4.heap.size w4).alloc (Nat.le_refl _) (.cells #[.bool b5, .slice A5 n5 c5] 39)
  have HQ1 := Lib.hid (show Arr (w4.alloc (.cells #[.bool b5, .slice A5 n5 c5] 39)) w4.heap.size 39 [.bool b5, .slice A5 n5 c5] from Arr.new w4 _ [_, _])
  have HP1 := Lib.hid (hp1.below hal)
  have HB5 := Lib.hid (HB4.out.trans (hal.mono HB4.out.size))
  have H4 := Lib.hid (HA2.out _ _ (HV2.out _ (hb4.trans (hal.mono hb4.size))) (HT6.out.below HB5.out))
  clear hal hp1 hb4 H3 HA2 HB4
  go_upto_region 4 with fail
  generalize w4.alloc (.cells #[.bool b5, .slice A5 n5 c5] 39) = w5 at *
  generalize w4.heap.size = g5 at *
  go_wp2_with fail
  refine H4.out.mono ?_
  rintro e w6 ⟨p2, rfl, hp2, hb6⟩
  have HB6 := Lib.hid (HB5.out.trans (hb6.mono HB5.out.size))
  obtain ⟨b6, A6, n6, c6, rfl, -, -⟩ := hp2.parts
  have hal := (Below.refl w6.heap.size w6).alloc (Nat.le_refl _) (.cells #[.bool b6, .slice A6 n6 c6] 39)
  have hq1 := HQ1.out.below hb6 HQ1.out.lt
  have HQ1b := Lib.hid (hq1.below hal hq1.lt)
  have HP1b := Lib.hid ((HP1.out.below hb6).below hal)
  have HQ2 := Lib.hid (show Arr (w6.alloc (.cells #[.bool b6, .slice A6 n6 c6] 39)) w6.heap.size 39 [.bool b6, .slice A6 n6 c6] from Arr.new w6 _ [_, _])
  have HP2 := Lib.hid (hp2.below hal)
  have HB7 := Lib.hid (HB6.out.trans (hal.mono HB6.out.size))
  clear hal hp2 hb6 H4 HB6 hq1 HQ1 HP1 HB5
  go_upto_region 5 with fail
  generalize w6.alloc (.cells #[.bool b6, .slice A6 n6 c6] 39) = w7 at *
  generalize w6.heap.size = g7 at *
  have HX1 := Lib.hid (fun W (hb : Below w7.heap.size w7 W) => (show Calls Tryz.prog 25 #[.agg #[.bool b5, .slice A5 n5 c5], .string ⟨#[116]⟩] W (fun e w' => e = .returned (.string ⟨#[49, 45, 116, 43, 116, 94, 50]⟩) ∧ Below W.heap.size W w') from by
    have h := Text_any _ (some [(0, 1), (1, -1), (2, 1)]) [116] W (HP1b.out.below hb) ⟨⟨by unfold Srt; simp, by simp⟩, ⟨by simp, by simp⟩⟩ (by simp) (HT.out.below (HB7.out.trans (hb.mono HB7.out.size)))
    rw [aw1_txt] at h; exact h))
  have HX2 := Lib.hid (fun W (hb : Below w7.heap.size w7 W) => (show Calls Tryz.prog 25 #[.agg #[.bool b6, .slice A6 n6 c6], .string ⟨#[116]⟩] W (fun e w' => e = .returned (.string ⟨#[49, 45, 51, 116, 43, 116, 94, 50]⟩) ∧ Below W.heap.size W w') from by
    have h := Text_any _ (some [(0, 1), (1, -3), (2, 1)]) [116] W (HP2.out.below hb) ⟨⟨by unfold Srt; simp, by simp⟩, ⟨by simp, by simp⟩⟩ (by simp) (HT.out.below (HB7.out.trans (hb.mono HB7.out.size)))
    rw [aw2_txt] at h; exact h))
  have y0 := HQ1b.out.cell 0
  have y1 := HQ1b.out.cell 1
  have K1 := Lib.hid (HX1.out w7 (Below.refl _ _))
  clear HX1
  go_wp2_with fail
  refine K1.out.mono ?_
  rintro e w8 ⟨rfl, hb8⟩
  have y2 := (HQ2.out.below hb8 HQ2.out.lt).cell 0
  have y3 := (HQ2.out.below hb8 HQ2.out.lt).cell 1
  have K2 := Lib.hid (HX2.out w8 hb8)
  have HB8 := Lib.hid hb8
  clear hb8 y0 y1 K1 HX2
  go_wp2_with fail
  refine K2.out.mono ?_
  rintro e w9 ⟨rfl, hb9⟩
  have HB9 := Lib.hid (HB8.out.trans (hb9.mono HB8.out.size))
  clear hb9 y2 y3 K2
  go_wp2_with fail
  go_ret
  exact ⟨rfl, HB7.out.trans (HB9.out.mono HB7.out.size)⟩
end Go.Proofs.YtjeklcgfffibpaaGreatDoor

namespace Go.Proofs.YtjeklcgfffibpaaGreatDoor
open Go.RowKit
set_option linter.unusedVariables false

def eZ (x : Int) : List Value := [.int .i64 x]
theorem elZ : ElA Tryz.prog 3 1 eZ where
  ex := by
    obtain ⟨i, hi, hz, hs, hb⟩ := info_parts info_i64
    exact ⟨i, _, 8, hi, hz, hs, hb, rfl, by omega⟩
  pos := by omega
  len := fun x => rfl
  one := fun x q h => by unfold eZ at h; simp at h; subst h; rfl
/-- a slice of integers of the call's own -/
abbrev OwnZi (B : Nat) (w : World) (v : Value) (r : List Int) : Prop := OwnA 3 1 eZ B w v r
theorem OwnA.ints {B : Nat} {w : World} {v : Value} {r : List Int} (h : OwnA 3 1 eZ B w v r) : Ints w v r := by
  obtain ⟨A, c, e, hc, hx⟩ := h.sl
  refine ⟨A, c, e, hc, fun k x hk => ?_⟩
  have hkl : k < r.length := (List.getElem?_eq_some_iff.1 hk).1
  have q := flat_get (enc := eZ) (sz := 1) (fun _ => rfl) r k 0 hkl (by omega)
  obtain ⟨b, o, hA, hcell⟩ := hx _ _ (q.trans rfl)
  refine ⟨b, o, hA, ?_⟩
  rw [List.getElem?_eq_getElem hkl] at hk
  injection hk with hk
  rw [← hk]
  simpa using hcell
/-- the rows before i are made -/
structure HnI (n gE B : Nat) (m : List (List Int)) (i : Nat) (es : List SVt) (w : World) : Prop where
  len : es.length = i
  outer : Arr w gE 22 (es.map vS ++ List.replicate (n - i) (.slice none 0 0))
  row : ∀ (k : Nat) s r, es[k]? = some s → m[k]? = some r → OwnZi B w (vS s) r
theorem HnI.start {n gE B : Nat} {m : List (List Int)} {w : World} (h : Arr w gE 22 (List.replicate n (.slice none 0 0))) : HnI n gE B m 0 [] w := ⟨rfl, by simpa using h, fun k s r h => by simp at h⟩
theorem HnI.end_ {n gE B : Nat} {m : List (List Int)} {es : List SVt} {w : World} (h : HnI n gE B m n es w) (hm : m.length = n) : MatI w (.slice (some ⟨gE, 0, none⟩) n n) m := by
  refine ⟨some ⟨gE, 0, none⟩, n, by rw [hm], by omega, fun i r hr => ⟨gE, 0, rfl, ?_⟩⟩
  have hi : i < es.length := by rw [h.len, ← hm]; exact (List.getElem?_eq_some_iff.1 hr).1
  refine ⟨vS es[i], ?_, (h.row i _ r (List.getElem?_eq_getElem hi) hr).ints⟩
  rw [Nat.zero_add, h.outer.cell, Nat.sub_self, List.replicate_zero, List.append_nil, List.getElem?_map, List.getElem?_eq_getElem hi]; rfl
structure HnJ (n gE : Nat) (Wi : World) (i : Nat) (es : List SVt) (r : List Int) (s : SVt) (w : World) : Prop where
  outer : Arr w gE 22 (es.map vS ++ vS s :: List.replicate (n - (i + 1)) (.slice none 0 0))
  own : OwnZi Wi.heap.size w (vS s) r
  wr : Wr [gE] Wi w
theorem HnI.open_ {n gE B i : Nat} {m : List (List Int)} {es : List SVt} {w : World} (h : HnI n gE B m i es w) (hi : i < n) : HnJ n gE w i es [] (none, 0, 0) w := by
  refine ⟨?_, OwnA.nil _ _ _ _ _, Wr.refl _ _⟩
  have := h.outer
  rwa [show n - i = (n - (i + 1)) + 1 by omega, List.replicate_succ] at this
theorem HnJ.close {n gE B i : Nat} {m : List (List Int)} {es : List SVt} {Wi w : World} {r : List Int} {s : SVt} (h : HnI n gE B m i es Wi) (k : HnJ n gE Wi i es r s w) (hr : m[i]? = some r) (hB : B ≤ Wi.heap.size) : HnI n gE B m (i + 1) (es ++ [s]) w := by
  refine ⟨by simp [h.len], ?_, fun k' s' r' hs hr' => ?_⟩
  · have := k.outer
    rw [List.map_append, List.append_assoc]
    exact this
  · rw [List.getElem?_append] at hs
    split at hs
    · exact (h.row k' s' r' hs hr').wr h.outer (by decide) k.wr
    · next q =>
      have hl := (List.getElem?_eq_some_iff.1 hs).1
      simp at hl
      have e : k' = i := by have := h.len; omega
      subst e
      rw [h.len, Nat.sub_self] at hs
      simp at hs
      rw [hr] at hr'
      injection hr' with e2
      subst e2; subst hs
      exact k.own.low hB
theorem HnJ.next {n gE i : Nat} {Wi w6 wS : World} {es : List SVt} {r : List Int} {s : SVt} {x : Int} {v : Value} (hi : es.length = i)
    (hou : Arr w6 gE 22 (es.map vS ++ vS s :: List.replicate (n - (i + 1)) (.slice none 0 0))) (hwr : Wr [gE] Wi w6)
    (hown : OwnZi Wi.heap.size w6 (vS s) r) (ho : OwnZi Wi.heap.size wS v (r ++ [x])) (hk : Kpt Wi.heap.size w6 wS (vS s) v) :
    ∃ s', v = vS s' ∧ HnJ n gE Wi i es (r ++ [x]) s' (wS.setCell ⟨gE, i, none⟩ v) := by
  obtain ⟨A, c, rfl⟩ := ho.form
  have ho' := hk.arr hou (hown.apartT hou (by decide))
  have hset := ho'.set i (.slice A (r ++ [x]).length c)
  rw [List.set_append_right i _ (by simp [hi]), List.length_map, hi, Nat.sub_self, List.set_cons_zero] at hset
  have hw : Wr [gE] wS (wS.setCell ⟨gE, i, none⟩ (.slice A (r ++ [x]).length c)) := Wr.of_onl ((Onl.refl gE wS).setCell i _) (List.mem_singleton.2 rfl)
  exact ⟨(A, (r ++ [x]).length, c), rfl, hset, ho.wr ho' (by decide) hw, (hwr.then_below hk.bel).trans hw⟩
def symR (m : List (List Int)) (i : Nat) : List Int := (List.range m.length).map fun j => gm m i j + gm m j i
def symM (m : List (List Int)) : List (List Int) := (List.range m.length).map (symR m)
theorem symM_length (m : List (List Int)) : (symM m).length = m.length := by simp [symM]
theorem symR_length (m : List (List Int)) (i : Nat) : (symR m i).length = m.length := by simp [symR]
theorem symM_get {m : List (List Int)} {i : Nat} (h : i < m.length) : (symM m)[i]? = some (symR m i) := by
  unfold symM; rw [List.getElem?_map, List.getElem?_range h]; rfl
theorem symR_get {m : List (List Int)} {i j : Nat} (h : j < m.length) : (symR m i)[j]? = some (gm m i j + gm m j i) := by
  unfold symR; rw [List.getElem?_map, List.getElem?_range h]; rfl
theorem symR_take {m : List (List Int)} {i j : Nat} (h : j < m.length) : (symR m i).take (j + 1) = (symR m i).take j ++ [gm m i j + gm m j i] := by
  rw [List.take_succ_eq_append_getElem (by rw [symR_length]; exact h)]
  congr 2
  have := symR_get (i := i) h
  rw [List.getElem?_eq_getElem (by rw [symR_length]; exact h)] at this
  injection this
/-- what Symmetrized returns -/
def SymP (m : List (List Int)) (w : World) (e : Ending) (w' : World) : Prop :=
  Below w.heap.size w w' ∧
    ((sqM m = false ∧ e = .returned (.tuple #[.slice none 0 0, .int .i64 1])) ∨
     (sqM m = true ∧ (smM m = false ∨ smM (symM m) = false) ∧ e = .returned (.tuple #[.slice none 0 0, .int .i64 9])) ∨
     (sqM m = true ∧ smM m = true ∧ smM (symM m) = true ∧ ∃ v, e = .returned (.tuple #[v, .int .i64 0]) ∧ MatI w' v (symM m)))
set_option maxHeartbeats 8000000 in
set_option maxRecDepth 100000 in
theorem Symmetrized_any (v : Value) (m : List (List Int)) (w : World) (h : MatI w v m) (hn : m.length ≤ 12) (hr : ∀ r ∈ m, r.length ≤ 9223372036854775807) :
    Calls Tryz.prog 23 #[v] w (SymP m w) := by
  have HSQA := Lib.hid (square_any v m w h (by omega) hr)
  have HSMA := Lib.hid (fun W (hb : Below w.heap.size w W) => small_any v m W (h.below hb) (by omega) hr)
  have HSMB := Lib.hid (fun W v (h : MatI W v (symM m)) => small_any v (symM m) W h (by rw [symM_length]; omega) (fun r hr => by
    obtain ⟨i, _, rfl⟩ := List.mem_map.1 hr
    rw [symR_length]; omega))
  have HM := Lib.hid h
  obtain ⟨A, c, rfl⟩ := h.form
  obtain ⟨n, hnn⟩ : ∃ n, n = m.length := ⟨_, rfl⟩
  rw [← hnn] at hn HSQA HSMA HM ⊢
  have HN := Lib.hid hnn
  clear h hr hnn
  go_enter Tryz.func23, Tryz.ntmps23
  obtain ⟨sq, hsq⟩ : ∃ b, b = sqM m := ⟨_, rfl⟩
  rw [← hsq] at HSQA
  have HSQ := Lib.hid hsq
  clear hsq
  go_upto_if 9 with (go_at_call 31; refine HSQA.out.mono ?_; rintro e w4 ⟨rfl, hb4⟩)
  have HB4 := Lib.hid hb4
  clear hb4 HSQA
  cases sq with
  | false =>
    go_wp2_with fail
    go_ret2
    exact ⟨HB4.out, .inl ⟨HSQ.out.symm, rfl⟩⟩
  | true =>
    obtain ⟨sm, hsm⟩ : ∃ b, b = smM m := ⟨_, rfl⟩
    rw [← hsm] at HSMA
    have HSM := Lib.hid hsm
    clear hsm
    go_upto_if 12 with (go_at_call 32; refine (HSMA.out _ HB4.out).mono ?_; rintro e w5 ⟨rfl, hb5⟩)
    have HB5 := Lib.hid (HB4.out.trans (hb5.mono HB4.out.size))
    clear hb5 HSMA HB4
    cases sm with
    | false =>
      go_wp2_with fail
      go_ret2
      exact ⟨HB5.out, .inr (.inl ⟨HSQ.out.symm, .inl HSM.out.symm, rfl⟩)⟩
    | true =>
      have hmk := fun W => mk_rowsZ n (by omega) W
      have hAl := (Below.refl w5.heap.size w5).alloc (Nat.le_refl _) (.cells (rowOf (List.replicate n (.slice none 0 0))) 22)
      have HE0 := Lib.hid (HnI.start (B := w.heap.size) (m := symM m) (Arr.new w5 22 (List.replicate n (.slice none 0 0))))
      have HB6 := Lib.hid (HB5.out.trans (hAl.mono HB5.out.size))
      have HGE := Lib.hid (show w.heap.size ≤ w5.heap.size from HB5.out.size)
      clear hAl
      go_upto_region 6 with fail
      generalize w5.alloc (.cells (rowOf (List.replicate n (.slice none 0 0))) 22) = w6 at *
      generalize w5.heap.size = gE at *
      clear hmk HB5
      go_upto_region 7 with fail
      go_loopg [5, 6, 18] n (fun gk s5 s6 s18 wr => ∃ (ix : Nat) (es : List SVt), ix ≤ n ∧ gk = n - ix ∧ s18 = .int .i64 (ix : Int) ∧ HnI n gE w.heap.size (symM m) ix es wr ∧ Wr [gE] w6 wr)
      case atStart => exact ⟨0, [], by omega, rfl, rfl, HE0.out, Wr.refl _ _⟩
      case round =>
        clear HE0
        obtain ⟨ix, es, hix, rfl, rfl, hen, hwr⟩ := hrel
        obtain ⟨wo, rfl⟩ : ∃ wo : World, wo = wr := ⟨_, rfl⟩
        have HBO := Lib.hid (HB6.out.trans (hwr.below (B := w.heap.size) HB6.out.size (fun x hx => by rw [List.mem_singleton.1 hx]; exact HGE.out)))
        have HEN := Lib.hid hen
        have HWR := Lib.hid hwr
        clear hen hwr
        by_cases hit : ix < n
        · have z1 : (ix : Int) < (n : Int) := by omega
          have HTM := Lib.hid (symM_get (m := m) (i := ix) (by rw [← HN.out]; exact hit))
          have HEJ := Lib.hid (HEN.out.open_ hit)
          have HWE := Lib.hid (show es.length = ix ∧ gE < wo.heap.size from ⟨HEN.out.len, HEN.out.outer.lt⟩)
          go_upto_region 10 with fail
          go_loopg [6, 23] n (fun gk s6 s23 wr => ∃ (jx : Nat) (s : SVt), jx ≤ n ∧ gk = n - jx ∧ s23 = .int .i64 (jx : Int) ∧ HnJ n gE wo ix es ((symR m ix).take jx) s wr)
          case atStart => exact ⟨0, _, by omega, rfl, rfl, HEJ.out⟩
          case round =>
            clear HEJ
            obtain ⟨jx, s, hjx, rfl, rfl, hej⟩ := hrel
            obtain ⟨wd, rfl⟩ : ∃ wd : World, wd = wr := ⟨_, rfl⟩
            have HBD := Lib.hid (HBO.out.trans (hej.wr.below (B := w.heap.size) HBO.out.size (fun x hx => by rw [List.mem_singleton.1 hx]; exact HGE.out)))
            by_cases hjt : jx < n
            · have z2 : (jx : Int) < (n : Int) := by omega
              have hjm : jx < m.length := by rw [← HN.out]; exact hjt
              have him : ix < m.length := by rw [← HN.out]; exact hit
              have hxs := gm_small HSM.out.symm jx ix
              have hys := gm_small HSM.out.symm ix jx
              have hms := HM.out
              rw [HN.out] at hms
              obtain ⟨A0, c0, b1, o1, A2, c2, b2, o2, hv0, rfl, q1, rfl, q2⟩ := hms.gmc HSQ.out.symm him hjm
              obtain ⟨A0', c0', b1', o1', A3, c3, b3, o3, hv1, rfl, q3, rfl, q4⟩ := hms.gmc HSQ.out.symm hjm him
              injection hv0 with e1 _ e2
              injection hv1 with e3 _ e4
              subst e1
              injection e3 with e3
              injection e3 with e5 e6
              subst e5; subst e6
              have HC := Lib.hid (fun W (hb : Below w.heap.size w W) => (show W.cell? ⟨b1, o1 + ix, none⟩ = some (.slice (some ⟨b2, o2, none⟩) n c2) ∧ W.cell? ⟨b2, o2 + jx, none⟩ = some (.int .i64 (gm m ix jx)) ∧ W.cell? ⟨b1, o1 + jx, none⟩ = some (.slice (some ⟨b3, o3, none⟩) n c3) ∧ W.cell? ⟨b3, o3 + ix, none⟩ = some (.int .i64 (gm m jx ix)) from by
                rw [HN.out]
                exact ⟨(hb.cell (block_lt_of_cell q1)).trans q1, (hb.cell (block_lt_of_cell q2)).trans q2, (hb.cell (block_lt_of_cell q3)).trans q3, (hb.cell (block_lt_of_cell q4)).trans q4⟩))
              have HRT := Lib.hid (symR_take (i := ix) hjm)
              generalize gm m ix jx = xv at *
              generalize gm m jx ix = yv at *
              clear e2 e4 q1 q2 q3 q4 hms hjm him
              have HYW := Lib.hid (show IntKind.i64.wrap (xv + yv) = xv + yv from IntWalk.i64_in _ (by omega))
              have hown := hej.own
              obtain ⟨As, ns, cs⟩ := s
              obtain ⟨R, hR⟩ : ∃ R, R = (symR m ix).take jx := ⟨_, rfl⟩
              rw [← hR] at hown HRT
              have hRl : R.length ≤ 1000 := by rw [hR]; simp [symR_length]; omega
              have HOU := Lib.hid hej.outer
              have HWR6 := Lib.hid hej.wr
              have HOWN := Lib.hid hown
              have HSZ := Lib.hid hej.wr.size
              have HNE := Lib.hid (HOWN.out.apartT HOU.out (by decide))
              have HGI := Lib.hid (show (es.map vS ++ vS (As, ns, cs) :: List.replicate (n - (ix + 1)) (.slice none 0 0))[ix]? = some (.slice As ns cs) by rw [List.getElem?_append_right (by simp [HWE.out.1]), List.length_map, HWE.out.1, Nat.sub_self]; rfl)
              have HLL := Lib.hid hRl
              clear hown hej hR hRl
              go_upto_region 12 with fail
              refine wp_region_factsU (by kernel_rfl) (by kernel_rfl) (by kernel_rfl) (by kernel_rfl) (by kernel_rfl) (ApS 3 1 eZ wo.heap.size wd (fun i => ([some (.slice (some ⟨gE, 0, none⟩) n n), some (.int .i64 (ix : Int)), some (.slice (some ⟨gE, 0, none⟩) n n), some (.int .i64 (ix : Int)), some (.pointer (some ⟨gE, ix, none⟩)), some (.slice As ns cs), some (.slice (some ⟨b1, o1, none⟩) n c), some (.int .i64 (ix : Int)), some (.pointer (some ⟨b1, o1 + ix, none⟩)), some (.slice (some ⟨b2, o2, none⟩) n c2), some (.int .i64 (jx : Int)), some (.pointer (some ⟨b2, o2 + jx, none⟩)), some (.int .i64 xv), some (.slice (some ⟨b1, o1, none⟩) n c), some (.int .i64 (jx : Int)), some (.pointer (some ⟨b1, o1 + jx, none⟩)), some (.slice (some ⟨b3, o3, none⟩) n c3), some (.int .i64 (ix : Int)), some (.pointer (some ⟨b3, o3 + ix, none⟩)), some (.int .i64 yv), some (.int .i64 (xv + yv)), none, none, some (.pointer (some ⟨gE, ix, none⟩)), none] : List (Option Value)).getD i none) 21 22 24 (.slice As ns cs) (⟨gE, ix, none⟩) (R) ([xv + yv])) (fun x => ApS.start) ⟨?_, ?_, ?_, ?_, ?_, ?_, ?_, ?_, ?_, ?_, ?_, ?_, ?_, ?_, ?_, ?_, ?_, ?_, ?_, ?_, ?_, ?_, ?_, ?_, ?_, trivial⟩ ?_
              · intro D x w1 bA hI hD hdep hcl hb
                have e4 : bA.tmps[4]?.getD undef = .slice (some ⟨gE, 0, none⟩) n n := hb 4
                refine wp_of_run (.slice (some ⟨gE, 0, none⟩) n n) (w' := w1) ?_ (hI.val rfl (by decide) (by decide) (by decide))
                clear hb hI hdep hcl
                go_simp
              · intro D x w1 bA hI hD hdep hcl hb
                have e5 : bA.tmps[5]?.getD undef = .int .i64 (ix : Int) := hb 5
                refine wp_of_run (.int .i64 (ix : Int)) (w' := w1) ?_ (hI.val rfl (by decide) (by decide) (by decide))
                clear hb hI hdep hcl
                go_simp
              · intro D x w1 bA hI hD hdep hcl hb
                have e4 : bA.tmps[4]?.getD undef = .slice (some ⟨gE, 0, none⟩) n n := hb 4
                refine wp_of_run (.slice (some ⟨gE, 0, none⟩) n n) (w' := w1) ?_ (hI.val rfl (by decide) (by decide) (by decide))
                clear hb hI hdep hcl
                go_simp
              · intro D x w1 bA hI hD hdep hcl hb
                have e5 : bA.tmps[5]?.getD undef = .int .i64 (ix : Int) := hb 5
                refine wp_of_run (.int .i64 (ix : Int)) (w' := w1) ?_ (hI.val rfl (by decide) (by decide) (by decide))
                clear hb hI hdep hcl
                go_simp
              · intro D x w1 bA hI hD hdep hcl hb
                have e28 : bA.tmps[28]?.getD undef = .slice (some ⟨gE, 0, none⟩) n n := (hb 28).trans (hI.kn 2 _ rfl (hdep 2 (by decide)))
                have e29 : bA.tmps[29]?.getD undef = .int .i64 (ix : Int) := (hb 29).trans (hI.kn 3 _ rfl (hdep 3 (by decide)))
                refine wp_of_run (.pointer (some ⟨gE, ix, none⟩)) (w' := w1) ?_ (hI.val rfl (by decide) (by decide) (by decide))
                clear hb hI hdep hcl
                go_simp
              · intro D x w1 bA hI hD hdep hcl hb
                have hq22 : D 22 = false := by cases h : D 22 with | false => rfl | true => (have := hcl 22 h 5 (by decide); rw [hD] at this; cases this)
                have hqf : D 24 = false := by cases h : D 24 with | false => rfl | true => (have := hcl 24 h 22 (by decide); rw [hq22] at this; cases this)
                have hpre := hI.pre hq22 hqf
                have e30 : bA.tmps[30]?.getD undef = .pointer (some ⟨gE, ix, none⟩) := (hb 30).trans (hI.kn 4 _ rfl (hdep 4 (by decide)))
                have cc := (HOU.out.below hpre HOU.out.lt).cell ix
                rw [HGI.out] at cc
                refine wp_of_run (.slice As ns cs) (w' := w1) ?_ (hI.val rfl (by decide) (by decide) (by decide))
                clear hb hI hdep hcl
                go_simp
              · intro D x w1 bA hI hD hdep hcl hb
                have e0 : bA.tmps[0]?.getD undef = .slice (some ⟨b1, o1, none⟩) n c := hb 0
                refine wp_of_run (.slice (some ⟨b1, o1, none⟩) n c) (w' := w1) ?_ (hI.val rfl (by decide) (by decide) (by decide))
                clear hb hI hdep hcl
                go_simp
              · intro D x w1 bA hI hD hdep hcl hb
                have e5 : bA.tmps[5]?.getD undef = .int .i64 (ix : Int) := hb 5
                refine wp_of_run (.int .i64 (ix : Int)) (w' := w1) ?_ (hI.val rfl (by decide) (by decide) (by decide))
                clear hb hI hdep hcl
                go_simp
              · intro D x w1 bA hI hD hdep hcl hb
                have e32 : bA.tmps[32]?.getD undef = .slice (some ⟨b1, o1, none⟩) n c := (hb 32).trans (hI.kn 6 _ rfl (hdep 6 (by decide)))
                have e33 : bA.tmps[33]?.getD undef = .int .i64 (ix : Int) := (hb 33).trans (hI.kn 7 _ rfl (hdep 7 (by decide)))
                refine wp_of_run (.pointer (some ⟨b1, o1 + ix, none⟩)) (w' := w1) ?_ (hI.val rfl (by decide) (by decide) (by decide))
                clear hb hI hdep hcl
                go_simp
              · intro D x w1 bA hI hD hdep hcl hb
                have hq11 : D 11 = false := by cases h : D 11 with | false => rfl | true => (have := hcl 11 h 9 (by decide); rw [hD] at this; cases this)
                have hq12 : D 12 = false := by cases h : D 12 with | false => rfl | true => (have := hcl 12 h 11 (by decide); rw [hq11] at this; cases this)
                have hq20 : D 20 = false := by cases h : D 20 with | false => rfl | true => (have := hcl 20 h 12 (by decide); rw [hq12] at this; cases this)
                have hq21 : D 21 = false := by cases h : D 21 with | false => rfl | true => (have := hcl 21 h 20 (by decide); rw [hq20] at this; cases this)
                have hq22 : D 22 = false := by cases h : D 22 with | false => rfl | true => (have := hcl 22 h 21 (by decide); rw [hq21] at this; cases this)
                have hqf : D 24 = false := by cases h : D 24 with | false => rfl | true => (have := hcl 24 h 22 (by decide); rw [hq22] at this; cases this)
                have hpre := hI.pre hq22 hqf
                have e34 : bA.tmps[34]?.getD undef = .pointer (some ⟨b1, o1 + ix, none⟩) := (hb 34).trans (hI.kn 8 _ rfl (hdep 8 (by decide)))
                have hcc := HC.out w1 (HBD.out.trans (hpre.mono HBD.out.size))
                have cc := hcc.1
                clear hcc
                refine wp_of_run (.slice (some ⟨b2, o2, none⟩) n c2) (w' := w1) ?_ (hI.val rfl (by decide) (by decide) (by decide))
                clear hb hI hdep hcl
                go_simp
              · intro D x w1 bA hI hD hdep hcl hb
                have e6 : bA.tmps[6]?.getD undef = .int .i64 (jx : Int) := hb 6
                refine wp_of_run (.int .i64 (jx : Int)) (w' := w1) ?_ (hI.val rfl (by decide) (by decide) (by decide))
                clear hb hI hdep hcl
                go_simp
              · intro D x w1 bA hI hD hdep hcl hb
                have e35 : bA.tmps[35]?.getD undef = .slice (some ⟨b2, o2, none⟩) n c2 := (hb 35).trans (hI.kn 9 _ rfl (hdep 9 (by decide)))
                have e36 : bA.tmps[36]?.getD undef = .int .i64 (jx : Int) := (hb 36).trans (hI.kn 10 _ rfl (hdep 10 (by decide)))
                refine wp_of_run (.pointer (some ⟨b2, o2 + jx, none⟩)) (w' := w1) ?_ (hI.val rfl (by decide) (by decide) (by decide))
                clear hb hI hdep hcl
                go_simp
              · intro D x w1 bA hI hD hdep hcl hb
                have hq20 : D 20 = false := by cases h : D 20 with | false => rfl | true => (have := hcl 20 h 12 (by decide); rw [hD] at this; cases this)
                have hq21 : D 21 = false := by cases h : D 21 with | false => rfl | true => (have := hcl 21 h 20 (by decide); rw [hq20] at this; cases this)
                have hq22 : D 22 = false := by cases h : D 22 with | false => rfl | true => (have := hcl 22 h 21 (by decide); rw [hq21] at this; cases this)
                have hqf : D 24 = false := by cases h : D 24 with | false => rfl | true => (have := hcl 24 h 22 (by decide); rw [hq22] at this; cases this)
                have hpre := hI.pre hq22 hqf
                have e37 : bA.tmps[37]?.getD undef = .pointer (some ⟨b2, o2 + jx, none⟩) := (hb 37).trans (hI.kn 11 _ rfl (hdep 11 (by decide)))
                have hcc := HC.out w1 (HBD.out.trans (hpre.mono HBD.out.size))
                have cc := hcc.2.1
                clear hcc
                refine wp_of_run (.int .i64 xv) (w' := w1) ?_ (hI.val rfl (by decide) (by decide) (by decide))
                clear hb hI hdep hcl
                go_simp
              · intro D x w1 bA hI hD hdep hcl hb
                have e0 : bA.tmps[0]?.getD undef = .slice (some ⟨b1, o1, none⟩) n c := hb 0
                refine wp_of_run (.slice (some ⟨b1, o1, none⟩) n c) (w' := w1) ?_ (hI.val rfl (by decide) (by decide) (by decide))
                clear hb hI hdep hcl
                go_simp
              · intro D x w1 bA hI hD hdep hcl hb
                have e6 : bA.tmps[6]?.getD undef = .int .i64 (jx : Int) := hb 6
                refine wp_of_run (.int .i64 (jx : Int)) (w' := w1) ?_ (hI.val rfl (by decide) (by decide) (by decide))
                clear hb hI hdep hcl
                go_simp
              · intro D x w1 bA hI hD hdep hcl hb
                have e39 : bA.tmps[39]?.getD undef = .slice (some ⟨b1, o1, none⟩) n c := (hb 39).trans (hI.kn 13 _ rfl (hdep 13 (by decide)))
                have e40 : bA.tmps[40]?.getD undef = .int .i64 (jx : Int) := (hb 40).trans (hI.kn 14 _ rfl (hdep 14 (by decide)))
                refine wp_of_run (.pointer (some ⟨b1, o1 + jx, none⟩)) (w' := w1) ?_ (hI.val rfl (by decide) (by decide) (by decide))
                clear hb hI hdep hcl
                go_simp
              · intro D x w1 bA hI hD hdep hcl hb
                have hq18 : D 18 = false := by cases h : D 18 with | false => rfl | true => (have := hcl 18 h 16 (by decide); rw [hD] at this; cases this)
                have hq19 : D 19 = false := by cases h : D 19 with | false => rfl | true => (have := hcl 19 h 18 (by decide); rw [hq18] at this; cases this)
                have hq20 : D 20 = false := by cases h : D 20 with | false => rfl | true => (have := hcl 20 h 19 (by decide); rw [hq19] at this; cases this)
                have hq21 : D 21 = false := by cases h : D 21 with | false => rfl | true => (have := hcl 21 h 20 (by decide); rw [hq20] at this; cases this)
                have hq22 : D 22 = false := by cases h : D 22 with | false => rfl | true => (have := hcl 22 h 21 (by decide); rw [hq21] at this; cases this)
                have hqf : D 24 = false := by cases h : D 24 with | false => rfl | true => (have := hcl 24 h 22 (by decide); rw [hq22] at this; cases this)
                have hpre := hI.pre hq22 hqf
                have e41 : bA.tmps[41]?.getD undef = .pointer (some ⟨b1, o1 + jx, none⟩) := (hb 41).trans (hI.kn 15 _ rfl (hdep 15 (by decide)))
                have hcc := HC.out w1 (HBD.out.trans (hpre.mono HBD.out.size))
                have cc := hcc.2.2.1
                clear hcc
                refine wp_of_run (.slice (some ⟨b3, o3, none⟩) n c3) (w' := w1) ?_ (hI.val rfl (by decide) (by decide) (by decide))
                clear hb hI hdep hcl
                go_simp
              · intro D x w1 bA hI hD hdep hcl hb
                have e5 : bA.tmps[5]?.getD undef = .int .i64 (ix : Int) := hb 5
                refine wp_of_run (.int .i64 (ix : Int)) (w' := w1) ?_ (hI.val rfl (by decide) (by decide) (by decide))
                clear hb hI hdep hcl
                go_simp
              · intro D x w1 bA hI hD hdep hcl hb
                have e42 : bA.tmps[42]?.getD undef = .slice (some ⟨b3, o3, none⟩) n c3 := (hb 42).trans (hI.kn 16 _ rfl (hdep 16 (by decide)))
                have e43 : bA.tmps[43]?.getD undef = .int .i64 (ix : Int) := (hb 43).trans (hI.kn 17 _ rfl (hdep 17 (by decide)))
                refine wp_of_run (.pointer (some ⟨b3, o3 + ix, none⟩)) (w' := w1) ?_ (hI.val rfl (by decide) (by decide) (by decide))
                clear hb hI hdep hcl
                go_simp
              · intro D x w1 bA hI hD hdep hcl hb
                have hq20 : D 20 = false := by cases h : D 20 with | false => rfl | true => (have := hcl 20 h 19 (by decide); rw [hD] at this; cases this)
                have hq21 : D 21 = false := by cases h : D 21 with | false => rfl | true => (have := hcl 21 h 20 (by decide); rw [hq20] at this; cases this)
                have hq22 : D 22 = false := by cases h : D 22 with | false => rfl | true => (have := hcl 22 h 21 (by decide); rw [hq21] at this; cases this)
                have hqf : D 24 = false := by cases h : D 24 with | false => rfl | true => (have := hcl 24 h 22 (by decide); rw [hq22] at this; cases this)
                have hpre := hI.pre hq22 hqf
                have e44 : bA.tmps[44]?.getD undef = .pointer (some ⟨b3, o3 + ix, none⟩) := (hb 44).trans (hI.kn 18 _ rfl (hdep 18 (by decide)))
                have hcc := HC.out w1 (HBD.out.trans (hpre.mono HBD.out.size))
                have cc := hcc.2.2.2
                clear hcc
                refine wp_of_run (.int .i64 yv) (w' := w1) ?_ (hI.val rfl (by decide) (by decide) (by decide))
                clear hb hI hdep hcl
                go_simp
              · intro D x w1 bA hI hD hdep hcl hb
                have e38 : bA.tmps[38]?.getD undef = .int .i64 xv := (hb 38).trans (hI.kn 12 _ rfl (hdep 12 (by decide)))
                have e45 : bA.tmps[45]?.getD undef = .int .i64 yv := (hb 45).trans (hI.kn 19 _ rfl (hdep 19 (by decide)))
                have zz := HYW.out
                refine wp_of_run (.int .i64 (xv + yv)) (w' := w1) ?_ (hI.val rfl (by decide) (by decide) (by decide))
                clear hb hI hdep hcl
                go_simp
              · intro D x w1 bA hI hD hdep hcl hb
                have hq22 : D 22 = false := by cases h : D 22 with | false => rfl | true => (have := hcl 22 h 21 (by decide); rw [hD] at this; cases this)
                have hqf : D 24 = false := by cases h : D 24 with | false => rfl | true => (have := hcl 24 h 22 (by decide); rw [hq22] at this; cases this)
                have e46 : bA.tmps[46]?.getD undef = .int .i64 (xv + yv) := (hb 46).trans (hI.kn 20 _ rfl (hdep 20 (by decide)))
                refine wp_of_run (.slice (some ⟨w1.heap.size, 0, none⟩) 1 1) (w' := w1.alloc (.cells #[.int .i64 (xv + yv)] 3)) ?_ (hI.call rfl (by decide) (by decide) hq22 hqf ((Below.refl _ _).alloc (Nat.le_refl _) _) (OwnA.lit (xs := [xv + yv]) (fun y _ => elZ.len y) (Nat.le_refl _) (by simp) (by simp)))
                clear hb hI hdep hcl
                go_simp
              · intro D x w1 bA hI hD hdep hcl hb
                have hqf : D 24 = false := by cases h : D 24 with | false => rfl | true => (have := hcl 24 h 22 (by decide); rw [hD] at this; cases this)
                have e31 : bA.tmps[31]?.getD undef = .slice As ns cs := (hb 31).trans (hI.kn 5 _ rfl (hdep 5 (by decide)))
                have e47 : bA.tmps[47]?.getD undef = x 21 := hb 47
                exact hI.app elZ (.tmp 31) (.tmp 47) 22 22 rfl Tryz.underlying22 Tryz.underlying22 rfl (by decide) (by decide) (hdep 21 (by decide)) hD hqf (by simpa [Act.eval] using e31) (by simpa [Act.eval] using e47) (HOWN.out) (HSZ.out) (by have := HLL.out; simp; omega)
              · intro D x w1 bA hI hD hdep hcl hb
                have e26 : bA.tmps[26]?.getD undef = .slice (some ⟨gE, 0, none⟩) n n := (hb 26).trans (hI.kn 0 _ rfl (hdep 0 (by decide)))
                have e27 : bA.tmps[27]?.getD undef = .int .i64 (ix : Int) := (hb 27).trans (hI.kn 1 _ rfl (hdep 1 (by decide)))
                refine wp_of_run (.pointer (some ⟨gE, ix, none⟩)) (w' := w1) ?_ (hI.val rfl (by decide) (by decide) (by decide))
                clear hb hI hdep hcl
                go_simp
              · intro D x w1 bA hI hD hdep hcl hb
                have hda : D 22 = true := hdep 22 (by decide)
                have e49 : bA.tmps[49]?.getD undef = .pointer (some ⟨gE, ix, none⟩) := (hb 49).trans (hI.kn 23 _ rfl (hdep 23 (by decide)))
                have e48 : bA.tmps[48]?.getD undef = x 22 := hb 48
                have hst := hI.store rfl hda hD undef
                obtain ⟨hm1, hm2⟩ := hI.mid hda hD
                have qarr := hm2.arr (HOU.out) (HNE.out)
                have qy := qarr.cell ix
                have qf := qarr.frozen ix
                rw [HGI.out] at qy
                obtain ⟨AF, cF, eF⟩ := hm1.form
                generalize x 22 = xA at *
                subst eF
                refine wp_of_skip ?_ hst
                clear hb hI hdep hcl hst hm1 hm2 qarr
                go_simp
              intro D x w1 hI hall
              obtain ⟨wS, vZ, hwS, hownS, hkptS⟩ := hI.fin (hall 24 (by simp))
              have x0e : x 0 = .slice (some ⟨gE, 0, none⟩) n n := hI.kn 0 _ rfl (hall 0 (by simp))
              have x1e : x 1 = .int .i64 (ix : Int) := hI.kn 1 _ rfl (hall 1 (by simp))
              have x2e : x 2 = .slice (some ⟨gE, 0, none⟩) n n := hI.kn 2 _ rfl (hall 2 (by simp))
              have x3e : x 3 = .int .i64 (ix : Int) := hI.kn 3 _ rfl (hall 3 (by simp))
              have x4e : x 4 = .pointer (some ⟨gE, ix, none⟩) := hI.kn 4 _ rfl (hall 4 (by simp))
              have x5e : x 5 = .slice As ns cs := hI.kn 5 _ rfl (hall 5 (by simp))
              have x6e : x 6 = .slice (some ⟨b1, o1, none⟩) n c := hI.kn 6 _ rfl (hall 6 (by simp))
              have x7e : x 7 = .int .i64 (ix : Int) := hI.kn 7 _ rfl (hall 7 (by simp))
              have x8e : x 8 = .pointer (some ⟨b1, o1 + ix, none⟩) := hI.kn 8 _ rfl (hall 8 (by simp))
              have x9e : x 9 = .slice (some ⟨b2, o2, none⟩) n c2 := hI.kn 9 _ rfl (hall 9 (by simp))
              have x10e : x 10 = .int .i64 (jx : Int) := hI.kn 10 _ rfl (hall 10 (by simp))
              have x11e : x 11 = .pointer (some ⟨b2, o2 + jx, none⟩) := hI.kn 11 _ rfl (hall 11 (by simp))
              have x12e : x 12 = .int .i64 xv := hI.kn 12 _ rfl (hall 12 (by simp))
              have x13e : x 13 = .slice (some ⟨b1, o1, none⟩) n c := hI.kn 13 _ rfl (hall 13 (by simp))
              have x14e : x 14 = .int .i64 (jx : Int) := hI.kn 14 _ rfl (hall 14 (by simp))
              have x15e : x 15 = .pointer (some ⟨b1, o1 + jx, none⟩) := hI.kn 15 _ rfl (hall 15 (by simp))
              have x16e : x 16 = .slice (some ⟨b3, o3, none⟩) n c3 := hI.kn 16 _ rfl (hall 16 (by simp))
              have x17e : x 17 = .int .i64 (ix : Int) := hI.kn 17 _ rfl (hall 17 (by simp))
              have x18e : x 18 = .pointer (some ⟨b3, o3 + ix, none⟩) := hI.kn 18 _ rfl (hall 18 (by simp))
              have x19e : x 19 = .int .i64 yv := hI.kn 19 _ rfl (hall 19 (by simp))
              have x20e : x 20 = .int .i64 (xv + yv) := hI.kn 20 _ rfl (hall 20 (by simp))
              have x23e : x 23 = .pointer (some ⟨gE, ix, none⟩) := hI.kn 23 _ rfl (hall 23 (by simp))
              simp only [putAll, dstOf, Act.put, List.map_cons, List.map_nil, List.setIfInBounds_toArray, List.set_cons_succ, List.set_cons_zero, Nat.reduceAdd, x0e, x1e, x2e, x3e, x4e, x5e, x6e, x7e, x8e, x9e, x10e, x11e, x12e, x13e, x14e, x15e, x16e, x17e, x18e, x19e, x20e, x23e]
              clear x0e x1e x2e x3e x4e x5e x6e x7e x8e x9e x10e x11e x12e x13e x14e x15e x16e x17e x18e x19e x20e x23e hI hall
              generalize x 22 = xA, x 21 = xC
              obtain ⟨s', hvs, hej⟩ := HnJ.next HWE.out.1 HOU.out HWR6.out HOWN.out hownS hkptS
              rw [← HRT.out] at hej
              rw [← hwS] at hej
              have HEJ2 := Lib.hid hej
              clear hwS hownS hkptS hvs hej
              go_wp2_with fail
              go_roundg (n - (jx + 1))
              case measure => omega
              case rel => exact ⟨jx + 1, s', by omega, rfl, by go_num, HEJ2.out⟩
            · have z2 : ¬ ((jx : Int) < (n : Int)) := by omega
              rw [List.take_of_length_le (show (symR m ix).length ≤ jx by rw [symR_length, ← HN.out]; omega)] at hej
              have HCL := Lib.hid (hej.close HEN.out HTM.out HBO.out.size)
              have HWN := Lib.hid (HWR.out.trans hej.wr)
              clear hej
              go_wp2_with fail
              go_roundg (n - (ix + 1))
              case measure => omega
              case rel => exact ⟨ix + 1, _, by omega, rfl, by go_num, HCL.out, HWN.out⟩
        · have z1 : ¬ ((ix : Int) < (n : Int)) := by omega
          have e7 : ix = n := by omega
          rw [e7] at HEN
          have HMQ := Lib.hid (HEN.out.end_ (by rw [symM_length, HN.out]))
          have HSX := Lib.hid (HSMB.out wo _ HMQ.out)
          obtain ⟨sb, hsb⟩ : ∃ b, b = smM (symM m) := ⟨_, rfl⟩
          rw [← hsb] at HSX
          have HSB := Lib.hid hsb
          have HMW := Lib.hid (fun W (hb : Below wo.heap.size wo W) => HMQ.out.below hb)
          clear hsb e7 HEN HWR HMQ HM HSMB
          go_upto_if 54 with (go_at_call 32; refine HSX.out.mono ?_; rintro e w8 ⟨rfl, hb8⟩)
          have HB8 := Lib.hid (HBO.out.trans (hb8.mono HBO.out.size))
          have HM8 := Lib.hid (HMW.out w8 hb8)
          clear hb8 HSX HMW
          cases sb with
          | false =>
            go_wp2_with fail
            go_ret2
            exact ⟨HB8.out, .inr (.inl ⟨HSQ.out.symm, .inr HSB.out.symm, rfl⟩)⟩
          | true =>
            go_wp2_with fail
            go_ret2
            exact ⟨HB8.out, .inr (.inr ⟨HSQ.out.symm, HSM.out.symm, HSB.out.symm, _, rfl, HM8.out⟩)⟩
/-- the absolute value; the least number counts as the greatest one -/
def absF (x : Int) : Int := if x = -9223372036854775808 then 9223372036854775807 else if x < 0 then -x else x
set_option maxHeartbeats 1000000 in
theorem abs26_any (x : Int) (w : World) (h : -9223372036854775808 ≤ x ∧ x ≤ 9223372036854775807) : Calls Tryz.prog 24 #[.int .i64 x] w fun e w' => e = .returned (.int .i64 (absF x)) ∧ w' = w := by
  obtain ⟨r, hr⟩ : ∃ r, r = absF x := ⟨_, rfl⟩
  rw [← hr]
  have HR := Lib.hid (show r = if x = -9223372036854775808 then 9223372036854775807 else if x < 0 then -x else x from hr)
  clear hr
  by_cases h0 : x < 0
  · by_cases h1 : x = -9223372036854775808
    · subst h1
      have HE := Lib.hid (show r = 9223372036854775807 by rw [HR.out, if_pos rfl])
      have e1 : RowKit.wrap64 9223372036854775808 = -9223372036854775808 := by decide +kernel
      go_enter Tryz.func24, Tryz.ntmps24
      go_wp2_with fail
      go_ret
      exact ⟨by rw [HE.out]; rfl, rfl⟩
    · have HE := Lib.hid (show r = -x by rw [HR.out, if_neg h1, if_pos h0])
      have e1 : RowKit.wrap64 (-x) = -x := by unfold RowKit.wrap64; omega
      have z1 : ¬ (-x < 0) := by omega
      clear h1
      go_enter Tryz.func24, Tryz.ntmps24
      go_wp2_with fail
      go_ret
      exact ⟨by rw [HE.out]; simp, rfl⟩
  · have HE := Lib.hid (show r = x by rw [HR.out, if_neg (by omega), if_neg h0])
    go_enter Tryz.func24, Tryz.ntmps24
    go_wp2_with fail
    go_ret
    exact ⟨by rw [HE.out]; rfl, rfl⟩
end Go.Proofs.YtjeklcgfffibpaaGreatDoor
