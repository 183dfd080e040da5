/- How many loops there are (plain). -/
/- unravelref38.entry against surface.element (plain). -/
/- unravelref38.entry: the walk. -/
/- polymatrix.interpolated, where a coefficient is too great or a residue does not fit: the walk. -/
import Derived.Test.YtbkgpfalljgdcaaGreatDoorZDeu
import Derived.Test.YtbkgpfalljgdcaaGreatDoorZMpo
namespace Go.Proofs.YtbkgpfalljgdcaaGreatDoor
open Go.RowKit
set_option linter.unusedVariables false

def occN (g : Nat) (W : List Int) : Nat → Nat
  | 0 => 0
  | k + 1 => occN g W k + (if isG (g : Int) (W[k]?.getD 0) = true then 1 else 0)
theorem lpF_cnt (g : Nat) (W : List Int) : ∀ k, (lpF (g : Int) W k).2.length + (if 0 ≤ (lpF (g : Int) W k).1 then 1 else 0) = occN g W k
  | 0 => by simp [lpF, occN]
  | k + 1 => by
    have ih := lpF_cnt g W k
    rw [lpF, occN]
    by_cases c : isG (g : Int) (W[k]?.getD 0) = true
    · rw [if_pos c, if_pos c]
      by_cases d : 0 ≤ (lpF (g : Int) W k).1
      · rw [if_pos d] at ih
        simp only [if_pos d, List.length_append, List.length_singleton]
        rw [if_pos (by omega)]
        omega
      · rw [if_neg d] at ih
        simp only [if_neg d]
        rw [if_pos (by omega)]
        omega
    · rw [if_neg c, if_neg c]
      omega
theorem lgL_cnt (W : List Int) : ∀ G : Nat, (∀ g, 1 ≤ g → g < G + 1 → 0 ≤ (lpF (g : Int) W W.length).1) → (lgL W G).length + G = sumN G (fun g => occN (g + 1) W W.length)
  | 0, _ => by simp [lgL, sumN]
  | G + 1, h => by
    have ih := lgL_cnt W G fun g h1 h2 => h g h1 (by omega)
    have h1 := lpF_cnt (G + 1) W W.length
    rw [if_pos (h (G + 1) (by omega) (by omega))] at h1
    rw [lgL, sumN, ← ih, ← h1, List.length_append]
    omega
theorem ind_sum (x : Int) : ∀ G : Nat, 1 ≤ ab33 x → sumN G (fun g => if isG ((g + 1 : Nat) : Int) x = true then 1 else 0) = if ab33 x ≤ (G : Int) then 1 else 0
  | 0, h => by rw [if_neg (by omega)]; rfl
  | G + 1, h => by
    rw [sumN, ind_sum x G h, isG_ab (by omega)]
    by_cases c : ab33 x ≤ (G : Int)
    · have e : decide (ab33 x = ((G + 1 : Nat) : Int)) = false := decide_eq_false (by omega)
      rw [e, if_pos c, if_pos (show ab33 x ≤ ((G + 1 : Nat) : Int) by omega)]
      rfl
    · rw [if_neg c]
      by_cases d : ab33 x = ((G + 1 : Nat) : Int)
      · rw [decide_eq_true d, if_pos (show ab33 x ≤ ((G + 1 : Nat) : Int) by omega)]
        rfl
      · rw [decide_eq_false d, if_neg (show ¬ ab33 x ≤ ((G + 1 : Nat) : Int) by omega)]
        rfl
theorem sumN_add5 (f g : Nat → Nat) : ∀ n, sumN n (fun k => f k + g k) = sumN n f + sumN n g
  | 0 => rfl
  | n + 1 => by rw [sumN, sumN, sumN, sumN_add5 f g n]; omega
theorem occ_sum (W : List Int) (G : Nat) (h : ∀ l ∈ W, 1 ≤ ab33 l ∧ ab33 l ≤ (G : Int)) : ∀ k, k ≤ W.length → sumN G (fun g => occN (g + 1) W k) = k
  | 0, _ => by
    have : ∀ n, sumN n (fun _ => 0) = 0 := fun n => by induction n with | zero => rfl | succ n ih => rw [sumN, ih]
    exact this G
  | k + 1, hk => by
    have ih := occ_sum W G h k (by omega)
    have hk' : k < W.length := by omega
    have hl := h _ (List.getElem_mem hk')
    have e : W[k]?.getD 0 = W[k] := by rw [List.getElem?_eq_getElem hk']; rfl
    have h1 := ind_sum W[k] G hl.1
    rw [if_pos hl.2] at h1
    show sumN G (fun g => occN (g + 1) W k + (if isG ((g + 1 : Nat) : Int) (W[k]?.getD 0) = true then 1 else 0)) = k + 1
    rw [sumN_add5, ih, e, h1]
/-- the number of loops -/
theorem lsF_len {N : Int} {W : List Int} (hb : brV N W = true) (hc : cnB N W) : ((lsF N W).length : Int) = (W.length : Int) - N + 1 := by
  obtain ⟨h1, h2, h3, h4⟩ := brV_iff.1 hb
  have a := lgL_cnt W (N - 1).toNat fun g g1 g2 => hc g g1 (by omega)
  have b := occ_sum W (N - 1).toNat (fun l hl => by have := h4 l hl; unfold ab33; split <;> omega) W.length (Nat.le_refl _)
  unfold lsF
  omega
end Go.Proofs.YtbkgpfalljgdcaaGreatDoor

namespace Go.Proofs.YtbkgpfalljgdcaaGreatDoor
open Go.RowKit
set_option linter.unusedVariables false

/-- what the reference's entry returns -/
def rfE (W : List Int) (x y : L3) : Int :=
  if x = y then (if 0 < wAt W x.2.1 ∧ 0 < wAt W x.2.2 then -1 else if wAt W x.2.1 < 0 ∧ wAt W x.2.2 < 0 then 1 else 0)
  else if x.1 = y.1 ∧ x.2.2 = y.2.1 ∧ wAt W x.2.2 < 0 then -1
  else if x.1 = y.1 ∧ x.2.1 = y.2.2 ∧ 0 < wAt W x.2.1 then 1
  else if y.1 = x.1 + 1 ∧ x.2.1 < y.2.1 ∧ y.2.1 < x.2.2 ∧ x.2.2 < y.2.2 then 1
  else if y.1 = x.1 + 1 ∧ y.2.1 < x.2.1 ∧ x.2.1 < y.2.2 ∧ y.2.2 < x.2.2 then -1 else 0
theorem rfE_is {W : List Int} {x y : L3} (hx : x.2.1 < x.2.2) (hy : y.2.1 < y.2.2) : rfE W x y = sfE W x y := by
  obtain ⟨xg, xp, xq⟩ := x
  obtain ⟨yg, yp, yq⟩ := y
  unfold rfE sfE
  dsimp only at *
  by_cases e : ((xg, xp, xq) : L3) = (yg, yp, yq)
  · rw [if_pos e, if_pos e]
  · rw [if_neg e, if_neg e]
    generalize wAt W xq = a
    generalize wAt W xp = b
    by_cases c1 : xg = yg ∧ xq = yp
    · rw [if_pos c1]
      by_cases d : a < 0
      · rw [if_pos d, if_pos ⟨c1.1, c1.2, d⟩]
      · rw [if_neg d, if_neg (by omega), if_neg (by omega), if_neg (by omega), if_neg (by omega)]
    · rw [if_neg c1, if_neg (by omega)]
      by_cases c2 : xg = yg ∧ xp = yq
      · rw [if_pos c2]
        by_cases d : 0 < b
        · rw [if_pos d, if_pos ⟨c2.1, c2.2, d⟩]
        · rw [if_neg d, if_neg (by omega), if_neg (by omega), if_neg (by omega)]
      · rw [if_neg c2, if_neg (by omega)]
end Go.Proofs.YtbkgpfalljgdcaaGreatDoor

namespace Go.Proofs.YtbkgpfalljgdcaaGreatDoor
open Go.RowKit
set_option linter.unusedVariables false

theorem rfE_eq (W : List Int) (xg xp xq yg yp yq : Int) : rfE W (xg, xp, xq) (yg, yp, yq) =
    if xg = yg ∧ xp = yp ∧ xq = yq then (if 0 < wAt W xp ∧ 0 < wAt W xq then -1 else if wAt W xp < 0 ∧ wAt W xq < 0 then 1 else 0)
    else if xg = yg ∧ xq = yp ∧ wAt W xq < 0 then -1
    else if xg = yg ∧ xp = yq ∧ 0 < wAt W xp then 1
    else if yg = xg + 1 ∧ xp < yp ∧ yp < xq ∧ xq < yq then 1
    else if yg = xg + 1 ∧ yp < xp ∧ xp < yq ∧ yq < xq then -1 else 0 := by
  unfold rfE
  simp only [Prod.mk.injEq]
theorem eql_rloop (a b c a' b' c' : Int) (W : World) : Sem.run Tryz.prog (binOp .eql 57 (.agg #[.int .i64 a, .int .i64 b, .int .i64 c]) (.agg #[.int .i64 a', .int .i64 b', .int .i64 c'])) W = .ok (.bool ((a == a') && ((b == b') && (c == c')))) W := by
  by_cases h1 : a = a'
  · subst h1
    by_cases h2 : b = b'
    · subst h2
      by_cases h3 : c = c'
      · subst h3
        go_simp
      · have z : (c == c') = false := by simp [h3]
        rw [z]
        go_simp
    · have z : (b == b') = false := by simp [h2]
      rw [z]
      go_simp
  · have z : (a == a') = false := by simp [h1]
    rw [z]
    go_simp
set_option maxHeartbeats 8000000 in
set_option maxRecDepth 100000 in
theorem entry_any (vw : Value) (W : List Int) (xg yg yp yq : Int) (xp xq : Nat) (w : World) (h : Ints w vw W) (hl : W.length ≤ 1000000) (hxp : xp < W.length) (hxq : xq < W.length) (hg : -100 ≤ xg ∧ xg ≤ 100) :
    Calls Tryz.prog 22 #[vw, .agg #[.int .i64 xg, .int .i64 (xp : Int), .int .i64 (xq : Int)], .agg #[.int .i64 yg, .int .i64 yp, .int .i64 yq]] w fun e w' => e = .returned (.int .i64 (rfE W (xg, (xp : Int), (xq : Int)) (yg, yp, yq))) ∧ Below w.heap.size w w' := by
  have HP := Lib.hid (fun W' (hb : Below w.heap.size w W') => (h.below hb))
  obtain ⟨A, c, hv, -, -⟩ := h
  subst hv
  have SF := Lib.hid (rfE_eq W xg xp xq yg yp yq)
  have hwp : W[xp]'hxp = wAt W xp := by unfold wAt; rw [Int.toNat_natCast, List.getElem?_eq_getElem hxp, Option.getD_some]
  have hwq : W[xq]'hxq = wAt W xq := by unfold wAt; rw [Int.toNat_natCast, List.getElem?_eq_getElem hxq, Option.getD_some]
  have zp : (xp : Int) < (W.length : Int) := by omega
  have zq : (xq : Int) < (W.length : Int) := by omega
  have hW : ∀ W', W' = (w.alloc (.cells #[.int .i64 xg, .int .i64 (xp : Int), .int .i64 (xq : Int)] 57)).alloc (.cells #[.int .i64 yg, .int .i64 yp, .int .i64 yq] 57) → Arr W' w.heap.size 57 [.int .i64 xg, .int .i64 (xp : Int), .int .i64 (xq : Int)] ∧ Arr W' (w.heap.size + 1) 57 [.int .i64 yg, .int .i64 yp, .int .i64 yq] ∧ Below w.heap.size w W' := by
    intro W' hW
    subst hW
    exact ⟨(Arr.new _ _ [_, _, _]).alloc _, Arr.newAt (w.alloc _) _ [_, _, _] _ (by simp), ((Below.refl _ _).alloc (Nat.le_refl _) _).alloc (by simp) _⟩
  go_enter Tryz.func22, Tryz.ntmps22
  go_upto_region 1 with fail
  generalize (w.alloc (.cells #[.int .i64 xg, .int .i64 (xp : Int), .int .i64 (xq : Int)] 57)).alloc (.cells #[.int .i64 yg, .int .i64 yp, .int .i64 yq] 57) = w3 at hW ⊢
  obtain ⟨qx, qy, hb⟩ := hW w3 rfl
  have HB := Lib.hid hb
  obtain ⟨b1, o1, rfl, -, cp⟩ := (HP.out w3 hb).at_ hxp
  obtain ⟨b1', o1', hA, -, cq⟩ := (HP.out w3 hb).at_ hxq
  injection hA with hA
  injection hA with e1 e2
  subst e1; subst e2
  rw [hwp] at cp
  rw [hwq] at cq
  have x0 := qx.cell 0
  have x1 := qx.cell 1
  have x2 := qx.cell 2
  have y0 := qy.cell 0
  have y1 := qy.cell 1
  have y2 := qy.cell 2
  clear hW qx qy hb HP hwp hwq hxp hxq
  generalize wAt W xp = wp at *
  generalize wAt W xq = wq at *
  generalize W.length = n at *
  by_cases e0 : xg = yg ∧ (xp : Int) = yp ∧ (xq : Int) = yq
  · have heq := fun W' => (eql_rloop xg xp xq yg yp yq W').trans (by rw [show ((xg == yg) && (((xp : Int) == yp) && ((xq : Int) == yq))) = true by simp [e0.1, e0.2.1, e0.2.2]])
    have HE0 := Lib.hid e0
    by_cases s1 : 0 < wp
    · by_cases s2 : 0 < wq
      · have HE := Lib.hid (show rfE W (xg, (xp : Int), (xq : Int)) (yg, yp, yq) = (-1) from by rw [SF.out]; ((repeat' split) <;> first | rfl | (exfalso; omega)))
        clear e0
        go_wp2_with fail
        go_ret
        exact ⟨by rw [HE.out]; rfl, HB.out⟩
      · have HE := Lib.hid (show rfE W (xg, (xp : Int), (xq : Int)) (yg, yp, yq) = 0 from by rw [SF.out]; ((repeat' split) <;> first | rfl | (exfalso; omega)))
        clear e0
        go_wp2_with fail
        go_ret
        exact ⟨by rw [HE.out]; rfl, HB.out⟩
    · by_cases s3 : wp < 0
      · by_cases s4 : wq < 0
        · have HE := Lib.hid (show rfE W (xg, (xp : Int), (xq : Int)) (yg, yp, yq) = 1 from by rw [SF.out]; ((repeat' split) <;> first | rfl | (exfalso; omega)))
          clear e0
          go_wp2_with fail
          go_ret
          exact ⟨by rw [HE.out]; rfl, HB.out⟩
        · have HE := Lib.hid (show rfE W (xg, (xp : Int), (xq : Int)) (yg, yp, yq) = 0 from by rw [SF.out]; ((repeat' split) <;> first | rfl | (exfalso; omega)))
          clear e0
          go_wp2_with fail
          go_ret
          exact ⟨by rw [HE.out]; rfl, HB.out⟩
      · have HE := Lib.hid (show rfE W (xg, (xp : Int), (xq : Int)) (yg, yp, yq) = 0 from by rw [SF.out]; ((repeat' split) <;> first | rfl | (exfalso; omega)))
        clear e0
        go_wp2_with fail
        go_ret
        exact ⟨by rw [HE.out]; rfl, HB.out⟩
  · have heq := fun W' => (eql_rloop xg xp xq yg yp yq W').trans (by rw [show ((xg == yg) && (((xp : Int) == yp) && ((xq : Int) == yq))) = false by simp; intro a b c; exact e0 ⟨a, b, c⟩])
    by_cases g1 : xg = yg
    · have zg1 : (xg == yg : Bool) = true := by simp; omega
      by_cases g2 : (xq : Int) = yp
      · have zg2 : ((xq : Int) == yp : Bool) = true := by simp; omega
        by_cases s5 : wq < 0
        · have HE := Lib.hid (show rfE W (xg, (xp : Int), (xq : Int)) (yg, yp, yq) = (-1) from by rw [SF.out]; ((repeat' split) <;> first | rfl | (exfalso; omega)))
          clear e0 g1 g2
          go_wp2_with fail
          go_ret
          exact ⟨by rw [HE.out]; rfl, HB.out⟩
        · by_cases g3 : (xp : Int) = yq
          · have zg3 : ((xp : Int) == yq : Bool) = true := by simp; omega
            by_cases s6 : 0 < wp
            · have HE := Lib.hid (show rfE W (xg, (xp : Int), (xq : Int)) (yg, yp, yq) = 1 from by rw [SF.out]; ((repeat' split) <;> first | rfl | (exfalso; omega)))
              clear e0 g1 g2 g3
              go_wp2_with fail
              go_ret
              exact ⟨by rw [HE.out]; rfl, HB.out⟩
            · have zy : (yg == xg + 1) = false := by simp; omega
              have HE := Lib.hid (show rfE W (xg, (xp : Int), (xq : Int)) (yg, yp, yq) = 0 from by rw [SF.out]; ((repeat' split) <;> first | rfl | (exfalso; omega)))
              clear e0 g1 g2 g3
              go_wp2_with fail
              go_ret
              exact ⟨by rw [HE.out]; rfl, HB.out⟩
          · have zg3 : ((xp : Int) == yq : Bool) = false := by simp; omega
            have zy : (yg == xg + 1) = false := by simp; omega
            have HE := Lib.hid (show rfE W (xg, (xp : Int), (xq : Int)) (yg, yp, yq) = 0 from by rw [SF.out]; ((repeat' split) <;> first | rfl | (exfalso; omega)))
            clear e0 g1 g2 g3
            go_wp2_with fail
            go_ret
            exact ⟨by rw [HE.out]; rfl, HB.out⟩
      · have zg2 : ((xq : Int) == yp : Bool) = false := by simp; omega
        by_cases g3 : (xp : Int) = yq
        · have zg3 : ((xp : Int) == yq : Bool) = true := by simp; omega
          by_cases s6 : 0 < wp
          · have HE := Lib.hid (show rfE W (xg, (xp : Int), (xq : Int)) (yg, yp, yq) = 1 from by rw [SF.out]; ((repeat' split) <;> first | rfl | (exfalso; omega)))
            clear e0 g1 g2 g3
            go_wp2_with fail
            go_ret
            exact ⟨by rw [HE.out]; rfl, HB.out⟩
          · have zy : (yg == xg + 1) = false := by simp; omega
            have HE := Lib.hid (show rfE W (xg, (xp : Int), (xq : Int)) (yg, yp, yq) = 0 from by rw [SF.out]; ((repeat' split) <;> first | rfl | (exfalso; omega)))
            clear e0 g1 g2 g3
            go_wp2_with fail
            go_ret
            exact ⟨by rw [HE.out]; rfl, HB.out⟩
        · have zg3 : ((xp : Int) == yq : Bool) = false := by simp; omega
          have zy : (yg == xg + 1) = false := by simp; omega
          have HE := Lib.hid (show rfE W (xg, (xp : Int), (xq : Int)) (yg, yp, yq) = 0 from by rw [SF.out]; ((repeat' split) <;> first | rfl | (exfalso; omega)))
          clear e0 g1 g2 g3
          go_wp2_with fail
          go_ret
          exact ⟨by rw [HE.out]; rfl, HB.out⟩
    · have zg1 : (xg == yg : Bool) = false := by simp; omega
      by_cases g4 : yg = xg + 1
      · have zg4 : (yg == xg + 1 : Bool) = true := by simp; omega
        by_cases h1 : (xp : Int) < yp
        · by_cases h2 : yp < (xq : Int)
          · by_cases h3 : (xq : Int) < yq
            · have HE := Lib.hid (show rfE W (xg, (xp : Int), (xq : Int)) (yg, yp, yq) = 1 from by rw [SF.out]; ((repeat' split) <;> first | rfl | (exfalso; omega)))
              clear e0 g1 g4
              go_wp2_with fail
              go_ret
              exact ⟨by rw [HE.out]; rfl, HB.out⟩
            · have HE := Lib.hid (show rfE W (xg, (xp : Int), (xq : Int)) (yg, yp, yq) = 0 from by rw [SF.out]; ((repeat' split) <;> first | rfl | (exfalso; omega)))
              clear e0 g1 g4
              go_wp2_with fail
              go_ret
              exact ⟨by rw [HE.out]; rfl, HB.out⟩
          · have HE := Lib.hid (show rfE W (xg, (xp : Int), (xq : Int)) (yg, yp, yq) = 0 from by rw [SF.out]; ((repeat' split) <;> first | rfl | (exfalso; omega)))
            clear e0 g1 g4
            go_wp2_with fail
            go_ret
            exact ⟨by rw [HE.out]; rfl, HB.out⟩
        · by_cases k1 : yp < (xp : Int)
          · by_cases k2 : (xp : Int) < yq
            · by_cases k3 : yq < (xq : Int)
              · have HE := Lib.hid (show rfE W (xg, (xp : Int), (xq : Int)) (yg, yp, yq) = (-1) from by rw [SF.out]; ((repeat' split) <;> first | rfl | (exfalso; omega)))
                clear e0 g1 g4
                go_wp2_with fail
                go_ret
                exact ⟨by rw [HE.out]; rfl, HB.out⟩
              · have HE := Lib.hid (show rfE W (xg, (xp : Int), (xq : Int)) (yg, yp, yq) = 0 from by rw [SF.out]; ((repeat' split) <;> first | rfl | (exfalso; omega)))
                clear e0 g1 g4
                go_wp2_with fail
                go_ret
                exact ⟨by rw [HE.out]; rfl, HB.out⟩
            · have HE := Lib.hid (show rfE W (xg, (xp : Int), (xq : Int)) (yg, yp, yq) = 0 from by rw [SF.out]; ((repeat' split) <;> first | rfl | (exfalso; omega)))
              clear e0 g1 g4
              go_wp2_with fail
              go_ret
              exact ⟨by rw [HE.out]; rfl, HB.out⟩
          · have HE := Lib.hid (show rfE W (xg, (xp : Int), (xq : Int)) (yg, yp, yq) = 0 from by rw [SF.out]; ((repeat' split) <;> first | rfl | (exfalso; omega)))
            clear e0 g1 g4
            go_wp2_with fail
            go_ret
            exact ⟨by rw [HE.out]; rfl, HB.out⟩
      · have zg4 : (yg == xg + 1 : Bool) = false := by simp; omega
        have HE := Lib.hid (show rfE W (xg, (xp : Int), (xq : Int)) (yg, yp, yq) = 0 from by rw [SF.out]; ((repeat' split) <;> first | rfl | (exfalso; omega)))
        clear e0 g1 g4
        go_wp2_with fail
        go_ret
        exact ⟨by rw [HE.out]; rfl, HB.out⟩
end Go.Proofs.YtbkgpfalljgdcaaGreatDoor

namespace Go.Proofs.YtbkgpfalljgdcaaGreatDoor
open Go.RowKit
set_option linter.unusedVariables false

/-- coefficient i is within the limit -/
def SmI (m : List (List (List TE))) (deg i : Nat) : Prop := -1125899906842624 ≤ (itC m deg)[i]?.getD 0 ∧ (itC m deg)[i]?.getD 0 ≤ 1125899906842624
/-- it has the right residue in field j -/
def MtI (m : List (List (List TE))) (deg j i : Nat) : Prop := ofF (fldL[j]?.getD (0, 0)).1 ((itC m deg)[i]?.getD 0) = gn (resA (fldL[j]?.getD (0, 0)).1 (fldL[j]?.getD (0, 0)).2 m deg) i
set_option maxHeartbeats 8000000 in
set_option maxRecDepth 100000 in
theorem interpolated_no (v : Value) (m : List (List (List TE))) (deg K : Nat) (w : World) (h : EntT w v m) (hn : m.length ≤ 64) (hsq : ∀ r ∈ m, r.length = m.length) (hs : ∀ r ∈ m, ∀ l ∈ r, l.length ≤ 131072 ∧ ∀ t ∈ l, (-1125899906842624 ≤ t.2 ∧ t.2 ≤ 1125899906842624) ∧ t.1 < 131072) (hdeg : deg < 131072)
    (hbt : ∀ r ∈ m, 0 ≤ rowBits r ∧ rowBits r ≤ 75) (hwt : 0 ≤ wgtB m ∧ wgtB m ≤ 4800) (hT : Tb6 w) (hK0 : 1 ≤ K) (hK : K ≤ 16) (hcnt : cntF m = (K : Int)) (hno : ¬ ((∀ i, i < deg + 1 → SmI m deg i) ∧ ∀ j, j < K → ∀ i, i < deg + 1 → MtI m deg j i)) :
    Calls Tryz.prog 55 #[v, .int .i64 (deg : Int)] w fun e w' => e = .returned (.tuple #[.slice none 0 0, .bool false]) ∧ Below w.heap.size w w' := by
  have HWB := Lib.hid (weightBits_any v m w h hn (fun r hr => by rw [hsq r hr]; exact hn) (fun r hr l hl => ⟨(hs r hr l hl).1, fun t ht => ((hs r hr l hl).2 t ht).1⟩) hbt)
  have HFI := Lib.hid (fun W (hb : Below w.heap.size w W) => fields_any K W hK (hT.below hb))
  have HRE := Lib.hid (fun (j : Nat) (hj : j < K) (W : World) (hb : Below w.heap.size w W) => (show Calls Tryz.prog 71 #[.agg #[.int .u64 ((fldL[j]?.getD (0, 0)).1 : Nat), .int .u64 ((fldL[j]?.getD (0, 0)).2 : Nat)], v, .int .i64 (deg : Int)] W fun e w' => ∃ (g : Nat) (X : List Nat), e = .returned (.slice (some ⟨g, 0, none⟩) (deg + 1) (2 ^ lgN deg)) ∧ W.heap.size ≤ g ∧ Arr w' g 115 (uc X) ∧ X.length = 2 ^ lgN deg ∧ X.take (deg + 1) = resA (fldL[j]?.getD (0, 0)).1 (fldL[j]?.getD (0, 0)).2 m deg ∧ Below W.heap.size W w' from by
    have hj2 : j < fldL.length := by rw [fldL_len]; omega
    rw [List.getElem?_eq_getElem hj2]
    have hf := fldL_ok hj2
    exact fresidues_any _ _ deg v m W (h.below hb) hn hsq (fun r hr l hl => ⟨fun t ht => ⟨by have := ((hs r hr l hl).2 t ht).1; show t.2.natAbs < fldL[j].1; omega, ((hs r hr l hl).2 t ht).2⟩, (hs r hr l hl).1⟩) hdeg hf.1 hf.2.2.1 hf.2.2.2))
  have HNO := Lib.hid hno
  unfold cntF at hcnt
  have HCN := Lib.hid hcnt
  obtain ⟨A, c, rfl⟩ := h.form
  obtain ⟨n, hnn⟩ : ∃ n, n = m.length := ⟨_, rfl⟩
  rw [← hnn] at hn HWB HRE ⊢
  generalize wgtB m = W0 at *
  clear h hsq hs hbt hno hT hcnt hnn
  go_enter Tryz.func55, Tryz.ntmps55
  go_upto_region 2 with (go_at_call 69; refine HWB.out.mono ?_; rintro e w' ⟨rfl, hb⟩)
  rw [HCN.out]
  have HB := Lib.hid hb
  have HKL := Lib.hid (show (fldL.take K).length = K by rw [List.length_take, fldL_len]; omega)
  clear hb HCN HWB
  go_upto_region 3 with fail
  go_upto_region 4 with (go_at_call 70; refine (HFI.out _ HB.out).mono ?_; rintro e w2 ⟨vf, rfl, hof, hbf⟩; obtain ⟨Af, cf, hvf⟩ := hof.form; rw [HKL.out] at hvf; subst hvf)
  have HFS := Lib.hid hof.sl
  have HB2 := Lib.hid (HB.out.trans (hbf.mono HB.out.size))
  clear hof hbf HFI HB
  go_wp2_with fail
  go_loopg [7, 9, 10, 11, 12, 13, 14, 24] K (fun gk s7 s9 s10 s11 s12 s13 s14 s24 wr => ∃ (j : Nat) (v7 : Value), j ≤ K ∧ gk = K - j ∧ s24 = .int .i64 (j : Int) ∧ s7 = v7 ∧ ((j = 0 ∧ v7 = .slice none 0 0) ∨ (0 < j ∧ ∃ g : Nat, v7 = .slice (some ⟨g, 0, none⟩) (deg + 1) (deg + 1) ∧ w2.heap.size ≤ g ∧ Arr wr g 3 ((itC m deg).map (Value.int .i64)))) ∧ Below w2.heap.size w2 wr ∧ (∀ jx, jx < j → ∀ i, i < deg + 1 → MtI m deg jx i) ∧ (0 < j → ∀ i, i < deg + 1 → SmI m deg i))
  case atStart => exact ⟨0, _, by omega, rfl, rfl, rfl, .inl ⟨rfl, rfl⟩, Below.refl _ _, fun jx h => absurd h (by omega), fun h => absurd h (by omega)⟩
  case round =>
    obtain ⟨j, v7, hj, rfl, rfl, h77, hor, hb, hmt, hsm⟩ := hrel
    have HMT := Lib.hid hmt
    have HSM := Lib.hid hsm
    clear hmt hsm
    have h78 := h77.symm
    clear h77
    subst h78
    obtain ⟨wo, rfl⟩ : ∃ wo : World, wo = wr := ⟨_, rfl⟩
    by_cases hjt : j < K
    · have z1 : (j : Int) < (K : Int) := by omega
      have hjl : j < (fldL.take K).length := by rw [HKL.out]; exact hjt
      have hj2 : j < fldL.length := by rw [fldL_len]; omega
      obtain ⟨b3, o3, hA, hnm, q0, q1⟩ := HFS.out.fat hjl
      clear hnm
      subst hA
      have hPJ : (fldL.take K)[j] = fldL[j]?.getD (0, 0) := by rw [List.getElem_take, List.getElem?_eq_getElem hj2]; rfl
      have hf := fldL_ok hj2
      rw [show fldL[j] = fldL[j]?.getD (0, 0) by rw [List.getElem?_eq_getElem hj2]; rfl] at hf
      have HREJ := Lib.hid (HRE.out j hjt)
      have HMJ := Lib.hid (fun i (h : ofF (fldL[j]?.getD (0, 0)).1 ((itC m deg)[i]?.getD 0) = gn (resA (fldL[j]?.getD (0, 0)).1 (fldL[j]?.getD (0, 0)).2 m deg) i) => (show MtI m deg j i from h))
      have HCJ := Lib.hid (fun (e : j = 0) => (show itC m deg = (resA (fldL[j]?.getD (0, 0)).1 (fldL[j]?.getD (0, 0)).2 m deg).map (liftF (fldL[j]?.getD (0, 0)).1) by subst e; rfl))
      rw [hPJ] at q0 q1
      clear hPJ hjl hj2
      generalize fldL[j]?.getD (0, 0) = pj at *
      obtain ⟨p, rt⟩ := pj
      simp only at q0 q1 hf HREJ HMJ HCJ
      have c1 := (hb.cell (block_lt_of_cell q0)).trans q0
      have c2 := (hb.cell (block_lt_of_cell q1)).trans q1
      have HB3 := Lib.hid (hb.alloc hb.size (.cells #[.int .u64 (p : Nat), .int .u64 (rt : Nat)] 117))
      have HTB := Lib.hid (show Arr (wo.alloc (.cells #[.int .u64 (p : Nat), .int .u64 (rt : Nat)] 117)) wo.heap.size 117 [.int .u64 (p : Int), .int .u64 (rt : Int)] from Arr.new wo 117 [_, _])
      have HOR := Lib.hid (show (j = 0 ∧ v7 = .slice none 0 0) ∨ (0 < j ∧ ∃ g : Nat, v7 = .slice (some ⟨g, 0, none⟩) (deg + 1) (deg + 1) ∧ w2.heap.size ≤ g ∧ Arr (wo.alloc (.cells #[.int .u64 (p : Nat), .int .u64 (rt : Nat)] 117)) g 3 ((itC m deg).map (Value.int .i64))) from by
        rcases hor with h0 | ⟨h0, g, h1, hg, ha⟩
        · exact .inl h0
        · exact .inr ⟨h0, g, h1, hg, ha.alloc _⟩)
      clear hb hor q0 q1
      go_upto_region 6 with fail
      generalize wo.alloc (.cells #[.int .u64 (p : Nat), .int .u64 (rt : Nat)] 117) = w3 at *
      generalize wo.heap.size = tb at *
      clear c1 c2
      have y0 := HTB.out.cell 0
      have y1 := HTB.out.cell 1
      go_upto_region 7 with (go_at_call 71; refine (HREJ.out _ (HB2.out.trans (HB3.out.mono HB2.out.size))).mono ?_; rintro e w4 ⟨gr_, X, rfl, hg, hax, hxl, hxt, hbx⟩)
      have HTB4 := Lib.hid (HTB.out.below hbx HTB.out.lt)
      have HB4 := Lib.hid (HB3.out.trans (hbx.mono HB3.out.size))
      have HAX := Lib.hid hax
      have HXL := Lib.hid (show X.length = 2 ^ lgN deg ∧ X.take (deg + 1) = resA p rt m deg from ⟨hxl, hxt⟩)
      have HOR4 := Lib.hid (show (j = 0 ∧ v7 = .slice none 0 0) ∨ (0 < j ∧ ∃ g : Nat, v7 = .slice (some ⟨g, 0, none⟩) (deg + 1) (deg + 1) ∧ w2.heap.size ≤ g ∧ Arr w4 g 3 ((itC m deg).map (Value.int .i64))) from by
        rcases HOR.out with h0 | ⟨h0, g, h1, hg, ha⟩
        · exact .inl h0
        · exact .inr ⟨h0, g, h1, hg, ha.below hbx ha.lt⟩)
      clear HOR HTB HB3 hax hxl hxt hbx hg HREJ HRE y0 y1
      obtain ⟨B0, hB0⟩ : ∃ b : Bool, b = decide (j = 0) := ⟨_, rfl⟩
      have HB0 := Lib.hid hB0
      clear hB0
      go_cut [24, 33] from 24 to 79 (fun s24 s33 wx => s24 = .int .i64 (j : Int) ∧ s33 = .bool B0 ∧ wx = w4)
      case first =>
        rcases HOR4.out with ⟨h0, h1⟩ | ⟨h0, g, h1, hg, ha⟩
        · subst h1
          have HT0 := Lib.hid (show B0 = true by rw [HB0.out]; simpa using h0)
          have hnil := fun W => eql_nil_0 W
          clear h0 HOR4
          go_wp2_with fail
          go_meet
          case rel => exact ⟨rfl, by rw [HT0.out], rfl⟩
        · subst h1
          have HT0 := Lib.hid (show B0 = false by rw [HB0.out]; simp; omega)
          have hnil := fun W => eql_nil_1 ⟨g, 0, none⟩ (deg + 1) (deg + 1) W
          clear h0 HOR4 ha hg
          go_wp2_with fail
          go_meet
          case rel => exact ⟨rfl, by rw [HT0.out], rfl⟩
      case rest =>
        obtain ⟨rfl, rfl, hwc⟩ := hcut
        rw [hwc]
        clear hwc
        go_upto_if 33 with fail
        go_cut [7, 24] from 24 to 79 (fun s7 s24 wx => s24 = .int .i64 (j : Int) ∧ ∃ gc : Nat, s7 = .slice (some ⟨gc, 0, none⟩) (deg + 1) (deg + 1) ∧ w2.heap.size ≤ gc ∧ Arr wx gc 3 ((itC m deg).map (Value.int .i64)) ∧ Arr wx gr_ 115 (uc X) ∧ Arr wx tb 117 [.int .u64 (p : Int), .int .u64 (rt : Int)] ∧ Below w2.heap.size w2 wx ∧ ∀ i, i < deg + 1 → SmI m deg i)
        case first =>
          rcases HOR4.out with ⟨h0, h1⟩ | ⟨h0, g, h1, hg, ha⟩
          · have hT0 : B0 = true := by rw [HB0.out]; simpa using h0
            subst h1
            subst hT0
            have HIC := Lib.hid (HCJ.out h0)
            have hmk := fun W => mk_i64 (deg + 1) (by omega) W
            rw [show (((deg + 1 : Nat)) : Int) = (deg : Int) + 1 by omega] at hmk
            have hAl := (Below.refl w4.heap.size w4).alloc (Nat.le_refl _) (.cells (rowOf (List.replicate (deg + 1) (.int .i64 0))) 3)
            have HA5 := Lib.hid (HAX.out.below hAl HAX.out.lt)
            have HT5 := Lib.hid (HTB4.out.below hAl HTB4.out.lt)
            have HB5 := Lib.hid (HB4.out.trans (hAl.mono HB4.out.size))
            have HN5 := Lib.hid (show gr_ ≠ w4.heap.size ∧ tb ≠ w4.heap.size ∧ w2.heap.size ≤ w4.heap.size from ⟨by have := HAX.out.lt; omega, by have := HTB4.out.lt; omega, HB4.out.size⟩)
            have HC5 := Lib.hid (show Arr (w4.alloc (.cells (rowOf (List.replicate (deg + 1) (.int .i64 0))) 3)) w4.heap.size 3 (((itC m deg).take 0 ++ List.replicate (deg + 1 - 0) 0).map (Value.int .i64)) by
              have h1 := Arr.new w4 3 (List.replicate (deg + 1) (.int .i64 0))
              simpa using h1)
            clear hAl h0
            go_upto_region 9 with fail
            generalize w4.alloc (.cells (rowOf (List.replicate (deg + 1) (.int .i64 0))) 3) = w5 at *
            generalize w4.heap.size = gc at *
            clear hmk HAX HTB4 HB4 HOR4
            go_wp2_with fail
            go_loopg [11, 12, 39] (deg + 1) (fun gk s11 s12 s39 wr => ∃ iz : Nat, iz ≤ deg + 1 ∧ gk = deg + 1 - iz ∧ s39 = .int .i64 (iz : Int) ∧ Arr wr gc 3 (((itC m deg).take iz ++ List.replicate (deg + 1 - iz) 0).map (Value.int .i64)) ∧ Wr [gc] w5 wr ∧ ∀ i, i < iz → SmI m deg i)
            case atStart => exact ⟨0, by omega, rfl, rfl, HC5.out, Wr.refl _ _, fun i h => absurd h (by omega)⟩
            case round =>
              clear HC5
              obtain ⟨iz, hiz, rfl, rfl, ac, ho, hsz⟩ := hrel
              have HSZ := Lib.hid hsz
              clear hsz
              obtain ⟨wq, rfl⟩ : ∃ wq : World, wq = wr := ⟨_, rfl⟩
              have hA := HA5.out.wr ho (fun e => HN5.out.1 (List.mem_singleton.1 e))
              have hTq := HT5.out.wr ho (fun e => HN5.out.2.1 (List.mem_singleton.1 e))
              have hBq := HB5.out.trans (ho.below HB5.out.size (fun x hx => by rw [List.mem_singleton.1 hx]; exact HN5.out.2.2))
              by_cases hit : iz < deg + 1
              · have z2 : (iz : Int) < (deg : Int) + 1 := by omega
                have hcl : iz < (itC m deg).length := by rw [itC_length]; exact hit
                have HSI := Lib.hid (fun (h : -1125899906842624 ≤ (itC m deg)[iz] ∧ (itC m deg)[iz] ≤ 1125899906842624) => (show SmI m deg iz from by unfold SmI; rw [List.getElem?_eq_getElem hcl]; exact h))
                have HBE := Lib.hid (HB2.out.trans ((hBq).mono HB2.out.size))
                have c1 := (hA.cell iz).trans (uc_get (by rw [HXL.out.1]; have := lgN_gt deg; omega))
                have hxr : gn X iz = gn (resA p rt m deg) iz := by
                  rw [← HXL.out.2]; unfold gn; rw [List.getElem?_take, if_pos hit]
                have hlf : (itC m deg)[iz] = liftF p (gn X iz) := by
                  have hrl : iz < (resA p rt m deg).length := by rw [resA_length]; exact hit
                  have h1 : (itC m deg)[iz]? = ((resA p rt m deg).map (liftF p))[iz]? := by rw [HIC.out]
                  rw [List.getElem?_eq_getElem hcl, List.getElem?_map, List.getElem?_eq_getElem hrl, Option.map_some] at h1
                  injection h1 with h1
                  rw [h1, hxr]; unfold gn; rw [List.getElem?_eq_getElem hrl]; rfl
                have hxp : gn X iz < p := by rw [hxr]; exact resA_lt (show 0 < p by have := hf.1; omega) _ _ _
                have HLF := Lib.hid (fun W => flift_any p rt (gn X iz) W hf.2.2.1 hxp)
                rw [← hlf] at HLF
                have y0 := hTq.cell 0
                have y1 := hTq.cell 1
                have hset : ((((itC m deg).take iz ++ List.replicate (deg + 1 - iz) 0).map (Value.int .i64)).set iz (.int .i64 (itC m deg)[iz])) = ((itC m deg).take (iz + 1) ++ List.replicate (deg + 1 - (iz + 1)) 0).map (Value.int .i64) := by
                  rw [← List.map_set, List.set_append_right iz _ (by rw [List.length_take]; omega), List.length_take, Nat.min_eq_left (by omega), Nat.sub_self, show deg + 1 - iz = deg + 1 - (iz + 1) + 1 by omega, List.replicate_succ, List.set_cons_zero, List.take_succ_eq_append_getElem hcl, List.append_assoc, List.singleton_append]
                have HCF := Lib.hid (fun (w' : World) (hb : Below wq.heap.size wq w') => (show w'.cell? ⟨gc, iz, none⟩ = some (.int .i64 0) ∧ w'.frozen? ⟨gc, iz, none⟩ = false from
                  ⟨((ac.below hb ac.lt).cell iz).trans (by rw [List.getElem?_map, List.getElem?_append_right (by rw [List.length_take]; omega), List.length_take, Nat.min_eq_left (by omega), Nat.sub_self, List.getElem?_replicate, if_pos (by omega)]; rfl), (ac.below hb ac.lt).frozen iz⟩))
                have HNX := Lib.hid (fun (w' : World) (hb : Below wq.heap.size wq w') => (show Arr (w'.setCell ⟨gc, iz, none⟩ (.int .i64 (itC m deg)[iz])) gc 3 (((itC m deg).take (iz + 1) ++ List.replicate (deg + 1 - (iz + 1)) 0).map (Value.int .i64)) ∧ Wr [gc] w5 (w'.setCell ⟨gc, iz, none⟩ (.int .i64 (itC m deg)[iz])) from by
                  have h1 := (ac.below hb ac.lt).set iz (.int .i64 (itC m deg)[iz])
                  rw [hset] at h1
                  exact ⟨h1, (ho.trans (Wr.of_below hb)).setCell (List.mem_singleton.2 rfl) iz _⟩))
                clear hset hlf hxr
                generalize (itC m deg)[iz] = cv at *
                generalize gn X iz = xv at *
                have HBS := Lib.hid (fun (w' : World) (hb : Below wq.heap.size wq w') => (show Below w.heap.size w (w'.setCell ⟨gc, iz, none⟩ (.int .i64 cv)) from (HBE.out.trans (hb.mono HBE.out.size)).setCell (by have := HB2.out.size; have := HN5.out.2.2; show w.heap.size ≤ gc; omega) _))
                clear hA hTq hBq ac ho hcl
                by_cases z8 : (1125899906842624 : Int) < cv
                · go_wp2_with (go_at_call 72; refine (HLF.out _).mono ?_; rintro e w' ⟨rfl, hbm⟩; obtain ⟨c8, c9⟩ := HCF.out w' hbm; have HBX := Lib.hid (HBS.out w' hbm))
                  go_ret2
                  exact ⟨rfl, HBX.out⟩
                · by_cases z9 : cv < -1125899906842624
                  · go_wp2_with (go_at_call 72; refine (HLF.out _).mono ?_; rintro e w' ⟨rfl, hbm⟩; obtain ⟨c8, c9⟩ := HCF.out w' hbm; have HBX := Lib.hid (HBS.out w' hbm))
                    go_ret2
                    exact ⟨rfl, HBX.out⟩
                  · have HSX := Lib.hid (HSI.out (by omega))
                    clear HSI
                    go_wp2_with (go_at_call 72; refine (HLF.out _).mono ?_; rintro e w' ⟨rfl, hbm⟩; obtain ⟨c8, c9⟩ := HCF.out w' hbm; have HBX := Lib.hid (HBS.out w' hbm))
                    have HNY := Lib.hid (HNX.out _ hbm)
                    go_roundg (deg + 1 - (iz + 1))
                    case measure => omega
                    case rel => exact ⟨iz + 1, by omega, rfl, by go_num, HNY.out.1, HNY.out.2, fun i hi => by
                      rcases Nat.lt_or_ge i iz with q | q
                      · exact HSZ.out i q
                      · rw [show i = iz by omega]; exact HSX.out⟩
              · have z2 : ¬ ((iz : Int) < (deg : Int) + 1) := by omega
                have e9 : iz = deg + 1 := by omega
                rw [e9, Nat.sub_self, List.replicate_zero, List.append_nil, ← itC_length m deg, List.take_length] at ac
                have HAC := Lib.hid ac
                have HAQ := Lib.hid hA
                have HTQ := Lib.hid hTq
                have HBQ := Lib.hid hBq
                have HE9 := Lib.hid e9
                clear ac hA hTq hBq ho e9
                go_wp2_with fail
                go_meet
                case rel => exact ⟨rfl, gc, rfl, HN5.out.2.2, HAC.out, HAQ.out, HTQ.out, HBQ.out, fun i hi => HSZ.out i (by have := HE9.out; omega)⟩
          · have hT0 : B0 = false := by rw [HB0.out]; simp; omega
            subst h1
            subst hT0
            have HA := Lib.hid ha
            have HG := Lib.hid hg
            have HS0 := Lib.hid (HSM.out h0)
            clear ha hg HOR4
            go_wp2_with fail
            go_meet
            case rel => exact ⟨rfl, g, rfl, HG.out, HA.out, HAX.out, HTB4.out, HB4.out, HS0.out⟩
        case rest =>
          obtain ⟨rfl, gc, rfl, hgc, hac, hax, htb, hb, hsa⟩ := hcut
          have HSA := Lib.hid hsa
          clear hsa
          have HAC := Lib.hid hac
          have HAX2 := Lib.hid hax
          have HTB := Lib.hid htb
          have HGC := Lib.hid hgc
          have HBC := Lib.hid hb
          clear hac hax htb hgc hb HAX HTB4 HB4 HOR4 HCJ
          go_wp2_with fail
          go_loopg [13, 14, 65] (deg + 1) (fun gk s13 s14 s65 wr => ∃ iz : Nat, iz ≤ deg + 1 ∧ gk = deg + 1 - iz ∧ s65 = .int .i64 (iz : Int) ∧ Below wc.heap.size wc wr ∧ ∀ i, i < iz → MtI m deg j i)
          case atStart => exact ⟨0, by omega, rfl, rfl, Below.refl _ _, fun i h => absurd h (by omega)⟩
          case round =>
            obtain ⟨iz, hiz, rfl, rfl, hb, hmz⟩ := hrel
            have HMZ := Lib.hid hmz
            clear hmz
            obtain ⟨wq, rfl⟩ : ∃ wq : World, wq = wr := ⟨_, rfl⟩
            by_cases hit : iz < deg + 1
            · have z2 : (iz : Int) < (deg : Int) + 1 := by omega
              have hcl : iz < (itC m deg).length := by rw [itC_length]; exact hit
              have hcv : -1125899906842624 ≤ (itC m deg)[iz] ∧ (itC m deg)[iz] ≤ 1125899906842624 := by
                have h1 := HSA.out iz hit
                unfold SmI at h1
                rw [List.getElem?_eq_getElem hcl] at h1
                exact h1
              have HMI := Lib.hid (fun (h : ofF p (itC m deg)[iz] = gn X iz) => HMJ.out iz (by
                rw [List.getElem?_eq_getElem hcl, Option.getD_some, h, ← HXL.out.2]
                unfold gn
                rw [List.getElem?_take, if_pos hit]))
              have hax2 := HAX2.out.below hb HAX2.out.lt
              have c1 := (hax2.cell iz).trans (uc_get (by rw [HXL.out.1]; have := lgN_gt deg; omega))
              have hac2 := HAC.out.below hb HAC.out.lt
              have HCC := Lib.hid (fun W (hb : Below wq.heap.size wq W) => (((hac2.below hb hac2.lt).cell iz).trans (by rw [List.getElem?_map, List.getElem?_eq_getElem hcl]; rfl) : W.cell? ⟨gc, iz, none⟩ = some (.int .i64 (itC m deg)[iz])))
              have HTB0 := HTB
              clear HTB
              have HTB := Lib.hid (HTB0.out.below hb HTB0.out.lt)
              have HOF := Lib.hid (fun W => fof_any p rt (itC m deg)[iz] W hf.2.2.1 (by have := hf.2.1; omega))
              have HZ := Lib.hid z2
              have HBQ := Lib.hid hb
              generalize (itC m deg)[iz] = cv at *
              generalize ofF p cv = yv at *
              generalize gn X iz = xv at *
              obtain ⟨bq, hbq⟩ : ∃ bq : Bool, bq = (((yv : Nat) : Int) != (xv : Int)) := ⟨_, rfl⟩
              have HNE := Lib.hid hbq.symm
              have HBQ2 := Lib.hid hbq
              clear hbq
              clear hb hax2 hac2 hcl hcv
              go_upto_region 19 with fail
              clear c1
              refine wp_region_phy (fun a b => Below a.heap.size a b) (fun h k => h.trans (k.mono h.size)) ((Below.refl _ _).drew) (by kernel_rfl) (by kernel_rfl) (by kernel_rfl) (by kernel_rfl) (phiT (fun i => ([some (.agg #[.int .u64 (p : Int), .int .u64 (rt : Int)]), some (.slice (some ⟨gc, 0, none⟩) (deg + 1) (deg + 1)), some (.int .i64 (iz : Int)), some (.pointer (some ⟨gc, iz, none⟩)), some (.int .i64 cv), some (.int .u64 ((yv : Nat) : Int)), some (.int .u64 ((xv : Nat) : Int)), some (.bool bq)] : List (Option Value)).getD i none) (fun i v w => True)) (fun i v w w' h hb => ?_) ⟨?_, ?_, ?_, ?_, ?_, ?_, ?_, ?_, trivial⟩ ?_
              · unfold phiT at h ⊢
                split
                · next u hu => rw [hu] at h; exact h
                · next hu =>
                  rw [hu] at h
                  exact True.intro
              · intro x w1 bA hT hdep hold hb
                refine .inl ⟨trivial, ?_⟩
                have e9 : bA.tmps[9]?.getD undef = .pointer (some ⟨tb, 0, none⟩) := hb 9
                have cc0 := (HTB.out.below hT HTB.out.lt).cell 0
                have cc1 := (HTB.out.below hT HTB.out.lt).cell 1
                refine phx_run (.agg #[.int .u64 (p : Int), .int .u64 (rt : Int)]) ?_ (Below.refl _ _) rfl
                clear hb hdep hold
                go_simp
              · intro x w1 bA hT hdep hold hb
                refine .inl ⟨trivial, ?_⟩
                have e7 : bA.tmps[7]?.getD undef = .slice (some ⟨gc, 0, none⟩) (deg + 1) (deg + 1) := hb 7
                refine phx_run (.slice (some ⟨gc, 0, none⟩) (deg + 1) (deg + 1)) ?_ (Below.refl _ _) rfl
                clear hb hdep hold
                go_simp
              · intro x w1 bA hT hdep hold hb
                refine .inl ⟨trivial, ?_⟩
                have e13 : bA.tmps[13]?.getD undef = .int .i64 (iz : Int) := hb 13
                refine phx_run (.int .i64 (iz : Int)) ?_ (Below.refl _ _) rfl
                clear hb hdep hold
                go_simp
              · intro x w1 bA hT hdep hold hb
                refine .inl ⟨trivial, ?_⟩
                have e71 : bA.tmps[71]?.getD undef = .slice (some ⟨gc, 0, none⟩) (deg + 1) (deg + 1) := (hb 71).trans (hdep 1 (by decide))
                have e72 : bA.tmps[72]?.getD undef = .int .i64 (iz : Int) := (hb 72).trans (hdep 2 (by decide))
                have zz := HZ.out
                refine phx_run (.pointer (some ⟨gc, iz, none⟩)) ?_ (Below.refl _ _) rfl
                clear hb hdep hold
                go_simp
              · intro x w1 bA hT hdep hold hb
                refine .inl ⟨trivial, ?_⟩
                have e73 : bA.tmps[73]?.getD undef = .pointer (some ⟨gc, iz, none⟩) := (hb 73).trans (hdep 3 (by decide))
                have cc := HCC.out w1 hT
                refine phx_run (.int .i64 cv) ?_ (Below.refl _ _) rfl
                clear hb hdep hold
                go_simp
              · intro x w1 bA hT hdep hold hb
                refine .inl ⟨trivial, ?_⟩
                have e70 : bA.tmps[70]?.getD undef = .agg #[.int .u64 (p : Int), .int .u64 (rt : Int)] := (hb 70).trans (hdep 0 (by decide))
                have e74 : bA.tmps[74]?.getD undef = .int .i64 cv := (hb 74).trans (hdep 4 (by decide))
                refine phx_call ?_ ((HOF.out w1).mono fun e w' h => ⟨_, h.1, h.2, rfl⟩)
                clear hb hdep hold
                go_simp
              · intro x w1 bA hT hdep hold hb
                refine .inl ⟨trivial, ?_⟩
                have e14 : bA.tmps[14]?.getD undef = .int .u64 ((xv : Nat) : Int) := hb 14
                refine phx_run (.int .u64 ((xv : Nat) : Int)) ?_ (Below.refl _ _) rfl
                clear hb hdep hold
                go_simp
              · intro x w1 bA hT hdep hold hb
                refine .inl ⟨trivial, ?_⟩
                have e75 : bA.tmps[75]?.getD undef = .int .u64 ((yv : Nat) : Int) := (hb 75).trans (hdep 5 (by decide))
                have e76 : bA.tmps[76]?.getD undef = .int .u64 ((xv : Nat) : Int) := (hb 76).trans (hdep 6 (by decide))
                have zn := HNE.out
                refine phx_run (.bool bq) ?_ (Below.refl _ _) rfl
                clear hb hdep hold
                go_simp
              intro x w1 hT hall
              have x0e : x 0 = .agg #[.int .u64 (p : Int), .int .u64 (rt : Int)] := hall 0 (by decide)
              have x1e : x 1 = .slice (some ⟨gc, 0, none⟩) (deg + 1) (deg + 1) := hall 1 (by decide)
              have x2e : x 2 = .int .i64 (iz : Int) := hall 2 (by decide)
              have x3e : x 3 = .pointer (some ⟨gc, iz, none⟩) := hall 3 (by decide)
              have x4e : x 4 = .int .i64 cv := hall 4 (by decide)
              have x5e : x 5 = .int .u64 ((yv : Nat) : Int) := hall 5 (by decide)
              have x6e : x 6 = .int .u64 ((xv : Nat) : Int) := hall 6 (by decide)
              have x7e : x 7 = .bool bq := hall 7 (by decide)
              simp only [putAll, dstOf, Act.put, List.map_cons, List.map_nil, List.setIfInBounds_toArray, List.set_cons_succ, List.set_cons_zero, Nat.reduceAdd, x0e, x1e, x2e, x3e, x4e, x5e, x6e, x7e]
              clear x0e x1e x2e x3e x4e x5e x6e x7e hall
              have HBR := Lib.hid (HBQ.out.trans (hT.mono HBQ.out.size))
              clear hT HCC HOF
              cases bq with
              | true =>
                go_wp2_with fail
                go_ret2
                exact ⟨rfl, HB2.out.trans ((HBC.out.trans (HBR.out.mono HBC.out.size)).mono HB2.out.size)⟩
              | false =>
                have HMQ := Lib.hid (HMI.out (by have := HBQ2.out; simp at this; omega))
                clear HMI
                go_wp2_with fail
                go_roundg (deg + 1 - (iz + 1))
                case measure => omega
                case rel => exact ⟨iz + 1, by omega, rfl, by go_num, HBR.out, fun i hi => by
                  rcases Nat.lt_or_ge i iz with q | q
                  · exact HMZ.out i q
                  · rw [show i = iz by omega]; exact HMQ.out⟩
            · have z2 : ¬ ((iz : Int) < (deg : Int) + 1) := by omega
              have HA := Lib.hid (HAC.out.below hb HAC.out.lt)
              have HB := Lib.hid (HBC.out.trans (hb.mono HBC.out.size))
              clear hb
              go_wp2_with fail
              go_roundg (K - (j + 1))
              case measure => omega
              case rel => exact ⟨j + 1, _, by omega, rfl, by go_num, rfl, .inr ⟨by omega, gc, rfl, HGC.out, HA.out⟩, HB.out, fun jx hjx => by
                rcases Nat.lt_or_ge jx j with q | q
                · exact HMT.out jx q
                · rw [show jx = j by omega]; exact fun i hi => HMZ.out i (by omega), fun _ => HSA.out⟩
    · have z1 : ¬ ((j : Int) < (K : Int)) := by omega
      rcases hor with ⟨h0, h1⟩ | ⟨h0, g, h1, hg, ha⟩
      · omega
      · exact absurd ⟨HSM.out h0, fun jx hjx => HMT.out jx (by omega)⟩ HNO.out
end Go.Proofs.YtbkgpfalljgdcaaGreatDoor
