/- surface.element: plain, the walk. -/
/- surface.Matrix, Size. -/
import Derived.Test.YtbkgpfalljgdcaaGreatDoorZLpw
import Derived.Test.YtbkgpfalljgdcaaGreatDoorZSfp
namespace Go.Proofs.YtbkgpfalljgdcaaGreatDoor
open Go.RowKit
set_option linter.unusedVariables false

def wAt (W : List Int) (k : Int) : Int := W[k.toNat]?.getD 0
/-- the element of the Seifert matrix for two loops -/
def sfE (W : List Int) (x y : L3) : Int :=
  if x = y then (if 0 < wAt W x.2.1 ∧ 0 < wAt W x.2.2 then -1 else if wAt W x.2.1 < 0 ∧ wAt W x.2.2 < 0 then 1 else 0)
  else if x.1 = y.1 ∧ x.2.2 = y.2.1 then (if wAt W x.2.2 < 0 then -1 else 0)
  else if x.1 = y.1 ∧ x.2.1 = y.2.2 then (if 0 < wAt W x.2.1 then 1 else 0)
  else if y.1 = x.1 + 1 ∧ x.2.1 < y.2.1 ∧ y.2.1 < x.2.2 ∧ x.2.2 < y.2.2 then 1
  else if y.1 = x.1 + 1 ∧ y.2.1 < x.2.1 ∧ x.2.1 < y.2.2 ∧ y.2.2 < x.2.2 then -1 else 0
theorem sfE_eq (W : List Int) (xg xp xq yg yp yq : Int) : sfE W (xg, xp, xq) (yg, yp, yq) =
    if xg = yg ∧ xp = yp ∧ xq = yq then (if 0 < wAt W xp ∧ 0 < wAt W xq then -1 else if wAt W xp < 0 ∧ wAt W xq < 0 then 1 else 0)
    else if xg = yg ∧ xq = yp then (if wAt W xq < 0 then -1 else 0)
    else if xg = yg ∧ xp = yq then (if 0 < wAt W xp then 1 else 0)
    else if yg = xg + 1 ∧ xp < yp ∧ yp < xq ∧ xq < yq then 1
    else if yg = xg + 1 ∧ yp < xp ∧ xp < yq ∧ yq < xq then -1 else 0 := by
  unfold sfE
  simp only [Prod.mk.injEq]
theorem eql_loop (a b c a' b' c' : Int) (W : World) : Sem.run Tryz.prog (binOp .eql 50 (.agg #[.int .i64 a, .int .i64 b, .int .i64 c]) (.agg #[.int .i64 a', .int .i64 b', .int .i64 c'])) W = .ok (.bool ((a == a') && ((b == b') && (c == c')))) W := by
  by_cases h1 : a = a'
  · subst h1
    by_cases h2 : b = b'
    · subst h2
      by_cases h3 : c = c'
      · subst h3
        go_simp
      · have z : (c == c') = false := by simp [h3]
        rw [z]
        go_simp
    · have z : (b == b') = false := by simp [h2]
      rw [z]
      go_simp
  · have z : (a == a') = false := by simp [h1]
    rw [z]
    go_simp
set_option maxHeartbeats 8000000 in
set_option maxRecDepth 100000 in
theorem element_any (vw : Value) (W : List Int) (xg yg yp yq : Int) (xp xq : Nat) (w : World) (h : Ints w vw W) (hl : W.length ≤ 1000000) (hxp : xp < W.length) (hxq : xq < W.length) (hg : -100 ≤ xg ∧ xg ≤ 100) :
    Calls Tryz.prog 19 #[vw, .agg #[.int .i64 xg, .int .i64 (xp : Int), .int .i64 (xq : Int)], .agg #[.int .i64 yg, .int .i64 yp, .int .i64 yq]] w fun e w' => e = .returned (.int .i64 (sfE W (xg, (xp : Int), (xq : Int)) (yg, yp, yq))) ∧ Below w.heap.size w w' := by
  have HP := Lib.hid (fun W' (hb : Below w.heap.size w W') => (h.below hb))
  obtain ⟨A, c, hv, -, -⟩ := h
  subst hv
  have SF := Lib.hid (sfE_eq W xg xp xq yg yp yq)
  have hwp : W[xp]'hxp = wAt W xp := by unfold wAt; rw [Int.toNat_natCast, List.getElem?_eq_getElem hxp, Option.getD_some]
  have hwq : W[xq]'hxq = wAt W xq := by unfold wAt; rw [Int.toNat_natCast, List.getElem?_eq_getElem hxq, Option.getD_some]
  have zp : (xp : Int) < (W.length : Int) := by omega
  have zq : (xq : Int) < (W.length : Int) := by omega
  have hW : ∀ W', W' = (w.alloc (.cells #[.int .i64 xg, .int .i64 (xp : Int), .int .i64 (xq : Int)] 50)).alloc (.cells #[.int .i64 yg, .int .i64 yp, .int .i64 yq] 50) → Arr W' w.heap.size 50 [.int .i64 xg, .int .i64 (xp : Int), .int .i64 (xq : Int)] ∧ Arr W' (w.heap.size + 1) 50 [.int .i64 yg, .int .i64 yp, .int .i64 yq] ∧ Below w.heap.size w W' := by
    intro W' hW
    subst hW
    exact ⟨(Arr.new _ _ [_, _, _]).alloc _, Arr.newAt (w.alloc _) _ [_, _, _] _ (by simp), ((Below.refl _ _).alloc (Nat.le_refl _) _).alloc (by simp) _⟩
  go_enter Tryz.func19, Tryz.ntmps19
  go_upto_region 1 with fail
  generalize (w.alloc (.cells #[.int .i64 xg, .int .i64 (xp : Int), .int .i64 (xq : Int)] 50)).alloc (.cells #[.int .i64 yg, .int .i64 yp, .int .i64 yq] 50) = w3 at hW ⊢
  obtain ⟨qx, qy, hb⟩ := hW w3 rfl
  have HB := Lib.hid hb
  obtain ⟨b1, o1, rfl, -, cp⟩ := (HP.out w3 hb).at_ hxp
  obtain ⟨b1', o1', hA, -, cq⟩ := (HP.out w3 hb).at_ hxq
  injection hA with hA
  injection hA with e1 e2
  subst e1; subst e2
  rw [hwp] at cp
  rw [hwq] at cq
  have x0 := qx.cell 0
  have x1 := qx.cell 1
  have x2 := qx.cell 2
  have y0 := qy.cell 0
  have y1 := qy.cell 1
  have y2 := qy.cell 2
  clear hW qx qy hb HP hwp hwq hxp hxq
  generalize wAt W xp = wp at *
  generalize wAt W xq = wq at *
  generalize W.length = n at *
  by_cases e0 : xg = yg ∧ (xp : Int) = yp ∧ (xq : Int) = yq
  · have heq := fun W' => (eql_loop xg xp xq yg yp yq W').trans (by rw [show ((xg == yg) && (((xp : Int) == yp) && ((xq : Int) == yq))) = true by simp [e0.1, e0.2.1, e0.2.2]])
    have HE0 := Lib.hid e0
    by_cases s1 : 0 < wp
    · by_cases s2 : 0 < wq
      · have HE := Lib.hid (show sfE W (xg, (xp : Int), (xq : Int)) (yg, yp, yq) = (-1) from by rw [SF.out]; ((repeat' split) <;> first | rfl | (exfalso; omega)))
        clear e0
        go_wp2_with fail
        go_ret
        exact ⟨by rw [HE.out]; rfl, HB.out⟩
      · have HE := Lib.hid (show sfE W (xg, (xp : Int), (xq : Int)) (yg, yp, yq) = 0 from by rw [SF.out]; ((repeat' split) <;> first | rfl | (exfalso; omega)))
        clear e0
        go_wp2_with fail
        go_ret
        exact ⟨by rw [HE.out]; rfl, HB.out⟩
    · by_cases s3 : wp < 0
      · by_cases s4 : wq < 0
        · have HE := Lib.hid (show sfE W (xg, (xp : Int), (xq : Int)) (yg, yp, yq) = 1 from by rw [SF.out]; ((repeat' split) <;> first | rfl | (exfalso; omega)))
          clear e0
          go_wp2_with fail
          go_ret
          exact ⟨by rw [HE.out]; rfl, HB.out⟩
        · have HE := Lib.hid (show sfE W (xg, (xp : Int), (xq : Int)) (yg, yp, yq) = 0 from by rw [SF.out]; ((repeat' split) <;> first | rfl | (exfalso; omega)))
          clear e0
          go_wp2_with fail
          go_ret
          exact ⟨by rw [HE.out]; rfl, HB.out⟩
      · have HE := Lib.hid (show sfE W (xg, (xp : Int), (xq : Int)) (yg, yp, yq) = 0 from by rw [SF.out]; ((repeat' split) <;> first | rfl | (exfalso; omega)))
        clear e0
        go_wp2_with fail
        go_ret
        exact ⟨by rw [HE.out]; rfl, HB.out⟩
  · have heq := fun W' => (eql_loop xg xp xq yg yp yq W').trans (by rw [show ((xg == yg) && (((xp : Int) == yp) && ((xq : Int) == yq))) = false by simp; intro a b c; exact e0 ⟨a, b, c⟩])
    by_cases g1 : xg = yg
    · have zg1 : (xg == yg : Bool) = true := by simp; omega
      by_cases g2 : (xq : Int) = yp
      · have zg2 : ((xq : Int) == yp : Bool) = true := by simp; omega
        by_cases s5 : wq < 0
        · have HE := Lib.hid (show sfE W (xg, (xp : Int), (xq : Int)) (yg, yp, yq) = (-1) from by rw [SF.out]; ((repeat' split) <;> first | rfl | (exfalso; omega)))
          clear e0 g1 g2
          go_wp2_with fail
          go_ret
          exact ⟨by rw [HE.out]; rfl, HB.out⟩
        · have HE := Lib.hid (show sfE W (xg, (xp : Int), (xq : Int)) (yg, yp, yq) = 0 from by rw [SF.out]; ((repeat' split) <;> first | rfl | (exfalso; omega)))
          clear e0 g1 g2
          go_wp2_with fail
          go_ret
          exact ⟨by rw [HE.out]; rfl, HB.out⟩
      · have zg2 : ((xq : Int) == yp : Bool) = false := by simp; omega
        by_cases g3 : (xp : Int) = yq
        · have zg3 : ((xp : Int) == yq : Bool) = true := by simp; omega
          by_cases s6 : 0 < wp
          · have HE := Lib.hid (show sfE W (xg, (xp : Int), (xq : Int)) (yg, yp, yq) = 1 from by rw [SF.out]; ((repeat' split) <;> first | rfl | (exfalso; omega)))
            clear e0 g1 g2 g3
            go_wp2_with fail
            go_ret
            exact ⟨by rw [HE.out]; rfl, HB.out⟩
          · have HE := Lib.hid (show sfE W (xg, (xp : Int), (xq : Int)) (yg, yp, yq) = 0 from by rw [SF.out]; ((repeat' split) <;> first | rfl | (exfalso; omega)))
            clear e0 g1 g2 g3
            go_wp2_with fail
            go_ret
            exact ⟨by rw [HE.out]; rfl, HB.out⟩
        · have zg3 : ((xp : Int) == yq : Bool) = false := by simp; omega
          have zy : (yg == xg + 1) = false := by simp; omega
          have HE := Lib.hid (show sfE W (xg, (xp : Int), (xq : Int)) (yg, yp, yq) = 0 from by rw [SF.out]; ((repeat' split) <;> first | rfl | (exfalso; omega)))
          clear e0 g1 g2 g3
          go_wp2_with fail
          go_ret
          exact ⟨by rw [HE.out]; rfl, HB.out⟩
    · have zg1 : (xg == yg : Bool) = false := by simp; omega
      by_cases g4 : yg = xg + 1
      · have zg4 : (yg == xg + 1 : Bool) = true := by simp; omega
        by_cases h1 : (xp : Int) < yp
        · by_cases h2 : yp < (xq : Int)
          · by_cases h3 : (xq : Int) < yq
            · have HE := Lib.hid (show sfE W (xg, (xp : Int), (xq : Int)) (yg, yp, yq) = 1 from by rw [SF.out]; ((repeat' split) <;> first | rfl | (exfalso; omega)))
              clear e0 g1 g4
              go_wp2_with fail
              go_ret
              exact ⟨by rw [HE.out]; rfl, HB.out⟩
            · have HE := Lib.hid (show sfE W (xg, (xp : Int), (xq : Int)) (yg, yp, yq) = 0 from by rw [SF.out]; ((repeat' split) <;> first | rfl | (exfalso; omega)))
              clear e0 g1 g4
              go_wp2_with fail
              go_ret
              exact ⟨by rw [HE.out]; rfl, HB.out⟩
          · have HE := Lib.hid (show sfE W (xg, (xp : Int), (xq : Int)) (yg, yp, yq) = 0 from by rw [SF.out]; ((repeat' split) <;> first | rfl | (exfalso; omega)))
            clear e0 g1 g4
            go_wp2_with fail
            go_ret
            exact ⟨by rw [HE.out]; rfl, HB.out⟩
        · by_cases k1 : yp < (xp : Int)
          · by_cases k2 : (xp : Int) < yq
            · by_cases k3 : yq < (xq : Int)
              · have HE := Lib.hid (show sfE W (xg, (xp : Int), (xq : Int)) (yg, yp, yq) = (-1) from by rw [SF.out]; ((repeat' split) <;> first | rfl | (exfalso; omega)))
                clear e0 g1 g4
                go_wp2_with fail
                go_ret
                exact ⟨by rw [HE.out]; rfl, HB.out⟩
              · have HE := Lib.hid (show sfE W (xg, (xp : Int), (xq : Int)) (yg, yp, yq) = 0 from by rw [SF.out]; ((repeat' split) <;> first | rfl | (exfalso; omega)))
                clear e0 g1 g4
                go_wp2_with fail
                go_ret
                exact ⟨by rw [HE.out]; rfl, HB.out⟩
            · have HE := Lib.hid (show sfE W (xg, (xp : Int), (xq : Int)) (yg, yp, yq) = 0 from by rw [SF.out]; ((repeat' split) <;> first | rfl | (exfalso; omega)))
              clear e0 g1 g4
              go_wp2_with fail
              go_ret
              exact ⟨by rw [HE.out]; rfl, HB.out⟩
          · have HE := Lib.hid (show sfE W (xg, (xp : Int), (xq : Int)) (yg, yp, yq) = 0 from by rw [SF.out]; ((repeat' split) <;> first | rfl | (exfalso; omega)))
            clear e0 g1 g4
            go_wp2_with fail
            go_ret
            exact ⟨by rw [HE.out]; rfl, HB.out⟩
      · have zg4 : (yg == xg + 1 : Bool) = false := by simp; omega
        have HE := Lib.hid (show sfE W (xg, (xp : Int), (xq : Int)) (yg, yp, yq) = 0 from by rw [SF.out]; ((repeat' split) <;> first | rfl | (exfalso; omega)))
        clear e0 g1 g4
        go_wp2_with fail
        go_ret
        exact ⟨by rw [HE.out]; rfl, HB.out⟩
end Go.Proofs.YtbkgpfalljgdcaaGreatDoor

namespace Go.Proofs.YtbkgpfalljgdcaaGreatDoor
open Go.RowKit
set_option linter.unusedVariables false

theorem lpF_mem (g : Int) (W : List Int) : ∀ k, k ≤ W.length → (0 ≤ (lpF g W k).1 → (lpF g W k).1 < (k : Int)) ∧ ∀ t ∈ (lpF g W k).2, t.1 = g ∧ 0 ≤ t.2.1 ∧ t.2.1 < t.2.2 ∧ t.2.2 < (k : Int)
  | 0, _ => ⟨fun h => by simp [lpF] at h, fun t h => by simp [lpF] at h⟩
  | k + 1, hk => by
    obtain ⟨h1, h2⟩ := lpF_mem g W k (by omega)
    rw [lpF]
    split
    · refine ⟨fun _ => by simp only; omega, fun t ht => ?_⟩
      simp only at ht
      split at ht
      · next h0 =>
        rcases List.mem_append.1 ht with q | q
        · have := h2 t q; omega
        · rw [List.mem_singleton.1 q]; have := h1 h0; exact ⟨rfl, h0, by simp only; omega, by simp only; omega⟩
      · have := h2 t ht; omega
    · exact ⟨fun h => by have := h1 h; omega, fun t ht => by have := h2 t ht; omega⟩
theorem lgL_mem (W : List Int) : ∀ (g : Nat), ∀ t ∈ lgL W g, 1 ≤ t.1 ∧ t.1 ≤ (g : Int) ∧ 0 ≤ t.2.1 ∧ t.2.1 < t.2.2 ∧ t.2.2 < (W.length : Int)
  | 0, t, h => by simp [lgL] at h
  | g + 1, t, h => by
    rw [lgL] at h
    rcases List.mem_append.1 h with q | q
    · have := lgL_mem W g t q; omega
    · have := (lpF_mem ((g + 1 : Nat) : Int) W W.length (Nat.le_refl _)).2 t q; omega
/-- the Seifert matrix -/
def sfM (W : List Int) (ls : List L3) : List (List Int) := (List.range ls.length).map fun i => (List.range ls.length).map fun j => sfE W (ls[i]?.getD (0, 0, 0)) (ls[j]?.getD (0, 0, 0))
def sfRow (W : List Int) (ls : List L3) (i : Nat) : List Int := (List.range ls.length).map fun j => sfE W (ls[i]?.getD (0, 0, 0)) (ls[j]?.getD (0, 0, 0))
theorem sfRow_length (W : List Int) (ls : List L3) (i : Nat) : (sfRow W ls i).length = ls.length := by simp [sfRow]
theorem sfM_length (W : List Int) (ls : List L3) : (sfM W ls).length = ls.length := by simp [sfM]
theorem sfM_get {W : List Int} {ls : List L3} {i : Nat} (h : i < ls.length) : (sfM W ls)[i]? = some (sfRow W ls i) := by
  unfold sfM sfRow; rw [List.getElem?_map, List.getElem?_range h]; rfl
theorem sfRow_get {W : List Int} {ls : List L3} {i j : Nat} (h : j < ls.length) : (sfRow W ls i)[j]? = some (sfE W (ls[i]?.getD (0, 0, 0)) (ls[j]?.getD (0, 0, 0))) := by
  unfold sfRow; rw [List.getElem?_map, List.getElem?_range h]; rfl
def hdI (n b : Nat) : Value := .slice (some ⟨b, 0, none⟩) n n
/-- the rows before i are made -/
structure MnI (n gM : Nat) (w8 : World) (M : List (List Int)) (i : Nat) (bs : List Nat) (w : World) : Prop where
  len : bs.length = i
  outer : Arr w gM 22 (bs.map (hdI n) ++ List.replicate (n - i) (.slice none 0 0))
  big : ∀ b ∈ bs, w8.heap.size ≤ b ∧ b < w.heap.size
  row : ∀ (j b : Nat) r, bs[j]? = some b → M[j]? = some r → r.length = n ∧ Arr w b 3 (r.map (Value.int .i64))
  wr : Wr [gM] w8 w
theorem MnI.start {n gM : Nat} {w8 : World} {M : List (List Int)} (h : Arr w8 gM 22 (List.replicate n (.slice none 0 0))) : MnI n gM w8 M 0 [] w8 := ⟨rfl, by simpa using h, fun b h => by simp at h, fun j b r h => by simp at h, Wr.refl _ _⟩
theorem MnI.next {n gM i gr : Nat} {w8 w w9 w10 : World} {M : List (List Int)} {bs : List Nat} {r : List Int} (h : MnI n gM w8 M i bs w) (hgM : gM < w8.heap.size) (hi : i < n) (hb : Below w.heap.size w w9) (hgr : w.heap.size ≤ gr) (hgl : gr < w9.heap.size)
    (h1 : Wr [gr] (w9.setCell ⟨gM, i, none⟩ (hdI n gr)) w10) (h2 : Arr w10 gr 3 (r.map (Value.int .i64))) (hr : M[i]? = some r) (hrl : r.length = n) : MnI n gM w8 M (i + 1) (bs ++ [gr]) w10 := by
  have hs := h.wr.size
  have hs2 := h1.size
  have on := (Onl.refl gM w9).setCell i (hdI n gr)
  rw [on.size] at hs2
  have ho := ((h.outer.below hb h.outer.lt).set i (hdI n gr)).wr h1 (fun q => by have := List.mem_singleton.1 q; have := h.outer.lt; omega)
  have el : (bs.map (hdI n) ++ List.replicate (n - i) (Value.slice none 0 0)).set i (hdI n gr) = (bs ++ [gr]).map (hdI n) ++ List.replicate (n - (i + 1)) (.slice none 0 0) := by
    rw [List.set_append_right i _ (by simp [h.len]), List.length_map, h.len, Nat.sub_self, show n - i = n - (i + 1) + 1 by omega, List.replicate_succ, List.set_cons_zero]
    simp
  rw [el] at ho
  refine ⟨by simp [h.len], ho, fun b hbm => ?_, fun j b r' hj hr' => ?_, ?_⟩
  · rcases List.mem_append.1 hbm with q | q
    · have := h.big b q; have := hb.size; omega
    · have := List.mem_singleton.1 q; omega
  · rw [List.getElem?_append] at hj
    split at hj
    · obtain ⟨q1, q2⟩ := h.row j b r' hj hr'
      have hbb := h.big b (List.mem_of_getElem? hj)
      exact ⟨q1, ((q2.below hb hbb.2).onl on (by omega)).wr h1 (fun q => by have := List.mem_singleton.1 q; omega)⟩
    · have l1 := (List.getElem?_eq_some_iff.1 hj).1
      simp at l1
      have ej : j = i := by have := h.len; omega
      subst ej
      rw [h.len, Nat.sub_self] at hj
      simp at hj
      rw [hr] at hr'
      injection hr' with e
      subst e; subst hj
      exact ⟨hrl, h2⟩
  · refine Wr.far ((h.wr.trans (Wr.of_below hb)).setCell (List.mem_singleton.2 rfl) i _) h1 (fun x hx => by have := List.mem_singleton.1 hx; omega)
theorem MnI.mat {n gM : Nat} {w8 w : World} {M : List (List Int)} {bs : List Nat} (h : MnI n gM w8 M n bs w) (hl : M.length = n) : MatI w (.slice (some ⟨gM, 0, none⟩) n n) M := by
  refine ⟨_, _, by rw [hl], by omega, fun i r hr => ⟨gM, 0, rfl, ?_⟩⟩
  have hi : i < bs.length := by rw [h.len, ← hl]; exact (List.getElem?_eq_some_iff.1 hr).1
  obtain ⟨q1, q2⟩ := h.row i _ r (List.getElem?_eq_getElem hi) hr
  refine ⟨hdI n bs[i], ?_, ?_⟩
  · rw [Nat.zero_add, h.outer.cell, Nat.sub_self, List.replicate_zero, List.append_nil, List.getElem?_map, List.getElem?_eq_getElem hi]; rfl
  · have := Ints.of_arr q2
    rw [q1] at this; exact this
/-- loops in memory -/
def LsI (w : World) (v : Value) (ls : List L3) : Prop := SlA tcL w v ls
theorem LsI.at_ {w : World} {A : Option Addr} {n c k : Nat} {ls : List L3} (h : SlA tcL w (.slice A n c) ls) (hk : k < ls.length) : ∃ b o, A = some ⟨b, o, none⟩ ∧ n = ls.length ∧ w.cell? ⟨b, o + k * 3, none⟩ = some (.int .i64 ls[k].1) ∧ w.cell? ⟨b, o + k * 3 + 1, none⟩ = some (.int .i64 ls[k].2.1) ∧ w.cell? ⟨b, o + k * 3 + 2, none⟩ = some (.int .i64 ls[k].2.2) := by
  obtain ⟨A0, c0, hv, hc, hx⟩ := h
  injection hv with e1 e2 e3
  subst e1
  have q0 := flat_get (enc := tcL) (sz := 3) (fun _ => rfl) ls k 0 hk (by omega)
  have q1 := flat_get (enc := tcL) (sz := 3) (fun _ => rfl) ls k 1 hk (by omega)
  have q2 := flat_get (enc := tcL) (sz := 3) (fun _ => rfl) ls k 2 hk (by omega)
  obtain ⟨b, o, rfl, h0⟩ := hx _ _ (q0.trans rfl)
  obtain ⟨b', o', hA, h1⟩ := hx _ _ (q1.trans rfl)
  obtain ⟨b'', o'', hA2, h2⟩ := hx _ _ (q2.trans rfl)
  injection hA with hA
  injection hA with hb ho
  subst hb; subst ho
  injection hA2 with hA2
  injection hA2 with hb ho
  subst hb; subst ho
  exact ⟨b, o, rfl, e2, h0, by rw [Nat.add_assoc]; exact h1, by rw [Nat.add_assoc]; exact h2⟩
/-- connected: each generator occurs -/
def cnB (N : Int) (W : List Int) : Prop := ∀ g : Nat, 1 ≤ g → (g : Int) < N → 0 ≤ (lpF (g : Int) W W.length).1
def lsF (N : Int) (W : List Int) : List L3 := lgL W (N - 1).toNat
/-- what Matrix returns -/
def MtxP (N : Int) (W : List Int) (w : World) (e : Ending) (w' : World) : Prop :=
  Below w.heap.size w w' ∧
    ((brV N W = false ∧ e = .returned (.tuple #[.slice none 0 0, .int .i64 1])) ∨
     (brV N W = true ∧ ¬ cnB N W ∧ e = .returned (.tuple #[.slice none 0 0, .int .i64 17])) ∨
     (brV N W = true ∧ cnB N W ∧ 64 < (lsF N W).length ∧ e = .returned (.tuple #[.slice none 0 0, .int .i64 5])) ∨
     (brV N W = true ∧ cnB N W ∧ (lsF N W).length ≤ 64 ∧ ∃ v, e = .returned (.tuple #[v, .int .i64 0]) ∧ MatI w' v (sfM W (lsF N W))))
set_option maxHeartbeats 8000000 in
set_option maxRecDepth 100000 in
theorem sMatrix_any (N : Int) (vw : Value) (W : List Int) (w : World) (h : Ints w vw W) (hl : W.length ≤ 9223372036854775807) (hN : -9223372036854775808 ≤ N ∧ N ≤ 9223372036854775807) :
    Calls Tryz.prog 6 #[.agg #[.int .i64 N, vw]] w (MtxP N W w) := by
  have HLP := Lib.hid (fun W' (hb : Below w.heap.size w W') => loops_any N vw W W' (h.below hb) hl hN)
  have HH := Lib.hid (fun W' (hb : Below w.heap.size w W') => h.below hb)
  obtain ⟨A, c, hv, -, -⟩ := h
  subst hv
  obtain ⟨nw, hnn⟩ : ∃ n, n = W.length := ⟨_, rfl⟩
  rw [← hnn] at HLP HH hl ⊢
  have HNN := Lib.hid hnn
  clear hnn
  have hW : ∀ W', W' = w.alloc (.cells #[.int .i64 N, .slice A nw c] 24) → Arr W' w.heap.size 24 [.int .i64 N, .slice A nw c] ∧ Below w.heap.size w W' := by
    intro W' hW
    subst hW
    exact ⟨Arr.new _ _ [_, _], (Below.refl _ _).alloc (Nat.le_refl _) _⟩
  go_enter Tryz.func6, Tryz.ntmps6
  go_upto_region 1 with fail
  generalize w.alloc (.cells #[.int .i64 N, .slice A nw c] 24) = w3 at hW ⊢
  obtain ⟨qp, hb3⟩ := hW w3 rfl
  obtain ⟨gB, hgB⟩ : ∃ g, g = w.heap.size := ⟨_, rfl⟩
  rw [← hgB] at qp ⊢
  have y0 := qp.cell 0
  have y1 := qp.cell 1
  have HQ := Lib.hid qp
  have HB3 := Lib.hid hb3
  clear hW qp hb3 hgB
  go_wp2_with fail
  refine (HLP.out w3 HB3.out).mono ?_
  rintro e w4 ⟨hb4, hd⟩
  have HQ4 := Lib.hid (HQ.out.below hb4 HQ.out.lt)
  have HB4 := Lib.hid (HB3.out.trans (hb4.mono HB3.out.size))
  have HSZ4 := Lib.hid (show w.heap.size ≤ w3.heap.size from HB3.out.size)
  clear hb4 y0 y1 HLP HQ HB3
  rcases hd with ⟨hbv, rfl⟩ | ⟨hbv, ⟨g, g1, g2, g3⟩, rfl⟩ | ⟨hbv, hcn, v4, rfl, ho4⟩
  · have HBV := Lib.hid hbv
    clear hbv
    go_wp2_with fail
    go_ret2
    exact ⟨HB4.out, .inl ⟨HBV.out, rfl⟩⟩
  · have HBV := Lib.hid hbv
    have HC := Lib.hid (show ¬ cnB N W from fun h => by have := h g g1 g2; omega)
    clear hbv g1 g2 g3
    go_wp2_with fail
    go_ret2
    exact ⟨HB4.out, .inr (.inl ⟨HBV.out, HC.out, rfl⟩)⟩
  · have hbr := brV_iff.1 hbv
    have HBV := Lib.hid hbv
    have HC := Lib.hid (show cnB N W from hcn)
    have hnw : nw ≤ 200 := by rw [HNN.out]; exact hbr.2.2.1
    have hN10 : N ≤ 10 := hbr.2.1
    have HLM := Lib.hid (lgL_mem W (N - 1).toNat)
    have HSL := Lib.hid (fun W' (hb : Below w4.heap.size w4 W') => (ho4.sl).below hb)
    obtain ⟨ls, hls⟩ : ∃ ls, ls = lgL W (N - 1).toNat := ⟨_, rfl⟩
    have HLS := Lib.hid (show lsF N W = ls from hls.symm)
    rw [← hls] at HLM HSL
    obtain ⟨A4, c4, hv4⟩ := ho4.form
    rw [← hls] at hv4
    subst hv4
    obtain ⟨n, hn⟩ : ∃ n, n = ls.length := ⟨_, rfl⟩
    rw [← hn] at HSL ⊢
    have HN := Lib.hid hn
    clear hbv hcn hbr ho4 hls hn
    by_cases hn64 : 64 < n
    · have z1 : (64 : Int) < (n : Int) := by omega
      go_wp2_with fail
      go_ret2
      exact ⟨HB4.out, .inr (.inr (.inl ⟨HBV.out, HC.out, by rw [HLS.out, ← HN.out]; exact hn64, rfl⟩))⟩
    · have z1 : ¬ ((64 : Int) < (n : Int)) := by omega
      have hmk := fun W => mk_rowsZ n (by omega) W
      have hmk2 := fun W => mk_i64 n (by omega) W
      have hAl := (Below.refl w4.heap.size w4).alloc (Nat.le_refl _) (.cells (rowOf (List.replicate n (.slice none 0 0))) 22)
      have HM0 := Lib.hid (MnI.start (M := sfM W ls) (Arr.new w4 22 (List.replicate n (.slice none 0 0))))
      have HQ5 := Lib.hid (HQ4.out.below hAl HQ4.out.lt)
      have HB5 := Lib.hid (HB4.out.trans (hAl.mono HB4.out.size))
      have HSL5 := Lib.hid (fun W' (hb : Below w4.heap.size (w4.alloc (.cells (rowOf (List.replicate n (.slice none 0 0))) 22)) W') => HSL.out W' (hAl.trans hb))
      have HGM := Lib.hid (show w.heap.size ≤ w4.heap.size ∧ gB < w4.heap.size ∧ w4.heap.size < (w4.alloc (.cells (rowOf (List.replicate n (.slice none 0 0))) 22)).heap.size from ⟨HB4.out.size, HQ4.out.lt, by simp⟩)
      clear hAl HSL
      go_upto_region 7 with fail
      generalize w4.alloc (.cells (rowOf (List.replicate n (.slice none 0 0))) 22) = w5 at *
      generalize w4.heap.size = gM at *
      clear hmk HQ4 HB4
      go_upto_region 8 with fail
      go_loopg [7, 8, 9, 10, 27] n (fun gk s7 s8 s9 s10 s27 wr => ∃ (ix : Nat) (bs : List Nat), ix ≤ n ∧ gk = n - ix ∧ s27 = .int .i64 (ix : Int) ∧ MnI n gM w5 (sfM W ls) ix bs wr)
      case atStart => exact ⟨0, [], by omega, rfl, rfl, HM0.out⟩
      case round =>
        clear HM0
        obtain ⟨ix, bs, hix, rfl, rfl, hen⟩ := hrel
        obtain ⟨wo, rfl⟩ : ∃ wo : World, wo = wr := ⟨_, rfl⟩
        have HEN := Lib.hid hen
        have HBO := Lib.hid (show Below gM w5 wo from hen.wr.below (Nat.le_of_lt HGM.out.2.2) (fun x hx => by rw [List.mem_singleton.1 hx]; exact Nat.le_refl _))
        have HQO := Lib.hid (HQ5.out.wr hen.wr (fun e => by have := List.mem_singleton.1 e; have := HGM.out.2.1; omega))
        clear hen
        by_cases hit : ix < n
        · have z2 : (ix : Int) < (n : Int) := by omega
          have hil : ix < ls.length := by rw [← HN.out]; exact hit
          obtain ⟨b1, o1, hA1, hnm, p0, p1, p2⟩ := LsI.at_ (HSL5.out wo HBO.out) hil
          clear hnm
          subst hA1
          have hmem := HLM.out _ (List.getElem_mem hil)
          have HXE := Lib.hid (show ls[ix]?.getD (0, 0, 0) = ls[ix] by rw [List.getElem?_eq_getElem hil]; rfl)
          obtain ⟨t, ht⟩ : ∃ t, t = ls[ix] := ⟨_, rfl⟩
          rw [← ht] at p0 p1 p2 hmem HXE
          obtain ⟨xg, xp, xq⟩ := t
          clear ht
          dsimp only at p0 p1 p2 hmem HXE
          obtain ⟨xpn, rfl⟩ : ∃ k : Nat, xp = (k : Int) := ⟨xp.toNat, by omega⟩
          obtain ⟨xqn, rfl⟩ : ∃ k : Nat, xq = (k : Int) := ⟨xq.toNat, by omega⟩
          have HXB := Lib.hid (show xpn < W.length ∧ xqn < W.length ∧ -100 ≤ xg ∧ xg ≤ 100 from ⟨by omega, by omega, by omega, by omega⟩)
          have HRG := Lib.hid (sfM_get (W := W) (ls := ls) (i := ix) hil)
          have HRL := Lib.hid (sfRow_length W ls ix)
          rw [← HN.out] at HRL
          have HRV := Lib.hid (fun j (hj : j < ls.length) => (show (sfRow W ls ix)[j]? = some (sfE W (xg, (xpn : Int), (xqn : Int)) (ls[j]?.getD (0, 0, 0))) by rw [sfRow_get hj, HXE.out]))
          obtain ⟨row, hrow⟩ : ∃ row, row = sfRow W ls ix := ⟨_, rfl⟩
          rw [← hrow] at HRG HRL HRV
          have HRW := Lib.hid hrow
          -- the box of x
          have hAl1 := (Below.refl wo.heap.size wo).alloc (Nat.le_refl _) (.cells #[.int .i64 xg, .int .i64 (xpn : Int), .int .i64 (xqn : Int)] 50)
          have HX1 := Lib.hid (show Arr (wo.alloc (.cells #[.int .i64 xg, .int .i64 (xpn : Int), .int .i64 (xqn : Int)] 50)) wo.heap.size 50 [.int .i64 xg, .int .i64 (xpn : Int), .int .i64 (xqn : Int)] from Arr.new wo _ [_, _, _])
          have HBA := Lib.hid hAl1
          clear hAl1 hil hmem hrow HXE
          go_upto_region 10 with fail
          obtain ⟨wa, hwa⟩ : ∃ W', W' = wo.alloc (.cells #[.int .i64 xg, .int .i64 (xpn : Int), .int .i64 (xqn : Int)] 50) := ⟨_, rfl⟩
          rw [← hwa] at HX1 HBA ⊢
          obtain ⟨tb1, htb1⟩ : ∃ g, g = wo.heap.size := ⟨_, rfl⟩
          rw [← htb1] at HX1 ⊢
          have HTB := Lib.hid htb1
          clear hwa htb1 p0 p1 p2
          have hAl2 := (Below.refl wa.heap.size wa).alloc (Nat.le_refl _) (.cells (rowOf (List.replicate n (.int .i64 0))) 3)
          have HGR := Lib.hid (show Arr (wa.alloc (.cells (rowOf (List.replicate n (.int .i64 0))) 3)) wa.heap.size 3 (List.replicate n (.int .i64 0)) from Arr.new wa _ _)
          have HBB := Lib.hid (HBA.out.trans (hAl2.mono HBA.out.size))
          have HX2 := Lib.hid (HX1.out.below hAl2 HX1.out.lt)
          have HSW := Lib.hid (show wo.heap.size ≤ wa.heap.size ∧ wa.heap.size < (wa.alloc (.cells (rowOf (List.replicate n (.int .i64 0))) 3)).heap.size ∧ tb1 ≠ wa.heap.size ∧ gM ≠ wa.heap.size ∧ gB ≠ wa.heap.size from ⟨HBA.out.size, by simp, by have := HX1.out.lt; omega, by have := HEN.out.outer.lt; have := HBA.out.size; omega, by have := HQO.out.lt; have := HBA.out.size; omega⟩)
          have hout := HEN.out.outer.below HBB.out HEN.out.outer.lt
          have hcell := hout.cell ix
          rw [List.getElem?_append_right (by simp [HEN.out.len]), List.length_map, HEN.out.len, Nat.sub_self, List.getElem?_replicate, if_pos (by omega)] at hcell
          have hfr := hout.frozen ix
          have HOUT := Lib.hid hout
          clear hAl2 hout HX1
          go_upto_region 11 with fail
          obtain ⟨wb, hwb⟩ : ∃ W', W' = wa.alloc (.cells (rowOf (List.replicate n (.int .i64 0))) 3) := ⟨_, rfl⟩
          obtain ⟨gr_, hgr⟩ : ∃ g, g = wa.heap.size := ⟨_, rfl⟩
          rw [← hwb] at HGR HBB HX2 HSW hcell hfr HOUT ⊢
          rw [← hgr] at HGR HSW ⊢
          clear hwb hgr
          have hne1 : gM ≠ tb1 := by have := HEN.out.outer.lt; have := HTB.out; omega
          have hne2 : gB ≠ gM := by have := HGM.out.2.1; omega
          have HGR3 := Lib.hid (HGR.out.far (p := ⟨gM, ix, none⟩) (fun e => HSW.out.2.2.2.1 e.symm) (.slice (some ⟨gr_, 0, none⟩) n n))
          have HX3 := Lib.hid (HX2.out.far (p := ⟨gM, ix, none⟩) (fun e => hne1 e.symm) (.slice (some ⟨gr_, 0, none⟩) n n))
          have HQ3 := Lib.hid ((HQO.out.below HBB.out HQO.out.lt).far (p := ⟨gM, ix, none⟩) hne2 (.slice (some ⟨gr_, 0, none⟩) n n))
          have HO3 := Lib.hid (HOUT.out.set ix (.slice (some ⟨gr_, 0, none⟩) n n))
          have HBM := Lib.hid (show Below gM w5 (wb.setCell ⟨gM, ix, none⟩ (.slice (some ⟨gr_, 0, none⟩) n n)) from (HBO.out.trans (HBB.out.mono (by have := HEN.out.outer.lt; omega))).setCell (p := ⟨gM, ix, none⟩) (Nat.le_refl _) _)
          have HGET := Lib.hid (show ((bs.map (hdI n) ++ List.replicate (n - ix) (Value.slice none 0 0)).set ix (.slice (some ⟨gr_, 0, none⟩) n n))[ix]? = some (.slice (some ⟨gr_, 0, none⟩) n n) by
            rw [List.getElem?_set, if_pos rfl, if_pos (by simp [HEN.out.len]; omega)])
          clear hcell hfr hne1 hne2 HGR HX2
          obtain ⟨wc, hwc⟩ : ∃ W', W' = wb.setCell ⟨gM, ix, none⟩ (.slice (some ⟨gr_, 0, none⟩) n n) := ⟨_, rfl⟩
          rw [← hwc] at HGR3 HX3 HQ3 HO3 HBM ⊢
          have HWC := Lib.hid hwc
          clear hwc
          go_upto_region 12 with fail
          go_loopg [9, 10, 40] n (fun gk s9 s10 s40 wr => ∃ jx : Nat, jx ≤ n ∧ gk = n - jx ∧ s40 = .int .i64 (jx : Int) ∧ Arr wr gr_ 3 ((row.take jx ++ List.replicate (n - jx) 0).map (Value.int .i64)) ∧ Wr [gr_] wc wr)
          case atStart => exact ⟨0, by omega, rfl, rfl, by simpa using HGR3.out, Wr.refl _ _⟩
          case round =>
            clear HGR3
            obtain ⟨jx, hjx, rfl, rfl, har, hwr⟩ := hrel
            obtain ⟨wd, rfl⟩ : ∃ wd : World, wd = wr := ⟨_, rfl⟩
            have HAR := Lib.hid har
            have HWR := Lib.hid hwr
            clear har hwr
            by_cases hjt : jx < n
            · have z3 : (jx : Int) < (n : Int) := by omega
              have hjl : jx < ls.length := by rw [← HN.out]; exact hjt
              have hngr : ∀ g, g ≠ gr_ → g ∉ [gr_] := fun g h e => h (List.mem_singleton.1 e)
              have HBMD := Lib.hid (show Below gM w5 wd from HBM.out.trans (HWR.out.below (B := gM) (by have := HO3.out.lt; omega) (fun x hx => by rw [List.mem_singleton.1 hx]; have := HSW.out; have := HEN.out.outer.lt; omega)))
              obtain ⟨b2, o2, hA1, hnm, q0, q1, q2⟩ := LsI.at_ (HSL5.out wd HBMD.out) hjl
              clear hnm
              injection hA1 with hA1
              injection hA1 with e1 e2
              subst e1; subst e2
              have HRVJ := Lib.hid (HRV.out jx hjl)
              rw [List.getElem?_eq_getElem hjl, Option.getD_some] at HRVJ
              obtain ⟨t, ht⟩ : ∃ t, t = ls[jx] := ⟨_, rfl⟩
              rw [← ht] at q0 q1 q2 HRVJ
              obtain ⟨yg, yp, yq⟩ := t
              clear ht
              dsimp only at q0 q1 q2
              have hAl := (Below.refl wd.heap.size wd).alloc (Nat.le_refl _) (.cells #[.int .i64 yg, .int .i64 yp, .int .i64 yq] 50)
              have HY := Lib.hid (show Arr (wd.alloc (.cells #[.int .i64 yg, .int .i64 yp, .int .i64 yq] 50)) wd.heap.size 50 [.int .i64 yg, .int .i64 yp, .int .i64 yq] from Arr.new wd _ [_, _, _])
              have hx4 := HX3.out.wr HWR.out (hngr _ HSW.out.2.2.1)
              have hq4 := HQ3.out.wr HWR.out (hngr _ HSW.out.2.2.2.2)
              have ho4 := HO3.out.wr HWR.out (hngr _ HSW.out.2.2.2.1)
              have HX4 := Lib.hid (hx4.below hAl hx4.lt)
              have HQ4 := Lib.hid (hq4.below hAl hq4.lt)
              have HO4 := Lib.hid (ho4.below hAl ho4.lt)
              have HAR4 := Lib.hid (HAR.out.below hAl HAR.out.lt)
              have HWR4 := Lib.hid (HWR.out.trans (Wr.of_below hAl))
              have HBE := Lib.hid (show Below w.heap.size w (wd.alloc (.cells #[.int .i64 yg, .int .i64 yp, .int .i64 yq] 50)) from (HB5.out.trans (HBMD.out.mono HGM.out.1)).trans (hAl.mono (by have := HB5.out.size; have := HBMD.out.size; omega)))
              have HEL := Lib.hid (fun W' (hb : Below w.heap.size w W') => element_any (.slice A nw c) W xg yg yp yq xpn xqn W' (HH.out W' hb) (by have := HNN.out; omega) HXB.out.1 HXB.out.2.1 HXB.out.2.2)
              clear hx4 hq4 ho4 hAl hjl hngr
              go_upto_region 14 with fail
              generalize wd.alloc (.cells #[.int .i64 yg, .int .i64 yp, .int .i64 yq] 50) = w9 at *
              generalize wd.heap.size = tb2 at *
              clear q0 q1 q2
              obtain ⟨ev, hev⟩ : ∃ ev, ev = sfE W (xg, (xpn : Int), (xqn : Int)) (yg, yp, yq) := ⟨_, rfl⟩
              rw [← hev] at HRVJ HEL
              clear hev
              have HGI := Lib.hid (show ((row.take jx ++ List.replicate (n - jx) 0).map (Value.int .i64))[jx]? = some (.int .i64 0) by
                have hl : (row.take jx).length = jx := by rw [List.length_take, HRL.out]; omega
                rw [List.getElem?_map, List.getElem?_append_right (by omega), hl, Nat.sub_self, List.getElem?_replicate, if_pos (by omega)]; rfl)
              have HSE := Lib.hid (show ((row.take jx ++ List.replicate (n - jx) 0).map (Value.int .i64)).set jx (.int .i64 ev) = ((row.take (jx + 1) ++ List.replicate (n - (jx + 1)) 0).map (Value.int .i64)) by
                have hl : (row.take jx).length = jx := by rw [List.length_take, HRL.out]; omega
                have hrj : jx < row.length := by rw [HRL.out]; exact hjt
                have hre : row[jx] = ev := by have := HRVJ.out; rw [List.getElem?_eq_getElem hrj] at this; injection this
                rw [← List.map_set, List.set_append_right jx _ (by omega), hl, Nat.sub_self, show n - jx = (n - (jx + 1)) + 1 by omega, List.replicate_succ, List.set_cons_zero, List.take_succ_eq_append_getElem hrj, hre, List.append_assoc, List.singleton_append])
              refine wp_region_phx (fun a b => Below a.heap.size a b) (fun h k => h.trans (k.mono h.size)) ((Below.refl _ _).drew) 11 (by kernel_rfl) (by kernel_rfl) (by kernel_rfl) (by kernel_rfl) rfl (by kernel_rfl) (phiT (fun i => ([some (.slice (some ⟨gM, 0, none⟩) n n), some (.int .i64 (ix : Int)), some (.pointer (some ⟨gM, ix, none⟩)), some (.slice (some ⟨gr_, 0, none⟩) n n), some (.int .i64 (jx : Int)), some (.pointer (some ⟨gB, 1, none⟩)), some (.slice A nw c), some (.agg #[.int .i64 xg, .int .i64 (xpn : Int), .int .i64 (xqn : Int)]), some (.agg #[.int .i64 yg, .int .i64 yp, .int .i64 yq]), some (.int .i64 ev), some (.pointer (some ⟨gr_, jx, none⟩)), some (undef)] : List (Option Value)).getD i none) (fun i v w => True)) (fun i v w w' h hb => ?_) (fun _ W' => Arr W' gr_ 3 ((row.take (jx + 1) ++ List.replicate (n - (jx + 1)) 0).map (Value.int .i64)) ∧ Wr [gr_] w9 W') ⟨?_, ?_, ?_, ?_, ?_, ?_, ?_, ?_, ?_, ?_, ?_, ?_, trivial⟩ ?_
              · unfold phiT at h ⊢
                split
                · next u hu => rw [hu] at h; exact h
                · next hu =>
                  rw [hu] at h
                  exact True.intro
              · intro x w1 bA hT hdep hold hb
                refine ⟨fun _ => ?_, fun h => absurd h (by decide)⟩
                refine .inl ⟨trivial, ?_⟩
                have e6 : bA.tmps[6]?.getD undef = .slice (some ⟨gM, 0, none⟩) n n := hb 6
                refine phx_run (.slice (some ⟨gM, 0, none⟩) n n) ?_ (Below.refl _ _) rfl
                clear hb hdep hold
                go_simp
              · intro x w1 bA hT hdep hold hb
                refine ⟨fun _ => ?_, fun h => absurd h (by decide)⟩
                refine .inl ⟨trivial, ?_⟩
                have e7 : bA.tmps[7]?.getD undef = .int .i64 (ix : Int) := hb 7
                refine phx_run (.int .i64 (ix : Int)) ?_ (Below.refl _ _) rfl
                clear hb hdep hold
                go_simp
              · intro x w1 bA hT hdep hold hb
                refine ⟨fun _ => ?_, fun h => absurd h (by decide)⟩
                refine .inl ⟨trivial, ?_⟩
                have e45 : bA.tmps[45]?.getD undef = .slice (some ⟨gM, 0, none⟩) n n := (hb 45).trans (hdep 0 (by decide))
                have e46 : bA.tmps[46]?.getD undef = .int .i64 (ix : Int) := (hb 46).trans (hdep 1 (by decide))
                refine phx_run (.pointer (some ⟨gM, ix, none⟩)) ?_ (Below.refl _ _) rfl
                clear hb hdep hold
                go_simp
              · intro x w1 bA hT hdep hold hb
                refine ⟨fun _ => ?_, fun h => absurd h (by decide)⟩
                refine .inl ⟨trivial, ?_⟩
                have e47 : bA.tmps[47]?.getD undef = .pointer (some ⟨gM, ix, none⟩) := (hb 47).trans (hdep 2 (by decide))
                have cc := (HO4.out.below hT HO4.out.lt).cell ix
                rw [HGET.out] at cc
                refine phx_run (.slice (some ⟨gr_, 0, none⟩) n n) ?_ (Below.refl _ _) rfl
                clear hb hdep hold
                go_simp
              · intro x w1 bA hT hdep hold hb
                refine ⟨fun _ => ?_, fun h => absurd h (by decide)⟩
                refine .inl ⟨trivial, ?_⟩
                have e9 : bA.tmps[9]?.getD undef = .int .i64 (jx : Int) := hb 9
                refine phx_run (.int .i64 (jx : Int)) ?_ (Below.refl _ _) rfl
                clear hb hdep hold
                go_simp
              · intro x w1 bA hT hdep hold hb
                refine ⟨fun _ => ?_, fun h => absurd h (by decide)⟩
                refine .inl ⟨trivial, ?_⟩
                have e1 : bA.tmps[1]?.getD undef = .pointer (some ⟨gB, 0, none⟩) := hb 1
                refine phx_run (.pointer (some ⟨gB, 1, none⟩)) ?_ (Below.refl _ _) rfl
                clear hb hdep hold
                go_simp
              · intro x w1 bA hT hdep hold hb
                refine ⟨fun _ => ?_, fun h => absurd h (by decide)⟩
                refine .inl ⟨trivial, ?_⟩
                have e50 : bA.tmps[50]?.getD undef = .pointer (some ⟨gB, 1, none⟩) := (hb 50).trans (hdep 5 (by decide))
                have cc := (HQ4.out.below hT HQ4.out.lt).cell 1
                refine phx_run (.slice A nw c) ?_ (Below.refl _ _) rfl
                clear hb hdep hold
                go_simp
              · intro x w1 bA hT hdep hold hb
                refine ⟨fun _ => ?_, fun h => absurd h (by decide)⟩
                refine .inl ⟨trivial, ?_⟩
                have e8 : bA.tmps[8]?.getD undef = .pointer (some ⟨tb1, 0, none⟩) := hb 8
                have cc0 := (HX4.out.below hT HX4.out.lt).cell 0
                have cc1 := (HX4.out.below hT HX4.out.lt).cell 1
                have cc2 := (HX4.out.below hT HX4.out.lt).cell 2
                refine phx_run (.agg #[.int .i64 xg, .int .i64 (xpn : Int), .int .i64 (xqn : Int)]) ?_ (Below.refl _ _) rfl
                clear hb hdep hold
                go_simp
              · intro x w1 bA hT hdep hold hb
                refine ⟨fun _ => ?_, fun h => absurd h (by decide)⟩
                refine .inl ⟨trivial, ?_⟩
                have e10 : bA.tmps[10]?.getD undef = .pointer (some ⟨tb2, 0, none⟩) := hb 10
                have cc0 := (HY.out.below hT HY.out.lt).cell 0
                have cc1 := (HY.out.below hT HY.out.lt).cell 1
                have cc2 := (HY.out.below hT HY.out.lt).cell 2
                refine phx_run (.agg #[.int .i64 yg, .int .i64 yp, .int .i64 yq]) ?_ (Below.refl _ _) rfl
                clear hb hdep hold
                go_simp
              · intro x w1 bA hT hdep hold hb
                refine ⟨fun _ => ?_, fun h => absurd h (by decide)⟩
                refine .inl ⟨trivial, ?_⟩
                have e51 : bA.tmps[51]?.getD undef = .slice A nw c := (hb 51).trans (hdep 6 (by decide))
                have e52 : bA.tmps[52]?.getD undef = .agg #[.int .i64 xg, .int .i64 (xpn : Int), .int .i64 (xqn : Int)] := (hb 52).trans (hdep 7 (by decide))
                have e53 : bA.tmps[53]?.getD undef = .agg #[.int .i64 yg, .int .i64 yp, .int .i64 yq] := (hb 53).trans (hdep 8 (by decide))
                refine phx_call ?_ ((HEL.out w1 (HBE.out.trans (hT.mono HBE.out.size))).mono fun e w' h => ⟨_, h.1, h.2, rfl⟩)
                clear hb hdep hold
                go_simp
              · intro x w1 bA hT hdep hold hb
                refine ⟨fun _ => ?_, fun h => absurd h (by decide)⟩
                refine .inl ⟨trivial, ?_⟩
                have e48 : bA.tmps[48]?.getD undef = .slice (some ⟨gr_, 0, none⟩) n n := (hb 48).trans (hdep 3 (by decide))
                have e49 : bA.tmps[49]?.getD undef = .int .i64 (jx : Int) := (hb 49).trans (hdep 4 (by decide))
                refine phx_run (.pointer (some ⟨gr_, jx, none⟩)) ?_ (Below.refl _ _) rfl
                clear hb hdep hold
                go_simp
              · intro x w1 bA hT hdep hold hb
                refine ⟨fun h => absurd h (by decide), fun _ hall => ?_⟩
                refine ⟨trivial, ?_⟩
                have e54 : bA.tmps[54]?.getD undef = .int .i64 ev := (hb 54).trans (hdep 9 (by decide))
                have e55 : bA.tmps[55]?.getD undef = .pointer (some ⟨gr_, jx, none⟩) := (hb 55).trans (hdep 10 (by decide))
                clear hb hdep hold
                have q5 := HAR4.out.below hT HAR4.out.lt
                have Q5b := Lib.hid q5
                have c0 := q5.cell jx
                rw [HGI.out] at c0
                have f0 := q5.frozen jx
                have HBL := Lib.hid hT
                clear q5 hT
                have hrr : Arr (w1.setCell ⟨gr_, jx, none⟩ (.int .i64 ev)) gr_ 3 ((row.take (jx + 1) ++ List.replicate (n - (jx + 1)) 0).map (Value.int .i64)) ∧ Wr [gr_] w9 (w1.setCell ⟨gr_, jx, none⟩ (.int .i64 ev)) := ⟨by rw [← HSE.out]; exact Q5b.out.set jx _, (Wr.of_below HBL.out).setCell (List.mem_singleton.2 rfl) jx _⟩
                refine phx_st (R := fun W' => Arr W' gr_ 3 ((row.take (jx + 1) ++ List.replicate (n - (jx + 1)) 0).map (Value.int .i64)) ∧ Wr [gr_] w9 W') (w1.setCell ⟨gr_, jx, none⟩ (.int .i64 ev)) ?_ ?_ ?_
                · go_simp
                · rfl
                · exact hrr
              intro x9 w12 hR
              simp only [putAll, dstOf, Act.put, List.map_cons, List.map_nil, List.setIfInBounds_toArray, List.set_cons_succ, List.set_cons_zero, Nat.reduceAdd]
              have HR1 := Lib.hid hR.1
              have HR2 := Lib.hid (HWR4.out.trans hR.2)
              clear hR
              go_wp2_with fail
              go_roundg (n - (jx + 1))
              case measure => omega
              case rel => exact ⟨jx + 1, by omega, rfl, by go_num, HR1.out, HR2.out⟩
            · have z3 : ¬ ((jx : Int) < (n : Int)) := by omega
              have e7 : jx = n := by omega
              have har := HAR.out
              rw [e7, Nat.sub_self, List.replicate_zero, List.append_nil, List.take_of_length_le (by rw [HRL.out]; omega)] at har
              have HNX := Lib.hid (HEN.out.next (w9 := wb) (w10 := wd) (gr := gr_) (r := row) HGM.out.2.2 hit HBB.out HSW.out.1 HSW.out.2.1 (by rw [show hdI n gr_ = .slice (some ⟨gr_, 0, none⟩) n n from rfl, ← HWC.out]; exact HWR.out) har (by rw [HRG.out, HRW.out]) HRL.out)
              clear e7 har
              go_wp2_with fail
              go_roundg (n - (ix + 1))
              case measure => omega
              case rel => exact ⟨ix + 1, _, by omega, rfl, by go_num, HNX.out⟩
        · have z2 : ¬ ((ix : Int) < (n : Int)) := by omega
          have e7 : ix = n := by omega
          rw [e7] at HEN
          have HMT := Lib.hid (HEN.out.mat (by rw [sfM_length, HN.out]))
          have HBF := Lib.hid (HB5.out.trans (HBO.out.mono HGM.out.1))
          clear e7 HEN
          go_wp2_with fail
          go_ret2
          exact ⟨HBF.out, .inr (.inr (.inr ⟨HBV.out, HC.out, by rw [HLS.out, ← HN.out]; omega, _, rfl, by rw [HLS.out]; exact HMT.out⟩))⟩
end Go.Proofs.YtbkgpfalljgdcaaGreatDoor
