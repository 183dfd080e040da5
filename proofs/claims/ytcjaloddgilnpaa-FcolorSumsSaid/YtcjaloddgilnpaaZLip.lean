/- fcolor.Valid, of lists of colors in the range. -/
/- Lists of colorings; sums of colorings; there are as many as the modulus (plain, and in memory). -/
import Derived.Test.YtcjaloddgilnpaaZNxr
import Derived.Test.YtcjaloddgilnpaaZNco
namespace Go.Proofs.Ytcjaloddgilnpaa
open Go.RowKit
set_option linter.unusedVariables false

/-- a difference modulo m, as the code makes it -/
def dfF (m a b : Nat) : Nat := if b ≤ a then a - b else m - (b - a)
theorem dfF_cr {m o i u : Nat} (ho : o < m) (hi : i < m) (hu : u < m) : (((dfF m o i : Nat) : Int) == ((dfF m u o : Nat) : Int)) = crB m o i u := by
  rw [Bool.eq_iff_iff, crB_iff ho hi hu]
  have h1 : (m : Int) ∣ (dfF m o i : Int) - ((o : Int) - (i : Int)) ∧ dfF m o i < m := by
    unfold dfF; split
    · exact ⟨⟨0, by omega⟩, by omega⟩
    · exact ⟨⟨1, by omega⟩, by omega⟩
  have h2 : (m : Int) ∣ (dfF m u o : Int) - ((u : Int) - (o : Int)) ∧ dfF m u o < m := by
    unfold dfF; split
    · exact ⟨⟨0, by omega⟩, by omega⟩
    · exact ⟨⟨1, by omega⟩, by omega⟩
  generalize dfF m o i = x at *
  generalize dfF m u o = y at *
  obtain ⟨⟨p, hp⟩, hx⟩ := h1
  obtain ⟨⟨q, hq⟩, hy⟩ := h2
  rw [beq_iff_eq]
  constructor
  · intro h
    exact ⟨q - p, by rw [Int.mul_sub]; omega⟩
  · rintro ⟨r, hr⟩
    have h3 : (m : Int) ∣ (x : Int) - (y : Int) := ⟨r + p - q, by rw [Int.mul_sub, Int.mul_add]; omega⟩
    have := mod_small h3 (by omega)
    omega
set_option maxHeartbeats 1000000 in
theorem diff_any (a b m bx : Nat) (w : World) (ha : a < m) (hb : b < m) (hm : m ≤ 1000) (hx : w.cell? ⟨bx, 0, none⟩ = some (.int .i64 (m : Nat))) :
    Calls Try.prog 48 #[.int .i64 (a : Nat), .int .i64 (b : Nat), .pointer (some ⟨bx, 0, none⟩)] w fun e w' => e = .returned (.int .i64 (dfF m a b : Nat)) ∧ w = w' := by
  by_cases h : b ≤ a
  · have z1 : (b : Int) ≤ (a : Int) := by omega
    have HD := Lib.hid (show ((dfF m a b : Nat) : Int) = (a : Int) - (b : Int) by unfold dfF; rw [if_pos h]; omega)
    clear h
    go_enter Try.func48, Try.ntmps48
    go_wp2_with fail
    go_ret
    exact ⟨by rw [HD.out]; rfl, rfl⟩
  · have z1 : ¬ ((b : Int) ≤ (a : Int)) := by omega
    have HD := Lib.hid (show ((dfF m a b : Nat) : Int) = (m : Int) - ((b : Int) - (a : Int)) by unfold dfF; rw [if_neg h]; omega)
    clear h
    go_enter Try.func48, Try.ntmps48
    go_wp2_with fail
    go_ret
    exact ⟨by rw [HD.out]; rfl, rfl⟩
set_option maxHeartbeats 4000000 in
set_option maxRecDepth 100000 in
theorem holds_any (x m bc ba bd bm g ml : Nat) (A3 : Option Addr) (c3 n : Nat) (arc xs : List Nat) (w : World) (hI : Hid (Ints w (.slice A3 n c3) (zs xs))) (ha : Arr w g 3 (nc arc))
    (hc : w.cell? ⟨bc, 0, none⟩ = some (.slice A3 n c3)) (hp : w.cell? ⟨ba, 0, none⟩ = some (.slice (some ⟨g, 0, none⟩) ml ml)) (hd : w.cell? ⟨bd, 0, none⟩ = some (.func (.func 48) #[] #[.pointer (some ⟨bm, 0, none⟩)])) (hm : w.cell? ⟨bm, 0, none⟩ = some (.int .i64 (m : Nat)))
    (HNN : Hid (xs.length = n)) (HAR : Hid (arc.length = ml)) (hx : 4 * x + 3 < ml) (hml : ml ≤ 256) (hm2 : m ≤ 1000) (HAL : Hid (∀ h, h < ml → gn arc h < n)) (hn : n ≤ 320) (HB : Hid (∀ j, j < n → gn xs j < m)) :
    Calls Try.prog 49 #[.int .i64 (x : Nat), .pointer (some ⟨bc, 0, none⟩), .pointer (some ⟨ba, 0, none⟩), .pointer (some ⟨bd, 0, none⟩)] w fun e w' => e = .returned (.bool (crB m (gn xs (gn arc (4 * x + 1))) (gn xs (gn arc (4 * x))) (gn xs (gn arc (4 * x + 2))))) ∧ Below w.heap.size w w' := by
  obtain ⟨p, hpp⟩ : ∃ p, p = 4 * x := ⟨_, rfl⟩
  obtain ⟨u1, hu1⟩ : ∃ p, p = 4 * x + 1 := ⟨_, rfl⟩
  obtain ⟨u2, hu2⟩ : ∃ p, p = 4 * x + 2 := ⟨_, rfl⟩
  have l0 : p < ml := by omega
  have l1 : u1 < ml := by omega
  have l2 : u2 < ml := by omega
  have m0 := HAL.out p l0
  have m1 := HAL.out u1 l1
  have m2 := HAL.out u2 l2
  have zg0 := (ha.cell p).trans (nc_get (by have := HAR.out; omega))
  have zg1 := (ha.cell u1).trans (nc_get (by have := HAR.out; omega))
  have zg2 := (ha.cell u2).trans (nc_get (by have := HAR.out; omega))
  rw [← hu1, ← hu2, ← hpp]
  generalize gn arc p = e0 at *
  generalize gn arc u1 = e1 at *
  generalize gn arc u2 = e2 at *
  obtain ⟨b, o, rfl, hbl, d0⟩ := col_at hI.out (k := e0) (by rw [HNN.out]; exact m0)
  obtain ⟨b', o', hbo, hbl', d1⟩ := col_at hI.out (k := e1) (by rw [HNN.out]; exact m1)
  obtain ⟨b'', o'', hbo2, hbl'', d2⟩ := col_at hI.out (k := e2) (by rw [HNN.out]; exact m2)
  injection hbo with hbo
  injection hbo with hbo hbo'
  injection hbo2 with hbo2
  injection hbo2 with hbo2 hbo2'
  subst hbo hbo' hbo2 hbo2'
  have v0 := HB.out e0 m0
  have v1 := HB.out e1 m1
  have v2 := HB.out e2 m2
  generalize gn xs e0 = f0 at *
  generalize gn xs e1 = f1 at *
  generalize gn xs e2 = f2 at *
  have k0 : (p : Int) < (ml : Int) := by omega
  have k1 : (u1 : Int) < (ml : Int) := by omega
  have k2 : (u2 : Int) < (ml : Int) := by omega
  have j0 : (e0 : Int) < (n : Int) := by omega
  have j1 : (e1 : Int) < (n : Int) := by omega
  have j2 : (e2 : Int) < (n : Int) := by omega
  have wa : 4 * (x : Int) = (p : Int) := by omega
  have wb : (p : Int) + 1 = (u1 : Int) := by omega
  have wc : (p : Int) + 2 = (u2 : Int) := by omega
  have HCR := Lib.hid (dfF_cr v1 v0 v2)
  generalize crB m f1 f0 f2 = B at *
  clear hpp hu1 hu2 hx hbl hbl' hbl'' hI
  go_enter Try.func49, Try.ntmps49
  go_upto_region 1 with fail
  go_quiet (fail)
  clear d0 d1 d2 zg0 zg1 zg2 wa wb wc hc hp
  go_upto_region 2 with fail
  have hm3 : (w.drewN nq).cell? ⟨bm, 0, none⟩ = some (.int .i64 (m : Nat)) := hm
  have hd3 : (w.drewN nq).cell? ⟨bd, 0, none⟩ = some (.func (.func 48) #[] #[.pointer (some ⟨bm, 0, none⟩)]) := hd
  have hb3 : Below w.heap.size w (w.drewN nq) := bdrewN (Below.refl _ _) nq
  generalize w.drewN nq = W at *
  have HD1 := Lib.hid (fun k => quietL (diff_any f1 f0 m bm (W.drewN k) v1 v0 hm2 (show (W.drewN k).cell? ⟨bm, 0, none⟩ = some (.int .i64 (m : Nat)) from hm3)))
  have HD2 := Lib.hid (fun k => quietL (diff_any f2 f1 m bm (W.drewN k) v2 v1 hm2 (show (W.drewN k).cell? ⟨bm, 0, none⟩ = some (.int .i64 (m : Nat)) from hm3)))
  clear ha hm hd
  go_quiet ((first | (go_at_call_of 48 (Value.int .i64 (f0 : Int)); exact HD1.out _) | (go_at_call 48; exact HD2.out _)))
  go_wp2_with fail
  go_ret
  exact ⟨by rw [← HCR.out]; rfl, bdrewN hb3 _⟩
set_option maxHeartbeats 2000000 in
set_option maxRecDepth 100000 in
theorem valid_col (vs vm vx : Value) (S M : List Int) (L : Int) (xs : List Nat) (m : Nat) (w : World) (hS : Ints w vs S) (hM : Ints w vm M) (hX : Ints w vx (zs xs)) (hv : valB S M L = true) (hm : 1 ≤ m) (hm2 : m ≤ 1000) (hl : xs.length = colN M L) (hb : ∀ j, j < xs.length → gn xs j < m) :
    Calls Try.prog 26 #[.agg #[vs, vm, .int .i64 L], .int .i64 (m : Nat), vx] w fun e w' => e = .returned (.bool (colB (arcL M) S.length m xs)) ∧ Below w.heap.size w w' := by
  have hW : ∀ W, W = ((w.alloc (.cells #[vs, vm, .int .i64 L] 24)).alloc (.cells #[.int .i64 (m : Nat)] 3)).alloc (.cells #[vx] 22) → Arr W w.heap.size 24 [vs, vm, .int .i64 L] ∧ Arr W (w.heap.size + 1) 3 [.int .i64 (m : Nat)] ∧ Arr W (w.heap.size + 2) 22 [vx] ∧ Below w.heap.size w W := by
    intro W hW
    subst hW
    exact ⟨((Arr.new w _ _).alloc _).alloc _, (Arr.newAt _ _ _ _ (by simp [heap_push])).alloc _, Arr.newAt _ _ _ _ (by simp [heap_push]), (((Below.refl _ _).alloc (Nat.le_refl _) _).alloc (by simp only [heap_push, Array.size_push]; omega) _).alloc (by simp only [heap_push, Array.size_push]; omega) _⟩
  have HC := Lib.hid (fun W (hb : Below w.heap.size w W) => Arcs_yes vs vm S M L W (hS.below hb) (hM.below hb) hv)
  have HK := Lib.hid (valB_ok hv)
  have hcn := colN_le HK.out
  have hsn := HK.out.n
  have HAL := Lib.hid (fun h (hh : h < M.length) => arc_lt HK.out hh)
  have HAR := Lib.hid (arcL_length M)
  have T2 := Lib.hid HK.out.m
  have hml : M.length ≤ 256 := by have := T2.out; omega
  have HX := Lib.hid (fun W (hb : Below w.heap.size w W) => hX.below hb)
  have HB := Lib.hid hb
  clear hb hv
  obtain ⟨A, c, rfl, hc, hx⟩ := hS
  obtain ⟨A2, c2, rfl, hc2, hx2⟩ := hM
  obtain ⟨A3, c3, rfl, hc3, hx3⟩ := hX
  clear hx hx2 hx3
  rw [zs_length] at hc3 HX hW ⊢
  rw [← hl] at hcn HAL HC
  clear hl HK
  generalize arcL M = arc at *
  generalize hn : xs.length = n at *
  have HNN := Lib.hid hn
  clear hn
  have z1 : ¬ ((m : Int) < 1) := by omega
  have z2 : ((n : Int) != (n : Int)) = false := by simp
  go_enter Try.func26, Try.ntmps26
  go_upto_region 1 with fail
  generalize ((w.alloc (.cells #[.slice A S.length c, .slice A2 M.length c2, .int .i64 L] 24)).alloc (.cells #[.int .i64 (m : Nat)] 3)).alloc (.cells #[.slice A3 n c3] 22) = w4 at hW ⊢
  obtain ⟨q0, qm, qc, hb4⟩ := hW w4 rfl
  clear hW
  have y0 := q0.cell 0
  have y1 := q0.cell 1
  have y2 := q0.cell 2
  go_upto_region 2 with (go_at_call 33; refine (HC.out _ hb4).mono ?_; rintro e w5 ⟨g, rfl, hg5, a5, hb5⟩)
  have hb5' := hb4.trans (hb5.mono hb4.size)
  have hW6 : ∀ W, W = w5.alloc (.cells #[.slice (some ⟨g, 0, none⟩) M.length M.length] 22) → Arr W w5.heap.size 22 [.slice (some ⟨g, 0, none⟩) M.length M.length] ∧ Arr W g 3 (nc arc) ∧ Arr W w.heap.size 24 [.slice A S.length c, .slice A2 M.length c2, .int .i64 L] ∧ Arr W (w.heap.size + 1) 3 [.int .i64 (m : Nat)] ∧ Arr W (w.heap.size + 2) 22 [.slice A3 n c3] ∧ Below w.heap.size w W := by
    intro W hW
    subst hW
    exact ⟨Arr.new w5 _ _, a5.alloc _, (q0.below hb5 q0.lt).alloc _, (qm.below hb5 qm.lt).alloc _, (qc.below hb5 qc.lt).alloc _, hb5'.alloc hb5'.size _⟩
  generalize w5.alloc (.cells #[.slice (some ⟨g, 0, none⟩) M.length M.length] 22) = w6 at hW6 ⊢
  obtain ⟨ap, a6, q6, qm6, qc6, hb6⟩ := hW6 w6 rfl
  have HP5 := Lib.hid hb5'.size
  generalize w5.heap.size = pa at *
  clear hW6 y0 y1 y2 q0 qm qc hb4 hb5 hb5' a5 HC hg5
  have y0 := q6.cell 0
  have ym := qm6.cell 0
  have yc := qc6.cell 0
  have HX6 := Lib.hid (HX.out w6 hb6)
  go_wp2_with fail
  go_loopg [11, 35] n (fun gk s11 s35 wr => ∃ i : Nat, i ≤ n ∧ gk = n - i ∧ s35 = .int .i64 (i : Int) ∧ wr = w6)
  case atStart => exact ⟨0, Nat.zero_le _, rfl, rfl, rfl⟩
  case round =>
    obtain ⟨i, hi, rfl, rfl, rfl⟩ := hrel
    by_cases hlt : i < n
    · have z3 : (i : Int) < (n : Int) := by omega
      obtain ⟨b, o, rfl, hbl, hcell⟩ := col_at HX6.out (k := i) (by rw [HNN.out]; exact hlt)
      have hbi := HB.out i hlt
      have z4 : ¬ ((gn xs i : Int) < 0) := by omega
      have z5 : ¬ ((m : Int) ≤ (gn xs i : Int)) := by omega
      generalize gn xs i = v at *
      go_wp2_with fail
      go_roundg (n - (i + 1))
      case measure => omega
      case rel => exact ⟨i + 1, by omega, rfl, by go_num, rfl⟩
    · have z3 : ¬ ((i : Int) < (n : Int)) := by omega
      clear HX6 hlt hi
      go_upto_region 11 with fail
      have hW7 : ∀ W, W = wr.alloc (.cells #[.func (.func 48) #[] #[.pointer (some ⟨w.heap.size + 1, 0, none⟩)]] 38) → Arr W wr.heap.size 38 [.func (.func 48) #[] #[.pointer (some ⟨w.heap.size + 1, 0, none⟩)]] ∧ Arr W pa 22 [.slice (some ⟨g, 0, none⟩) M.length M.length] ∧ Arr W g 3 (nc arc) ∧ Arr W w.heap.size 24 [.slice A S.length c, .slice A2 M.length c2, .int .i64 L] ∧ Arr W (w.heap.size + 1) 3 [.int .i64 (m : Nat)] ∧ Arr W (w.heap.size + 2) 22 [.slice A3 n c3] ∧ Below w.heap.size w W := by
        intro W hW
        subst hW
        exact ⟨Arr.new wr _ _, ap.alloc _, a6.alloc _, q6.alloc _, qm6.alloc _, qc6.alloc _, hb6.alloc hb6.size _⟩
      generalize wr.alloc (.cells #[.func (.func 48) #[] #[.pointer (some ⟨w.heap.size + 1, 0, none⟩)]] 38) = w7 at hW7 ⊢
      obtain ⟨ad, ap7, a7, q7, qm7, qc7, hb7⟩ := hW7 w7 rfl
      generalize wr.heap.size = pd at *
      clear hW7 y0 ym yc ap a6 q6 qm6 qc6 hb6
      have y0 := q7.cell 0
      go_wp2_with fail
      go_loopg [14, 52] S.length (fun gk s14 s52 wx => ∃ x : Nat, x ≤ S.length ∧ gk = S.length - x ∧ s52 = .int .i64 (x : Int) ∧ Hid (colB arc x m xs = true) ∧ Below w7.heap.size w7 wx)
      case atStart => exact ⟨0, Nat.zero_le _, rfl, rfl, Lib.hid rfl, Below.refl _ _⟩
      case round =>
        obtain ⟨x, hx, rfl, rfl, HP, hbx⟩ := hrel
        by_cases hxt : x < S.length
        · have z4 : (x : Int) < (S.length : Int) := by omega
          have hx4 : 4 * x + 3 < M.length := by have := T2.out; omega
          have hbw := hb7.trans (hbx.mono hb7.size)
          have HH := Lib.hid (holds_any x m (w.heap.size + 2) pa pd (w.heap.size + 1) g M.length A3 c3 n arc xs wr (Lib.hid (HX.out wr hbw)) (a7.below hbx a7.lt) ((qc7.below hbx qc7.lt).cell 0) ((ap7.below hbx ap7.lt).cell 0) ((ad.below hbx ad.lt).cell 0) ((qm7.below hbx qm7.lt).cell 0) HNN HAR hx4 hml hm2 HAL hcn HB)
          have HST := Lib.hid (show colB arc (x + 1) m xs = crB m (gn xs (gn arc (4 * x + 1))) (gn xs (gn arc (4 * x))) (gn xs (gn arc (4 * x + 2))) by rw [colB_step HP.out])
          have HSP := Lib.hid (show crB m (gn xs (gn arc (4 * x + 1))) (gn xs (gn arc (4 * x))) (gn xs (gn arc (4 * x + 2))) = false → colB arc S.length m xs = false from colB_stop hxt)
          generalize crB m (gn xs (gn arc (4 * x + 1))) (gn xs (gn arc (4 * x))) (gn xs (gn arc (4 * x + 2))) = B at *
          clear hx4
          cases B with
          | true =>
            go_wp2_with (go_at_call 49; refine HH.out.mono ?_; rintro e wy ⟨rfl, hby⟩)
            go_roundg (S.length - (x + 1))
            case measure => omega
            case rel => exact ⟨x + 1, by omega, rfl, by go_num, HST, hbx.trans (hby.mono hbx.size)⟩
          | false =>
            have HF := Lib.hid (HSP.out rfl)
            go_wp2_with (go_at_call 49; refine HH.out.mono ?_; rintro e wy ⟨rfl, hby⟩)
            go_ret
            exact ⟨by rw [HF.out]; rfl, hbw.trans (hby.mono hbw.size)⟩
        · have z4 : ¬ ((x : Int) < (S.length : Int)) := by omega
          have hxn : x = S.length := by omega
          have HE := Lib.hid (show colB arc S.length m xs = true by rw [← hxn]; exact HP.out)
          clear hxn HP
          go_wp2_with fail
          go_ret
          exact ⟨by rw [HE.out]; rfl, hb7.trans (hbx.mono hb7.size)⟩
end Go.Proofs.Ytcjaloddgilnpaa

namespace Go.Proofs.Ytcjaloddgilnpaa
open Go.RowKit
set_option linter.unusedVariables false

/-- the colorings among the first t lists -/
def goodL (arc : List Nat) (n m K t : Nat) : List (List Nat) := ((List.range t).filter (fun s => colB arc n m (vec m K s))).map (vec m K)
theorem goodL_yes {arc : List Nat} {n m K t : Nat} (h : colB arc n m (vec m K t) = true) : goodL arc n m K (t + 1) = goodL arc n m K t ++ [vec m K t] := by
  unfold goodL
  rw [List.range_succ, List.filter_append, List.map_append]
  simp [h]
theorem goodL_no {arc : List Nat} {n m K t : Nat} (h : colB arc n m (vec m K t) = false) : goodL arc n m K (t + 1) = goodL arc n m K t := by
  unfold goodL
  rw [List.range_succ, List.filter_append, List.map_append]
  simp [h]
theorem goodL_length (S M : List Int) (L : Int) (m t : Nat) : (goodL (arcL M) S.length m (colN M L) t).length = nCol S M L m t := by
  unfold goodL nCol
  rw [List.length_map, cN_filter]
theorem goodL_le (arc : List Nat) (n m K t : Nat) : (goodL arc n m K t).length ≤ t := by
  unfold goodL
  rw [List.length_map]
  exact Nat.le_trans (List.length_filter_le _ _) (by simp)
theorem goodL_mem {arc : List Nat} {n m K t : Nat} {r : List Nat} (hm : 0 < m) (h : r ∈ goodL arc n m K t) : r.length = K ∧ (∀ j, gn r j < m) ∧ colB arc n m r = true := by
  unfold goodL at h
  obtain ⟨s, hs, rfl⟩ := List.mem_map.1 h
  exact ⟨vec_length _ _ _, fun j => gn_vec_lt hm j, (List.mem_filter.1 hs).2⟩
theorem colB_iff {arc x : List Nat} {n m K : Nat} (hA : ∀ h, h < 4 * n → gn arc h < K) (hx : ∀ j, j < K → gn x j < m) : colB arc n m x = true ↔ ∀ c, c < n → (m : Int) ∣ 2 * (gn x (gn arc (4 * c + 1)) : Int) - (gn x (gn arc (4 * c)) : Int) - (gn x (gn arc (4 * c + 2)) : Int) := by
  unfold colB
  rw [List.all_eq_true]
  constructor
  · intro h c hc
    exact (crB_iff (hx _ (hA _ (by omega))) (hx _ (hA _ (by omega))) (hx _ (hA _ (by omega)))).1 (h c (List.mem_range.2 hc))
  · intro h c hc
    have hc' := List.mem_range.1 hc
    exact (crB_iff (hx _ (hA _ (by omega))) (hx _ (hA _ (by omega))) (hx _ (hA _ (by omega)))).2 (h c hc')
/-- the sum of a list and a multiple of another one, as far as place k -/
def smL (m t K : Nat) (x y : List Nat) (k : Nat) : List Nat := (List.range K).map fun j => if j < k then (gn x j + t * gn y j) % m else 0
theorem smL_length (m t K : Nat) (x y : List Nat) (k : Nat) : (smL m t K x y k).length = K := by simp [smL]
theorem gn_smL {m t K : Nat} {x y : List Nat} {k j : Nat} (h : j < K) : gn (smL m t K x y k) j = if j < k then (gn x j + t * gn y j) % m else 0 := by unfold smL; rw [gn_map_range, if_pos h]
theorem smL_zero (m t K : Nat) (x y : List Nat) : nc (smL m t K x y 0) = List.replicate K (Value.int .i64 0) := by
  have : smL m t K x y 0 = List.replicate K 0 := by
    apply gn_ext (by simp [smL_length])
    intro i hi
    rw [smL_length] at hi
    rw [gn_smL hi, if_neg (by omega)]
    unfold gn; rw [List.getElem?_replicate, if_pos hi]; rfl
  rw [this]; simp [nc]
theorem smL_step {m t K : Nat} {x y : List Nat} {k : Nat} (h : k < K) : (nc (smL m t K x y k)).set k (.int .i64 (((gn x k + t * gn y k) % m : Nat) : Int)) = nc (smL m t K x y (k + 1)) := by
  rw [nc_set]
  congr 1
  apply gn_ext (by simp [smL_length])
  intro i hi
  have hi' : i < K := by simpa [smL_length] using hi
  rw [gn_set _ _ _ _ (by rw [smL_length]; exact h), gn_smL hi', gn_smL hi']
  by_cases e : i = k
  · subst e; rw [if_pos rfl, if_pos (by omega)]
  · rw [if_neg e]
    by_cases c : i < k
    · rw [if_pos c, if_pos (by omega)]
    · rw [if_neg c, if_neg (by omega)]
theorem colB_sum {arc x y : List Nat} {n m K t : Nat} (hm : 0 < m) (hA : ∀ h, h < 4 * n → gn arc h < K) (hx : ∀ j, gn x j < m) (hy : ∀ j, gn y j < m) (h1 : colB arc n m x = true) (h2 : colB arc n m y = true) : colB arc n m (smL m t K x y K) = true := by
  have hz : ∀ j, j < K → gn (smL m t K x y K) j < m := fun j hj => by rw [gn_smL hj, if_pos hj]; exact Nat.mod_lt _ hm
  rw [colB_iff hA hz]
  rw [colB_iff hA (fun j _ => hx j)] at h1
  rw [colB_iff hA (fun j _ => hy j)] at h2
  intro c hc
  obtain ⟨p, hp⟩ := h1 c hc
  obtain ⟨q, hq⟩ := h2 c hc
  have key : ∀ j, j < K → ∃ r : Int, (gn (smL m t K x y K) j : Int) = (gn x j : Int) + (t : Int) * (gn y j : Int) + (m : Int) * r := by
    intro j hj
    rw [gn_smL hj, if_pos hj]
    have h3 := Nat.div_add_mod (gn x j + t * gn y j) m
    refine ⟨-(((gn x j + t * gn y j) / m : Nat) : Int), ?_⟩
    have h4 : ((m * ((gn x j + t * gn y j) / m) + (gn x j + t * gn y j) % m : Nat) : Int) = ((gn x j + t * gn y j : Nat) : Int) := by rw [h3]
    rw [Int.natCast_add, Int.natCast_add, Int.natCast_mul, Int.natCast_mul] at h4
    rw [Int.mul_neg]
    omega
  obtain ⟨r1, e1⟩ := key _ (hA (4 * c + 1) (by omega))
  obtain ⟨r0, e0⟩ := key _ (hA (4 * c) (by omega))
  obtain ⟨r2, e2⟩ := key _ (hA (4 * c + 2) (by omega))
  rw [e1, e0, e2]
  refine ⟨p + (t : Int) * q + 2 * r1 - r0 - r2, ?_⟩
  have e3 : (t : Int) * (2 * (gn y (gn arc (4 * c + 1)) : Int) - (gn y (gn arc (4 * c)) : Int) - (gn y (gn arc (4 * c + 2)) : Int)) = (m : Int) * ((t : Int) * q) := by rw [hq, Int.mul_left_comm]
  rw [Int.mul_sub, Int.mul_sub, Int.mul_left_comm] at e3
  have e5 : (m : Int) * (p + (t : Int) * q + 2 * r1 - r0 - r2) = (m : Int) * p + (m : Int) * ((t : Int) * q) + 2 * ((m : Int) * r1) - (m : Int) * r0 - (m : Int) * r2 := by
    rw [Int.mul_sub, Int.mul_sub, Int.mul_add, Int.mul_add, Int.mul_left_comm (m : Int) 2 r1]
  rw [e5]
  generalize (m : Int) * ((t : Int) * q) = Z1 at *
  generalize (m : Int) * r1 = Z2 at *
  generalize (m : Int) * r0 = Z3 at *
  generalize (m : Int) * r2 = Z4 at *
  generalize (t : Int) * (gn y (gn arc (4 * c + 1)) : Int) = Y1 at *
  generalize (t : Int) * (gn y (gn arc (4 * c)) : Int) = Y0 at *
  generalize (t : Int) * (gn y (gn arc (4 * c + 2)) : Int) = Y2 at *
  omega
/-- the constant lists are colorings: so there are as many as the modulus, at least -/
theorem nCol_ge {S M : List Int} {L : Int} (k : Ok S M L) {m : Nat} (hm : 0 < m) (hK : 0 < colN M L) : m ≤ nCol S M L m (m ^ colN M L) := by
  rw [nCol_sol k hm]
  unfold nSol cntV
  have hdg : ∀ a, a < m → ∀ j, j < colN M L → dg m (enc m (fun _ => a) (colN M L)) j = a := fun a ha j hj => dg_enc hm (fun _ _ => ha) hj
  have h1 := len_le_of_sub ((List.range m).map fun a => enc m (fun _ => a) (colN M L)) ((List.range (m ^ colN M L)).filter fun t => solB S.length (colN M L) (matZ (rowsOf S M L)) m (dg m t)) (by
    rw [List.Nodup, List.pairwise_map]
    refine (List.nodup_range (n := m)).imp_of_mem (fun {a b} ha hb hne he => hne ?_)
    have e1 := hdg a (List.mem_range.1 ha) 0 hK
    have e2 := hdg b (List.mem_range.1 hb) 0 hK
    rw [he] at e1
    exact e1.symm.trans e2) (fun x hx => by
    obtain ⟨a, ha, rfl⟩ := List.mem_map.1 hx
    have ha' := List.mem_range.1 ha
    refine List.mem_filter.2 ⟨List.mem_range.2 (enc_lt hm (fun _ _ => ha')), ?_⟩
    rw [solB_true]
    intro i hi
    have hi2 : i < (rowsOf S M L).length := by rw [rowsOf_length]; exact hi
    have hz := rowsOf_zero k _ (List.getElem_mem hi2)
    have e1 : sumI (colN M L) (fun j => matZ (rowsOf S M L) i j * ((dg m (enc m (fun _ => a) (colN M L)) j : Nat) : Int)) = sumI (colN M L) (fun j => (a : Int) * gi (rowsOf S M L)[i] j) := sumI_congr (fun j hj => by
      rw [hdg a ha' j hj, matZ_get (by rw [rowsOf_length]; exact hi), Int.mul_comm])
    rw [e1, sumI_mul, hz, Int.mul_zero]
    exact Int.dvd_zero _)
  rw [List.length_map, List.length_range] at h1
  exact h1

/-- the slices fs read as the lists rows, each in a block of its own that is not block g -/
def RowsI (w : World) (g : Option Nat) (fs : List Value) (rows : List (List Nat)) : Prop :=
  fs.length = rows.length ∧ ∀ (i : Nat) (f : Value) (row : List Nat), fs[i]? = some f → rows[i]? = some row → ∃ b c, f = .slice (some ⟨b, 0, none⟩) row.length c ∧ row.length ≤ c ∧ b < w.heap.size ∧ g ≠ some b ∧ ∀ k, k < row.length → w.cell? ⟨b, k, none⟩ = some (.int .i64 (gn row k : Int))
theorem RowsI.nil (w : World) : RowsI w none [] [] := ⟨rfl, fun i f h hf => by simp at hf⟩
theorem RowsI.keep {w w' : World} {g g' : Option Nat} {fs : List Value} {rows : List (List Nat)} (h : RowsI w g fs rows) (hs : w.heap.size ≤ w'.heap.size) (hk : ∀ k, k < w.heap.size → g ≠ some k → w'.heap[k]? = w.heap[k]?) (hg : ∀ k, k < w.heap.size → g ≠ some k → g' ≠ some k) : RowsI w' g' fs rows := by
  refine ⟨h.1, fun i f r h1 h2 => ?_⟩
  obtain ⟨b, c, e, hc, hb, hne, hcell⟩ := h.2 i f r h1 h2
  exact ⟨b, c, e, hc, by omega, hg b hb hne, fun k hk' => (World.cell?_of_block (a := ⟨b, k, none⟩) (hk b hb hne)).trans (hcell k hk')⟩
theorem RowsI.below {w w' : World} {g : Option Nat} {fs : List Value} {rows : List (List Nat)} (h : RowsI w g fs rows) (hb : Below w.heap.size w w') : RowsI w' g fs rows := h.keep hb.size (fun k hk _ => hb.block k hk) (fun _ _ q => q)
theorem RowsI.snoc {w : World} {g : Option Nat} {fs : List Value} {rows : List (List Nat)} (h : RowsI w g fs rows) {b c : Nat} {row : List Nat} (hI : Ints w (.slice (some ⟨b, 0, none⟩) row.length c) (zs row)) (hb : b < w.heap.size) (hne : g ≠ some b) :
    RowsI w g (fs ++ [Value.slice (some ⟨b, 0, none⟩) row.length c]) (rows ++ [row]) := by
  refine ⟨by simp [h.1], fun i f r h1 h2 => ?_⟩
  rcases Nat.lt_or_ge i fs.length with q | q
  · rw [List.getElem?_append_left q] at h1
    rw [List.getElem?_append_left (by rw [← h.1]; exact q)] at h2
    exact h.2 i f r h1 h2
  · rw [List.getElem?_append_right q] at h1
    rw [List.getElem?_append_right (by rw [← h.1]; exact q)] at h2
    have hi : i - fs.length = 0 := by
      have := (List.getElem?_eq_some_iff.1 h1).1; simp at this; omega
    rw [hi] at h1
    rw [← h.1, hi] at h2
    simp at h1 h2
    subst h1 h2
    obtain ⟨A, c', hv, hc, _⟩ := id hI
    injection hv with _ _ e3
    refine ⟨b, c, rfl, by rw [zs_length] at hc; omega, hb, hne, fun k hk => ?_⟩
    obtain ⟨b', o', e, _, hcell⟩ := col_at hI hk
    injection e with e
    injection e with e1 e2
    subst e1 e2
    rw [Nat.zero_add] at hcell
    exact hcell
theorem RowsI.ints {w : World} {g : Option Nat} {fs : List Value} {rows : List (List Nat)} (h : RowsI w g fs rows) {i : Nat} {f : Value} {row : List Nat} (h1 : fs[i]? = some f) (h2 : rows[i]? = some row) : Ints w f (zs row) := by
  obtain ⟨b, c, rfl, hc, _, _, hcell⟩ := h.2 i f row h1 h2
  refine ⟨_, _, by rw [zs_length], by rw [zs_length]; exact hc, fun k x hk => ⟨b, 0, rfl, ?_⟩⟩
  have hk' : k < (zs row).length := (List.getElem?_eq_some_iff.1 hk).1
  rw [List.getElem?_eq_getElem hk', zs_get hk'] at hk
  injection hk with hk
  rw [Nat.zero_add, hcell k (by rwa [zs_length] at hk'), hk]
/-- the colors at work after t rounds -/
def CurV (m K t : Nat) (w : World) (ob : Option Nat) (v : Value) : Prop := if t < m ^ K then ∃ g c, v = .slice (some ⟨g, 0, none⟩) K c ∧ Ints w (.slice (some ⟨g, 0, none⟩) K c) (zs (vec m K t)) ∧ ob ≠ some g ∧ g < w.heap.size else v = .slice none 0 0
theorem CurV.yes {m K t : Nat} {w : World} {ob : Option Nat} {v : Value} (h : CurV m K t w ob v) (ht : t < m ^ K) : ∃ g c, v = .slice (some ⟨g, 0, none⟩) K c ∧ Ints w (.slice (some ⟨g, 0, none⟩) K c) (zs (vec m K t)) ∧ ob ≠ some g ∧ g < w.heap.size := by unfold CurV at h; rwa [if_pos ht] at h
theorem CurV.no {m K t : Nat} {w : World} {ob : Option Nat} {v : Value} (h : CurV m K t w ob v) (ht : ¬ t < m ^ K) : v = .slice none 0 0 := by unfold CurV at h; rwa [if_neg ht] at h
theorem NxtE.curV {m K t B : Nat} {e : Ending} {w : World} {ob : Option Nat} (hK : 0 < K) (hm : 0 < m) (ht : t < m ^ K) (hob : ∀ k, B ≤ k → ob ≠ some k) (h : NxtE B (nxtF m (vec m K t)) e w) : ∃ v, e = .returned v ∧ CurV m K (t + 1) w ob v := by
  rw [nxtF_vec hm K t ht] at h
  unfold CurV
  by_cases q : t + 1 < m ^ K
  · rw [if_pos q] at h
    obtain ⟨g, c, hg, rfl, hI⟩ := h
    rw [vec_length] at hI
    have hlt : g < w.heap.size := by
      obtain ⟨b, o, e, hb, _⟩ := col_at hI (k := 0) (by rw [vec_length]; exact hK)
      injection e with e
      injection e with e1 e2
      omega
    exact ⟨_, rfl, by rw [if_pos q]; exact ⟨g, c, by rw [vec_length], hI, hob g hg, hlt⟩⟩
  · rw [if_neg q] at h
    exact ⟨_, h, by rw [if_neg q]⟩
/-- what Count returns where there are few lists -/
def CtL (nc nv ev : Nat) : Prop := (ev = 0 ∧ nv = nc) ∨ (ev = 5 ∧ nv = 0)
theorem count_lin (vs vm : Value) (S M : List Int) (L : Int) (m : Nat) (w : World) (hS : Ints w vs S) (hM : Ints w vm M) (hv : valB S M L = true) (h1 : 1 ≤ m) (h2 : m ≤ 1000) (hK : 0 < colN M L) (hp : m ^ colN M L ≤ 3000) :
    Calls Try.prog 16 #[.agg #[vs, vm, .int .i64 L], .int .i64 (m : Nat)] w fun e w' => ∃ nv ev : Nat, e = .returned (.tuple #[.int .i64 (nv : Int), .int .i64 (ev : Int)]) ∧ CtL (nCol S M L m (m ^ colN M L)) nv ev ∧ Below w.heap.size w w' := by
  by_cases hf : 14 < S.length ∨ 4 < L
  · refine (Count_full vs vm S M L m w hS hM hv h1 h2 hf).mono ?_
    rintro e w' ⟨rfl, hb⟩
    exact ⟨0, 5, rfl, Or.inr ⟨rfl, rfl⟩, hb⟩
  · refine (Count_yes vs vm S M L m w hS hM hv h1 h2 (by omega) (by omega)).mono ?_
    rintro e w' ⟨hce, hb⟩
    obtain ⟨nv, ev, rfl, hne⟩ := cntE_form hce
    have hk := cntK_of (valB_ok hv) (show S.length ≤ 14 by omega) h1 hne
    have h3 : ¬ 3000 < pwF m (colN M L) := by
      rw [pwF_eq h1]
      have := Nat.min_le_left (m ^ colN M L) 1000000
      show ¬ 3000 < min (m ^ colN M L) 1000000
      omega
    obtain ⟨a, _, b, _⟩ := hk.small h3
    exact ⟨nv, ev, rfl, Or.inl ⟨a, b hK⟩, hb⟩
end Go.Proofs.Ytcjaloddgilnpaa
