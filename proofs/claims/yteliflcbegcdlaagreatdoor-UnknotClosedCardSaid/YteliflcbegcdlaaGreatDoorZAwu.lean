/- slices.Concat of lists of moves. -/
/- package unknot: search.path. -/
/- package unknot: Decide. -/
/- package unravellaw45: awake, great. -/
import Derived.Test.YteliflcbegcdlaaGreatDoorZSlb
import Derived.Lib.AppendZerosOnto
import Derived.Test.YteliflcbegcdlaaGreatDoorZSad
import Derived.Test.YteliflcbegcdlaaGreatDoorZExp
import Derived.Test.YteliflcbegcdlaaGreatDoorZFll
namespace Go.Proofs.YteliflcbegcdlaaGreatDoor
open Go.RowKit
set_option linter.unusedVariables false
theorem info_mvc : (Tryz.prog.info? 94).map (fun i => (i.zero, i.size, i.bytes)) = some (some (.agg #[.int .i64 0, .bool false, .int .i64 0, .int .i64 0]), 4, 32) := by kernel_rfl
theorem mvc_len (m : Mv) : m.cells.length = 4 := rfl
theorem elM : ElA Tryz.prog 94 4 Mv.cells where
  ex := by
    obtain ⟨i, hi, hz, hs, hb⟩ := info_parts info_mvc
    exact ⟨i, _, 32, hi, hz, hs, hb, rfl, by omega⟩
  pos := by omega
  len := mvc_len
  one := fun m q h => by unfold Mv.cells at h; simp at h; rcases h with rfl | rfl | rfl | rfl <;> rfl
theorem Moves.sl0 {w : World} {v : Value} {ms : List Mv} (h : Moves w v ms) : SlA0 Mv.cells w v ms := by
  obtain ⟨A, c, e, hx⟩ := h
  refine ⟨A, c, e, fun j q hq => ?_⟩
  have hlt := (List.getElem?_eq_some_iff.1 hq).1
  rw [flat_len mvc_len] at hlt
  have hk : j / 4 < ms.length := by omega
  obtain ⟨b, o, hA, hc⟩ := hx (j / 4) hk
  have := flat_get mvc_len ms (j / 4) (j % 4) hk (by omega)
  rw [show j / 4 * 4 + j % 4 = j by omega, hq] at this
  have h2 := hc (j % 4) q this.symm
  rw [show o + j / 4 * 4 + j % 4 = o + j by omega] at h2
  exact ⟨b, o, hA, h2⟩
theorem SlA.moves {w : World} {v : Value} {ms : List Mv} (h : SlA Mv.cells w v ms) : Moves w v ms := by
  obtain ⟨A, c, e, _, hx⟩ := h
  refine ⟨A, c, e, fun k hk => ?_⟩
  have h0 := flat_get mvc_len ms k 0 hk (by omega)
  obtain ⟨b, o, hA, _⟩ := hx (k * 4 + 0) _ (h0.trans (show _ = some (ms[k].cells[0]'(by rw [mvc_len]; omega)) from List.getElem?_eq_getElem _))
  refine ⟨b, o, hA, fun j u hu => ?_⟩
  have hj : j < 4 := by have := (List.getElem?_eq_some_iff.1 hu).1; rw [mvc_len] at this; exact this
  have h1 := flat_get mvc_len ms k j hk hj
  obtain ⟨b', o', hA', hc⟩ := hx (k * 4 + j) u (h1.trans hu)
  rw [hA] at hA'
  injection hA' with hA'
  injection hA' with e1 e2
  subst e1; subst e2
  rw [Nat.add_assoc]; exact hc
set_option maxHeartbeats 1000000 in
theorem growM_any (n : Nat) (w : World) (hn : n ≤ 1000000) :
    Calls Tryz.prog 76 #[.slice none 0 0, .int .i64 (n : Nat)] w fun e w' => ∃ v, e = .returned v ∧ OwnA 94 4 Mv.cells w.heap.size w' v [] ∧ Below w.heap.size w w' := by
  have h1 : ¬ ((n : Int) < 0) := by omega
  rcases Nat.eq_zero_or_pos n with rfl | h0
  · go_enter Tryz.func76, Tryz.ntmps76
    go_wp2_with fail
    go_ret
    exact ⟨_, rfl, OwnA.nil _ _ _ _ _, Below.refl _ _⟩
  · have h2 : (0 : Int) < (n : Int) := by omega
    obtain ⟨i0, hi0, hz0, hz1, hz2⟩ := info_parts info_mvc
    have hGn := grownCap_ge w n 0 94
    have hGm := grownCap_le_maxLen w n 0 94 (by unfold maxLen; omega)
    have hrz := Lib.hid (fun ty => Lib.run_append_grow_zeros w 39 3 ty 94 i0 (.agg #[.int .i64 0, .bool false, .int .i64 0, .int .i64 0]) .i64 .i64 Tryz.underlying39 Tryz.underlying3 hi0 hz0 none 0 0 [] (run_firstCells_none w.drew i0.size 0 0 0) n h0 (by rw [hz1]; decide) (by omega) (by omega) (by rw [hz2]; omega) (by rw [hz2]; unfold Builtin.nextslicecap; simp; split <;> omega))
    rw [Nat.zero_add] at hrz
    have HR := Lib.hid (show OwnA 94 4 Mv.cells w.heap.size (w.drew.alloc (.cells (([] : List Value).toArray ++ Builtin.zeroCells (Value.agg #[.int .i64 0, .bool false, .int .i64 0, .int .i64 0]).cells n ++ Builtin.zeroCells (Value.agg #[.int .i64 0, .bool false, .int .i64 0, .int .i64 0]).cells (grownCap w n 0 94 - n)) 94)) (.slice (some ⟨w.heap.size, 0, none⟩) 0 (grownCap w n 0 94)) [] from
      ⟨by simp, .inr ⟨w.heap.size, _, _, rfl, Nat.le_refl _, heap_alloc_new w.drew _, Nat.zero_le _, hGm, by
        rw [Array.size_append, Array.size_append, size_zeroCells, size_zeroCells]
        show 0 + n * 4 + (grownCap w n 0 94 - n) * 4 = grownCap w n 0 94 * 4
        omega, rfl⟩⟩)
    have HB := Lib.hid (show Below w.heap.size w (w.drew.alloc (.cells (([] : List Value).toArray ++ Builtin.zeroCells (Value.agg #[.int .i64 0, .bool false, .int .i64 0, .int .i64 0]).cells n ++ Builtin.zeroCells (Value.agg #[.int .i64 0, .bool false, .int .i64 0, .int .i64 0]).cells (grownCap w n 0 94 - n)) 94)) from ((Below.refl _ _).drew).alloc (Nat.le_refl _) _)
    generalize (w.drew.alloc (.cells (([] : List Value).toArray ++ Builtin.zeroCells (Value.agg #[.int .i64 0, .bool false, .int .i64 0, .int .i64 0]).cells n ++ Builtin.zeroCells (Value.agg #[.int .i64 0, .bool false, .int .i64 0, .int .i64 0]).cells (grownCap w n 0 94 - n)) 94)) = w1 at *
    have hG63 : grownCap w n 0 94 ≤ 9223372036854775807 := by unfold maxLen at hGm; omega
    generalize grownCap w n 0 94 = G at *
    go_enter Tryz.func76, Tryz.ntmps76
    go_wp2_with (at_builtin; refine Lib.wpList_append_run _ rfl _ _ _ _ rfl _ _ rfl rfl _ _ (hrz.out _) ?_)
    go_ret
    exact ⟨_, rfl, HR.out, HB.out⟩
/-- the values xs read as the lists of moves mss -/
def AlV (w : World) (xs : List Value) (mss : List (List Mv)) : Prop := xs.length = mss.length ∧ ∀ (i : Nat) x ms, xs[i]? = some x → mss[i]? = some ms → Moves w x ms
theorem AlV.below {w w' : World} {xs : List Value} {mss : List (List Mv)} (h : AlV w xs mss) (hb : Below w.heap.size w w') : AlV w' xs mss := ⟨h.1, fun i x ms h1 h2 => (h.2 i x ms h1 h2).below hb⟩
theorem flat_take_succ {mss : List (List Mv)} {k : Nat} (h : k < mss.length) : (mss.take (k + 1)).flatten = (mss.take k).flatten ++ mss[k] := by
  rw [List.take_succ_eq_append_getElem h, List.flatten_append]; simp
theorem flat_take_le (mss : List (List Mv)) (k : Nat) : (mss.take k).flatten.length ≤ mss.flatten.length := by
  conv => rhs; rw [← List.take_append_drop k mss, List.flatten_append, List.length_append]
  omega
set_option maxHeartbeats 2000000 in
theorem concatM_any (e : TypeId) (g c : Nat) (xs : List Value) (mss : List (List Mv)) (w : World) (hR : RowV e g w xs) (hA : AlV w xs mss) (hl : mss.length ≤ 1000000) (hf : mss.flatten.length ≤ 1000000) :
    Calls Tryz.prog 52 #[.slice (some ⟨g, 0, none⟩) xs.length c] w fun e w' => ∃ v, e = .returned v ∧ Moves w' v mss.flatten ∧ Below w.heap.size w w' := by
  have HR := Lib.hid hR
  have HA := Lib.hid hA
  have HF := Lib.hid hf
  have hxl := hA.1
  obtain ⟨n, hn⟩ : ∃ n, n = mss.length := ⟨_, rfl⟩
  rw [hxl, ← hn]
  rw [← hn] at hl hxl
  have HN := Lib.hid hn
  have HXL := Lib.hid hxl
  clear hn hxl hR hA hf
  go_enter Tryz.func52, Tryz.ntmps52
  go_wp2_with fail
  go_loopg [3, 11] n (fun gk s3 s11 wr => ∃ k : Nat, k ≤ n ∧ gk = n - k ∧ s11 = .int .i64 (k : Int) ∧ s3 = .int .i64 (((mss.take k).flatten.length : Nat) : Int) ∧ w = wr)
  case atStart => exact ⟨0, by omega, rfl, rfl, rfl, rfl⟩
  case round =>
    obtain ⟨k, hk, rfl, rfl, rfl, rfl⟩ := hrel
    by_cases hlt : k < n
    · have z1 : (k : Int) < (n : Int) := by omega
      have hkx : k < xs.length := by rw [HXL.out]; exact hlt
      have hkm : k < mss.length := by rw [← HN.out]; exact hlt
      have hm := HA.out.2 k _ _ (List.getElem?_eq_getElem hkx) (List.getElem?_eq_getElem hkm)
      have yc := HR.out.cell (List.getElem?_eq_getElem hkx)
      have ef := flat_take_succ hkm
      have el := flat_take_le mss (k + 1)
      obtain ⟨ms, hms⟩ : ∃ ms, ms = mss[k] := ⟨_, rfl⟩
      obtain ⟨A, c2, hv, -⟩ := hm
      rw [← hms] at hv ef
      rw [hv] at yc
      have hlen := congrArg List.length ef
      rw [List.length_append] at hlen
      obtain ⟨m, hm⟩ : ∃ m, m = ms.length := ⟨_, rfl⟩
      obtain ⟨s0, hs0⟩ : ∃ s, s = (mss.take k).flatten.length := ⟨_, rfl⟩
      obtain ⟨s1, hs1⟩ : ∃ s, s = (mss.take (k + 1)).flatten.length := ⟨_, rfl⟩
      rw [← hm, ← hs0, ← hs1] at hlen
      rw [← hs1] at el
      rw [← hm] at yc
      have z3 : (s0 : Int) + (m : Int) = (s1 : Int) := by omega
      have z4 : s1 ≤ 1000000 := by have := HF.out; omega
      have z5 : ¬ (s1 : Int) < 0 := by omega
      rw [← hs0]
      have HS1 := Lib.hid hs1
      clear hkx hkm ef el hms hv hlen hm hs0 hs1
      go_wp2_with fail
      go_roundg (n - (k + 1))
      case measure => omega
      case rel => exact ⟨k + 1, by omega, rfl, by go_num, by rw [← HS1.out], rfl⟩
    · have z1 : ¬ (k : Int) < (n : Int) := by omega
      have ekn : k = n := by omega
      have efl : (mss.take k).flatten = mss.flatten := by rw [ekn, HN.out, List.take_length]
      rw [efl]
      have HG := Lib.hid (growM_any mss.flatten.length w HF.out)
      obtain ⟨S, hS⟩ : ∃ S, S = mss.flatten.length := ⟨_, rfl⟩
      rw [← hS] at HG ⊢
      clear efl ekn hS
      go_wp2_with (go_at_call 76; refine HG.out.mono ?_; rintro e5 w5 ⟨v5, rfl, ho5, hb5⟩)
      have HOL := Lib.hid hb5
      have HR5 := Lib.hid (HR.out.keep (hb5.block g HR.out.lt))
      have HA5 := Lib.hid (HA.out.below hb5)
      have hws : w.heap.size ≤ w5.heap.size := hb5.size
      have HWS := Lib.hid hws
      obtain ⟨B, hB⟩ : ∃ B, B = w.heap.size := ⟨_, rfl⟩
      rw [← hB] at ho5 HOL HWS
      have HBw := Lib.hid (show B ≤ w.heap.size by rw [hB]; exact Nat.le_refl _)
      have HGB := Lib.hid (show g < B by rw [hB]; exact HR.out.lt)
      have HAB := Lib.hid (fun (x : Value) (ms : List Mv) W (h : Moves w x ms) (hb : Below B w W) => show Moves W x ms from h.below (by rw [← hB]; exact hb))
      have HBF := Lib.hid (fun W (hb : Below B w W) => show Below w.heap.size w W from by rw [← hB]; exact hb)
      have HRB := Lib.hid (fun W (hb : Below B w W) => show RowV e g W xs from HR.out.keep (hb.block g HGB.out))
      have HO5 := Lib.hid ho5
      clear hB hb5 HR5 HA5 hws ho5
      go_loopg [6, 27] n (fun gk s6 s27 wr => ∃ k : Nat, k ≤ n ∧ gk = n - k ∧ s27 = .int .i64 (k : Int) ∧ Hid (OwnA 94 4 Mv.cells B wr s6 ((mss.take k).flatten)) ∧ Hid (Below B w wr))
      case atStart => exact ⟨0, by omega, rfl, rfl, Lib.hid (by simpa using HO5.out), HOL⟩
      case round =>
        obtain ⟨k, hk, rfl, rfl, HO, HW⟩ := hrel
        have hszr := HW.out.size
        by_cases hlt : k < n
        · have z1 : (k : Int) < (n : Int) := by omega
          have hkx : k < xs.length := by rw [HXL.out]; exact hlt
          have hkm : k < mss.length := by rw [← HN.out]; exact hlt
          have hm := HAB.out _ _ wr (HA.out.2 k _ _ (List.getElem?_eq_getElem hkx) (List.getElem?_eq_getElem hkm)) HW.out
          have yc := (HRB.out wr HW.out).cell (List.getElem?_eq_getElem hkx)
          have ef := flat_take_succ hkm
          have el := flat_take_le mss (k + 1)
          obtain ⟨ms, hms⟩ : ∃ ms, ms = mss[k] := ⟨_, rfl⟩
          have hsl := hm.sl0
          obtain ⟨x, hx⟩ : ∃ x, x = xs[k] := ⟨_, rfl⟩
          rw [← hms] at ef hsl
          rw [← hx] at hsl yc
          have hlen := congrArg List.length ef
          rw [List.length_append] at hlen
          have HLN := Lib.hid (show (mss.take k).flatten.length + ms.length ≤ 1000000000 by have := HF.out; omega)
          have HSL := Lib.hid hsl
          have HEF := Lib.hid ef
          obtain ⟨A, c2, hv, -⟩ := hsl
          have HBS := Lib.hid (show B ≤ wr.heap.size by have := HBw.out; omega)
          subst hv
          clear hkx hkm ef el hms hlen hx hm hszr
          go_wp2_with (at_builtin; refine wpList_appA0 rfl elM _ _ 39 39 rfl Tryz.underlying39 Tryz.underlying39 rfl HO.out rfl HSL.out HLN.out HBS.out ?_; intro v8 w8 h1 h2 h3 h4)
          go_roundg (n - (k + 1))
          case measure => omega
          case rel => exact ⟨k + 1, by omega, rfl, by go_num, Lib.hid (by rw [HEF.out]; exact h1), Lib.hid (HW.out.trans h2)⟩
        · have z1 : ¬ (k : Int) < (n : Int) := by omega
          have ekn : k = n := by omega
          have efl : (mss.take k).flatten = mss.flatten := by rw [ekn, HN.out, List.take_length]
          rw [efl] at HO
          go_wp2_with fail
          go_ret
          exact ⟨_, rfl, HO.out.sl.moves, HBF.out _ HW.out⟩
end Go.Proofs.YteliflcbegcdlaaGreatDoor

namespace Go.Proofs.YteliflcbegcdlaaGreatDoor
open Go.RowKit Go.Shelf
set_option linter.unusedVariables false
/-- the lists of moves that lead to a class, the last one first -/
inductive PathK (K : List En) : Option Gd → List (List Mv) → Prop
  | nil : PathK K none []
  | cons {e : En} {L : List (List Mv)} : e ∈ K → PathK K e.fr L → PathK K (some e.key) (e.ms :: L)
theorem elV : ElA Tryz.prog 39 1 (fun v : SL => [sv v]) where
  ex := by
    have h : (Tryz.prog.info? 39).map (fun i => (i.zero, i.size, i.bytes)) = some (some (.slice none 0 0), 1, 24) := by kernel_rfl
    obtain ⟨i, hi, hz, hs, hb⟩ := info_parts h
    exact ⟨i, _, 24, hi, hz, hs, hb, rfl, by omega⟩
  pos := by omega
  len := fun _ => rfl
  one := fun v q h => by simp at h; subst h; rfl
theorem fm_ne (c : Gd) : ∃ x l, fmG c = x :: l := by
  cases h : fmG c with
  | nil => unfold fmG at h; simp at h
  | cons x l => exact ⟨x, l, rfl⟩
theorem OwnA.row {e : TypeId} {base : Nat} {w : World} {v : Value} {xs : List SL} (h : OwnA e 1 (fun v : SL => [sv v]) base w v xs) (hn : xs ≠ []) : ∃ g c, v = .slice (some ⟨g, 0, none⟩) xs.length c ∧ base ≤ g ∧ RowV e g w (xs.map sv) := by
  have hfl : xs.flatMap (fun v : SL => [sv v]) = xs.map sv := by
    clear h hn
    induction xs with
    | nil => rfl
    | cons x xs ih => rw [List.flatMap_cons, ih]; rfl
  rcases h.2 with ⟨_, h0⟩ | ⟨g, cap, cur, rfl, hg, hh, hn2, _, hc, ht⟩
  · exact absurd (List.eq_nil_of_length_eq_zero h0) hn
  · refine ⟨g, cap, rfl, hg, cur, hh, fun i x hi => ?_⟩
    rw [hfl] at ht
    have hlt := (List.getElem?_eq_some_iff.1 hi).1
    have h1 : cur.toList[i]? = some x := by
      rw [← ht, List.getElem?_take] at hi
      split at hi
      · exact hi
      · cases hi
    simpa using h1
theorem Moves.svx {w : World} {v : Value} {ms : List Mv} (h : Moves w v ms) : ∃ s : SL, v = sv s := by
  obtain ⟨A, c, rfl, _⟩ := h
  exact ⟨(A, ms.length, c), rfl⟩
set_option maxHeartbeats 4000000 in
set_option maxRecDepth 100000 in
theorem path_any (gS : Nat) (p : SP) (s : St) (c : Gd) (L : List (List Mv)) (w : World) (hs : SI gS w s p) (hp : StP s) (hL : PathK s.1 (some c) L) (l1 : L.length ≤ 100000) (l2' : L.flatten.length ≤ 1000000) :
    Calls Tryz.prog 32 #[.pointer (some ⟨gS, 0, none⟩), .string ⟨(fmG c).toArray⟩] w fun e w' => ∃ v, e = .returned v ∧ Moves w' v L.reverse.flatten ∧ Below w.heap.size w w' := by
  obtain ⟨m1, m2, vC, WS, L1, k1, k2⟩ := p
  obtain ⟨fr0, hfr⟩ : ∃ fr0 : Option Gd, fr0 = some c := ⟨_, rfl⟩
  rw [show fmG c = frS fr0 by rw [hfr]; rfl]
  rw [← hfr] at hL
  have HFR := Lib.hid hfr
  have HS := Lib.hid hs
  have HP := Lib.hid hp
  have HL := Lib.hid hL
  have H1 := Lib.hid l1
  have H2 := Lib.hid l2'
  clear hs hp hL l1 l2' hfr
  go_enter Tryz.func32, Tryz.ntmps32
  go_wp2_with fail
  obtain ⟨B, hB⟩ : ∃ B, B = w.heap.size := ⟨_, rfl⟩
  have HBw := Lib.hid (show B ≤ w.heap.size by rw [hB]; exact Nat.le_refl _)
  have HBF := Lib.hid (fun W (hb : Below B w W) => show Below w.heap.size w W from by rw [← hB]; exact hb)
  clear hB
  go_loopg [1, 5] L.length (fun gk s1 s5 wr => ∃ (fr : Option Gd) (R D : List (List Mv)) (xs : List SL), gk = R.length ∧ s1 = .string ⟨(frS fr).toArray⟩ ∧ Hid (PathK s.1 fr R) ∧ Hid (L = D ++ R) ∧ Hid (OwnA 39 1 (fun v : SL => [sv v]) B wr s5 xs) ∧ Hid (AlV w (xs.map sv) D) ∧ Hid (Below B w wr))
  case atStart => exact ⟨fr0, L, [], [], rfl, rfl, HL, Lib.hid rfl, Lib.hid (OwnA.nil _ _ _ _ _), Lib.hid ⟨rfl, fun i x ms h => by simp at h⟩, Lib.hid (Below.refl _ _)⟩
  case round =>
    obtain ⟨fr, R, D, xs, rfl, rfl, HPK, HLL, HO, HAV, HW⟩ := hrel
    have HS1 := Lib.hid (HS.out.below (HBF.out _ HW.out))
    cases hfr : fr with
    | none =>
      subst hfr
      have hR : R = [] := by cases HPK.out; rfl
      subst hR
      have hLD : L = D := by have := HLL.out; rw [List.append_nil] at this; exact this
      have hDn : D ≠ [] := by
        intro e
        have := HL.out
        rw [HFR.out, hLD, e] at this
        cases this
      have hxn : xs ≠ [] := by
        intro e
        have := HAV.out.1
        rw [e] at this
        exact hDn (List.eq_nil_of_length_eq_zero this.symm)
      obtain ⟨g, cp, hs5, hg, hrow⟩ := HO.out.row hxn
      have hxl : (xs.map sv).length = xs.length := List.length_map _
      have HRV := Lib.hid (reverse_any 39 B g cp (xs.map sv) wr hrow hg (by
        have a1 := HAV.out.1
        rw [a1, ← hLD]
        have := H1.out
        omega) (fun y hy => by
        obtain ⟨z, _, rfl⟩ := List.mem_map.1 hy
        exact ⟨_, _, _, rfl⟩))
      have HCC := Lib.hid (fun W (hb : Below B w W) (hr : RowV 39 g W (xs.map sv).reverse) => concatM_any 39 g cp (xs.map sv).reverse D.reverse W hr ⟨by simp [← hxl, HAV.out.1], fun i y ms h1 h2 => by
        have hl := HAV.out.1
        have hi : i < (xs.map sv).length := by have := (List.getElem?_eq_some_iff.1 h1).1; simpa using this
        rw [List.getElem?_reverse hi] at h1
        rw [List.getElem?_reverse (by rw [← hl]; exact hi), ← hl] at h2
        exact (HAV.out.2 _ y ms h1 h2).below (HBF.out W hb)⟩ (by rw [List.length_reverse, ← hLD]; have := H1.out; omega) (by rw [List.length_flatten, List.map_reverse, List.sum_reverse, ← List.length_flatten, ← hLD]; exact H2.out))
      rw [hxl] at HRV
      rw [List.length_reverse, hxl] at HCC
      have HLD := Lib.hid hLD
      subst hs5
      clear hLD hDn hxn hrow hxl hg
      go_wp2_with (first | (go_at_call 51; refine HRV.out.mono ?_; rintro e7 w7 ⟨rfl, hr7, hb7⟩; have HC7 := Lib.hid (HCC.out w7 (HW.out.trans hb7) hr7); have HB7 := Lib.hid (HW.out.trans hb7); have HB7X := Lib.hid (show B ≤ w7.heap.size from Nat.le_trans HBw.out HB7.out.size); clear hr7 hb7) | (go_at_call 52; refine HC7.out.mono ?_; rintro e8 w8 ⟨v8, rfl, hm8, hb8⟩))
      go_ret
      exact ⟨_, rfl, by rw [HLD.out]; exact hm8, HBF.out _ (HB7.out.trans (hb8.mono HB7X.out))⟩
    | some c' =>
      subst hfr
      obtain ⟨e, R', he, rfl, rfl, hpk⟩ : ∃ e R', e ∈ s.1 ∧ c' = e.key ∧ R = e.ms :: R' ∧ PathK s.1 e.fr R' := by
        cases HPK.out with
        | cons h1 h2 => exact ⟨_, _, h1, rfl, rfl, h2⟩
      obtain ⟨v, hv0, hmv⟩ := HS.out.al1.mem.2 e he
      have hnd1 : (L1.map (·.1)).Nodup := by
        have := keys_nd HP.out.v1 HP.out.nd
        rw [← HS1.out.al1.keys] at this
        exact this
      have hnd2 : ((l2 s.1).map (·.1)).Nodup := by
        have := keys_nd HP.out.v1 HP.out.nd
        unfold l2
        rw [List.map_map]
        exact this
      have hl2 : (fmG e.key, Value.string ⟨(frS e.fr).toArray⟩) ∈ l2 s.1 := List.mem_map.2 ⟨e, he, rfl⟩
      have yl1 := (mps_lookup_yes (P := Tryz.prog) HS1.out.mp1 Tryz.underlying48 Tryz.underlying9 hnd1 hv0).2
      have YL2 := Lib.hid (fun W (hb : Below B w W) => (mps_lookup_yes (P := Tryz.prog) (HS.out.below (HBF.out _ hb)).mp2 Tryz.underlying49 Tryz.underlying9 hnd2 hl2).2)
      unfold kyS at yl1 YL2
      rw [show fmG e.key = frS (some e.key) from rfl] at yl1 YL2
      obtain ⟨x, hx⟩ := hmv.svx
      subst hx
      simp only [sv] at yl1
      have ze : (frS (some e.key)).isEmpty = false := by
        obtain ⟨x, l, hxl⟩ := fm_ne e.key
        show (fmG e.key).isEmpty = false
        rw [hxl]; rfl
      have g0 := HS1.out.hd.cell 0
      have hsz : w.heap.size ≤ wr.heap.size := HW.out.size
      have HGL := Lib.hid (show gS < w.heap.size from HS.out.hd.lt)
      have HSLX := Lib.hid (show ∀ (W : World), SlA0 (fun v : SL => [sv v]) (W.alloc (.cells #[.slice x.1 x.2.1 x.2.2] 39)) (.slice (some ⟨W.heap.size, 0, none⟩) 1 1) [x] from fun W => ⟨_, 1, rfl, fun j q hq => ⟨_, _, rfl, by
        have hj : j = 0 := by have := (List.getElem?_eq_some_iff.1 hq).1; simp at this; exact this
        subst hj
        simp at hq
        subst hq
        exact (Arr.new W 39 [sv x]).cell 0⟩⟩)
      have hal := HW.out.alloc (show B ≤ wr.heap.size by have := HBw.out; omega) (.cells #[.slice x.1 x.2.1 x.2.2] 39)
      have HAL := Lib.hid hal
      have HO1 := Lib.hid (HO.out.alloc (.cells #[.slice x.1 x.2.1 x.2.2] 39))
      have HSZ := Lib.hid (show B ≤ (wr.alloc (.cells #[.slice x.1 x.2.1 x.2.2] 39)).heap.size by have := hal.size; have := HBw.out; omega)
      have HLX := Lib.hid (show xs.length + 1 ≤ 1000000000 by
        have a1 := HAV.out.1
        have a2 := congrArg List.length HLL.out
        have a3 := H1.out
        simp at a1 a2
        omega)
      have HE := Lib.hid he
      have HMV := Lib.hid hmv
      have HPR := Lib.hid hpk
      have HAV1 := Lib.hid (show ∀ W, Below B w W → (∀ k, k < wr.heap.size → True) → True from fun _ _ _ => trivial)
      clear he hnd1 hnd2 hl2 hv0 hmv hpk hal hsz HAV1
      go_wp2_with (at_builtin; refine wpList_appA0 rfl elV _ _ 96 96 rfl Tryz.underlying96 Tryz.underlying96 rfl HO1.out rfl (HSLX.out _) HLX.out HSZ.out ?_; intro v8 w8 h1 h2 h3 h4; have hb8 := HAL.out.trans h2; have g1 := (HS.out.below (HBF.out _ hb8)).hd.cell 1; have yl2 := YL2.out w8 hb8; have HO8 := Lib.hid h1; have H8 := Lib.hid h2; have HB8 := Lib.hid hb8; clear h1 h2 h3 h4 hb8)
      go_roundg R'.length
      case measure => exact Nat.lt_succ_self _
      case rel =>
        refine ⟨e.fr, R', D ++ [e.ms], xs ++ [x], rfl, rfl, HPR, Lib.hid (by rw [HLL.out, List.append_assoc]; rfl), HO8, Lib.hid ⟨?_, ?_⟩, HB8⟩
        · have := HAV.out.1
          simp at this ⊢
          omega
        · intro i y ms h1 h2
          rw [List.map_append] at h1
          have hl := HAV.out.1
          rcases Nat.lt_or_ge i (xs.map sv).length with hi | hi
          · rw [List.getElem?_append_left hi] at h1
            rw [List.getElem?_append_left (by rw [← hl]; exact hi)] at h2
            exact HAV.out.2 i y ms h1 h2
          · rw [List.getElem?_append_right hi] at h1
            rw [List.getElem?_append_right (by rw [← hl]; exact hi), ← hl] at h2
            cases hj : i - (xs.map sv).length with
            | zero =>
              rw [hj] at h1 h2
              simp at h1 h2
              subst h1; subst h2
              exact HMV.out
            | succ j => rw [hj] at h1; simp at h1
end Go.Proofs.YteliflcbegcdlaaGreatDoor

namespace Go.Proofs.YteliflcbegcdlaaGreatDoor
open Go.RowKit Go.Shelf
set_option linter.unusedVariables false
theorem alg_path {g0 : Gd} {K : List En} {A : List Gd} (h : Alg g0 K A) : ∀ (n i : Nat) (e : En) (a : Gd), i < n → K[i]? = some e → A[i]? = some a → ∃ L, PathK K (some e.key) L ∧ L.length ≤ i + 1 ∧ L.flatten.length ≤ 2 * (i + 1) ∧ Pls g0 L.reverse.flatten a
  | 0, i, e, a, hi, _, _ => by omega
  | n + 1, i, e, a, hi, hK, hA => by
    obtain ⟨hv, hk, hf⟩ := h.2 i e a hK hA
    have hm := List.mem_of_getElem? hK
    rcases hf with ⟨h1, h2, h3⟩ | ⟨j, b, e', hj, k1, k2, k3, k4⟩
    · refine ⟨[e.ms], .cons hm (by rw [h1]; exact .nil), by simp, by simp [h2], ?_⟩
      simp [h2, h3]
      exact .nil g0
    · obtain ⟨L, l1, l2, l3, l4⟩ := alg_path h n j e' b (by omega) k1 k2
      have hvb := (h.2 j e' b k1 k2).1
      obtain ⟨p1, p2⟩ := nbrs_pls hvb k4
      refine ⟨e.ms :: L, .cons hm (by rw [k3]; exact l1), by simp; omega, by simp at l3 ⊢; omega, ?_⟩
      rw [List.reverse_cons, List.flatten_append]
      simp
      have := l4.app p1
      simpa using this
theorem fd_path {g0 : Gd} {K : List En} {c : Gd} (h : Fd g0 K c) : ∃ L a, PathK K (some c) L ∧ L.length ≤ K.length ∧ L.flatten.length ≤ 2 * K.length ∧ Pls g0 L.reverse.flatten a ∧ a.1.length = 2 := by
  obtain ⟨A, a, hA, ha, h2, rfl⟩ := h
  obtain ⟨i, e, k1, k2, k3, k4⟩ := hA.get ha
  obtain ⟨L, l1, l2, l3, l4⟩ := alg_path hA (i + 1) i e a (by omega) k1 k2
  have := (List.getElem?_eq_some_iff.1 k1).1
  exact ⟨L, a, by rw [k3]; exact l1, by omega, by omega, l4, h2⟩
/-- what Decide hands back -/
def DecP (most : Int) (g : Gd) (w : World) (e : Ending) (w' : World) : Prop :=
  Below w.heap.size w w' ∧
  ((¬ VdG g ∧ e = .returned (.tuple #[.agg #[.bool false, .slice none 0 0, .int .i64 0], .int .i64 1])) ∨
   (VdG g ∧ 1 < comp g.1 g.2 ∧ e = .returned (.tuple #[.agg #[.bool false, .slice none 0 0, .int .i64 0], .int .i64 16])) ∨
   (VdG g ∧ comp g.1 g.2 ≤ 1 ∧ ∃ r, Exq most true g r ∧
     ((r = .fuel ∧ e = .returned (.tuple #[.agg #[.bool false, .slice none 0 0, .int .i64 0], .int .i64 13])) ∨
      (∃ K, r = .done K ∧ e = .returned (.tuple #[.agg #[.bool false, .slice none 0 0, .int .i64 (K.length : Int)], .int .i64 0])) ∨
      ∃ K c L a v, r = .found K c ∧ PathK K (some c) L ∧ L.flatten.length ≤ 2 * most.toNat ∧ Pls g L.reverse.flatten a ∧ a.1.length = 2 ∧ Moves w' v L.reverse.flatten ∧ e = .returned (.tuple #[.agg #[.bool true, v, .int .i64 0], .int .i64 0]))))
theorem info_vdt : (Tryz.prog.info? 41).map (fun i => (i.zero, i.size, i.bytes)) = some (some (.agg #[.bool false, .slice none 0 0, .int .i64 0]), 3, 40) := by kernel_rfl
theorem load_vdt {w : World} {R : Nat} {a b c : Value} (h : Arr w R 41 [a, b, c]) : (loadVar 41 ⟨R, 0, none⟩).run Tryz.prog w = .ok (.agg #[a, b, c]) w := by
  obtain ⟨i, hi, hz, hs, hb⟩ := info_parts info_vdt
  exact run_loadVar_row w R _ _ _ _ _ h Tryz.underlying41 rfl (by rw [hi]; show some i.size = _; rw [hs]; rfl)
/-- moves do not lie in a verdict -/
theorem vdt_moves {w : World} {R : Nat} {u : Value} {ms : List Mv} (h : Arr w R 41 [.bool false, .slice none 0 0, .int .i64 0]) (hm : Moves w u ms) (x y z : Value) : Moves (((w.setCell ⟨R, 0, none⟩ x).setCell ⟨R, 1, none⟩ y).setCell ⟨R, 2, none⟩ z) u ms := by
  obtain ⟨A0, c, e, hx⟩ := hm
  refine ⟨A0, c, e, fun j hj => ?_⟩
  obtain ⟨b, off, e1, hcell⟩ := hx j hj
  have hb : b ≠ R := by
    rintro rfl
    have c0 := hcell 0 _ rfl
    have c1 := hcell 1 _ rfl
    rw [h.cell] at c0 c1
    rcases hq : off + j * 4 + 0 with _ | _ | _ | n
    · rw [hq] at c0; cases c0
    · rw [hq] at c0; cases c0
    · rw [show off + j * 4 + 1 = 3 by omega] at c1; cases c1
    · rw [hq] at c0; simp at c0
  exact ⟨b, off, e1, fun i u hu => (World.cell?_of_block ((Below.heap_setCell _ ⟨R, 2, none⟩ _ b (fun e => hb e)).trans ((Below.heap_setCell _ ⟨R, 1, none⟩ _ b (fun e => hb e)).trans (Below.heap_setCell _ ⟨R, 0, none⟩ _ b (fun e => hb e))))).trans (hcell i u hu)⟩
set_option maxHeartbeats 4000000 in
set_option maxRecDepth 100000 in
theorem Decide_any (vx vo : Value) (X O : List Int) (most : Int) (w : World) (hX : Ints w vx X) (hO : Ints w vo O) (lX : X.length ≤ 1000) (lO : O.length ≤ 1000) (hm : most ≤ 10000) (ht : Tb w) :
    Calls Tryz.prog 14 #[.agg #[vx, vo], .int .i64 most] w (DecP most (X, O) w) := by
  have HE := Lib.hid (fun W (hb : Below w.heap.size w W) => explore_any vx vo X O most true W (hX.below hb) (hO.below hb) lX lO (by omega) (ht.below hb))
  obtain ⟨A, c, rfl, -, -⟩ := hX
  obtain ⟨A2, c2, rfl, -, -⟩ := hO
  have HM := Lib.hid hm
  clear lX lO hm ht
  go_enter Tryz.func14, Tryz.ntmps14
  go_upto_region 1 with fail
  have hal := ((Below.refl w.heap.size w).alloc (Nat.le_refl _) (.cells #[.slice A X.length c, .slice A2 O.length c2] 24)).alloc (by simp only [World.size_alloc]; omega) (.cells #[.bool false, .slice none 0 0, .int .i64 0] 41)
  have X0 := Lib.hid (show Arr ((w.alloc (.cells #[.slice A X.length c, .slice A2 O.length c2] 24)).alloc (.cells #[.bool false, .slice none 0 0, .int .i64 0] 41)) w.heap.size 24 [.slice A X.length c, .slice A2 O.length c2] from (Arr.new w _ [_, _]).alloc _)
  have X1 := Lib.hid (show Arr ((w.alloc (.cells #[.slice A X.length c, .slice A2 O.length c2] 24)).alloc (.cells #[.bool false, .slice none 0 0, .int .i64 0] 41)) (w.heap.size + 1) 41 [.bool false, .slice none 0 0, .int .i64 0] from by
    have := Arr.new (w.alloc (.cells #[.slice A X.length c, .slice A2 O.length c2] 24)) 41 [.bool false, .slice none 0 0, .int .i64 0]
    simp only [World.size_alloc] at this
    exact this)
  have HB1 := Lib.hid hal
  generalize (w.alloc (.cells #[.slice A X.length c, .slice A2 O.length c2] 24)).alloc (.cells #[.bool false, .slice none 0 0, .int .i64 0] 41) = w1 at X0 X1 HB1 ⊢
  have HRL := Lib.hid (show w.heap.size ≤ w.heap.size + 1 by omega)
  obtain ⟨R, hRR⟩ : ∃ n, n = w.heap.size + 1 := ⟨_, rfl⟩
  rw [← hRR] at X1 HRL ⊢
  clear hRR hal
  have y0 := X0.out.cell 0
  have y1 := X0.out.cell 1
  have HE1 := Lib.hid (HE.out w1 HB1.out)
  clear HE
  go_wp2_with fail
  refine HE1.out.mono ?_
  rintro e2 w2 ⟨hb2, hc⟩
  have HB2 := Lib.hid (HB1.out.trans (hb2.mono HB1.out.size))
  have hR := X1.out.below hb2 X1.out.lt
  have r0 := hR.cell 0
  have r1 := hR.cell 1
  have r2 := hR.cell 2
  have f0 := hR.frozen 0
  have f1 := hR.frozen 1
  have f2 := hR.frozen 2
  have HR2 := Lib.hid hR
  clear hR y0 y1 HE1
  rcases hc with ⟨hv, rfl⟩ | ⟨hv, hc, rfl⟩ | ⟨hv, hc, r, hr, (⟨rfl, rfl⟩ | ⟨K, W, gS, p, hsi, hst, how, (⟨rfl, rfl⟩ | ⟨cl, rfl, rfl⟩)⟩)⟩
  · have HVD := Lib.hid hv
    clear hv
    go_wp2_with fail
    have hR := HR2.out
    have a9 := ((hR.set 0 (.bool false)).set 1 (.slice none 0 0)).set 2 (.int .i64 0)
    have b9 := ((HB2.out.setCell (p := ⟨R, 0, none⟩) HRL.out (.bool false)).setCell (p := ⟨R, 1, none⟩) HRL.out (.slice none 0 0)).setCell (p := ⟨R, 2, none⟩) HRL.out (.int .i64 0)
    generalize ((w2.setCell ⟨R, 0, none⟩ (.bool false)).setCell ⟨R, 1, none⟩ (.slice none 0 0)).setCell ⟨R, 2, none⟩ (.int .i64 0) = w9 at a9 b9 ⊢
    refine bodyPost_ret (results_ctv rfl _ _ _ ⟨R, 0, none⟩ _ rfl (load_vdt a9)) rfl ?_
    exact ⟨b9, .inl ⟨HVD.out, rfl⟩⟩
  · have HVD := Lib.hid hv
    have HCM := Lib.hid hc
    clear hv hc
    go_wp2_with fail
    have hR := HR2.out
    have a9 := ((hR.set 0 (.bool false)).set 1 (.slice none 0 0)).set 2 (.int .i64 0)
    have b9 := ((HB2.out.setCell (p := ⟨R, 0, none⟩) HRL.out (.bool false)).setCell (p := ⟨R, 1, none⟩) HRL.out (.slice none 0 0)).setCell (p := ⟨R, 2, none⟩) HRL.out (.int .i64 0)
    generalize ((w2.setCell ⟨R, 0, none⟩ (.bool false)).setCell ⟨R, 1, none⟩ (.slice none 0 0)).setCell ⟨R, 2, none⟩ (.int .i64 0) = w9 at a9 b9 ⊢
    refine bodyPost_ret (results_ctv rfl _ _ _ ⟨R, 0, none⟩ _ rfl (load_vdt a9)) rfl ?_
    exact ⟨b9, .inr (.inl ⟨HVD.out, HCM.out, rfl⟩)⟩
  · have HVD := Lib.hid hv
    have HCM := Lib.hid hc
    have HRR := Lib.hid hr
    clear hv hc hr
    go_wp2_with fail
    have hR := HR2.out
    have a9 := ((hR.set 0 (.bool false)).set 1 (.slice none 0 0)).set 2 (.int .i64 0)
    have b9 := ((HB2.out.setCell (p := ⟨R, 0, none⟩) HRL.out (.bool false)).setCell (p := ⟨R, 1, none⟩) HRL.out (.slice none 0 0)).setCell (p := ⟨R, 2, none⟩) HRL.out (.int .i64 0)
    generalize ((w2.setCell ⟨R, 0, none⟩ (.bool false)).setCell ⟨R, 1, none⟩ (.slice none 0 0)).setCell ⟨R, 2, none⟩ (.int .i64 0) = w9 at a9 b9 ⊢
    refine bodyPost_ret (results_ctv rfl _ _ _ ⟨R, 0, none⟩ _ rfl (load_vdt a9)) rfl ?_
    exact ⟨b9, .inr (.inr ⟨HVD.out, HCM.out, _, HRR.out, .inl ⟨rfl, rfl⟩⟩)⟩
  · have HVD := Lib.hid hv
    have HCM := Lib.hid hc
    have HRR := Lib.hid hr
    obtain ⟨cs, q1, q2⟩ := hsi.cls
    have hl := q2.len
    rw [List.length_map] at hl
    simp only at hl
    obtain ⟨A3, c3, hvc⟩ := q1.form
    have g2 := hsi.hd.cell 2
    simp only [List.getElem?_cons_succ, List.getElem?_cons_zero, hvc, hl] at g2
    have HSI := Lib.hid hsi
    clear hv hc hr hsi hst how q1 q2 hl hvc
    go_wp2_with fail
    have hR := HR2.out
    have a9 := ((hR.set 0 (.bool false)).set 1 (.slice none 0 0)).set 2 (.int .i64 (K.length : Int))
    have b9 := ((HB2.out.setCell (p := ⟨R, 0, none⟩) HRL.out (.bool false)).setCell (p := ⟨R, 1, none⟩) HRL.out (.slice none 0 0)).setCell (p := ⟨R, 2, none⟩) HRL.out (.int .i64 (K.length : Int))
    generalize ((w2.setCell ⟨R, 0, none⟩ (.bool false)).setCell ⟨R, 1, none⟩ (.slice none 0 0)).setCell ⟨R, 2, none⟩ (.int .i64 (K.length : Int)) = w9 at a9 b9 ⊢
    refine bodyPost_ret (results_ctv rfl _ _ _ ⟨R, 0, none⟩ _ rfl (load_vdt a9)) rfl ?_
    exact ⟨b9, .inr (.inr ⟨HVD.out, HCM.out, _, HRR.out, .inr (.inl ⟨K, rfl, rfl⟩)⟩)⟩
  · have HVD := Lib.hid hv
    have HCM := Lib.hid hc
    have HRR := Lib.hid hr
    have hkm := hr.most K (.inr ⟨cl, rfl⟩)
    obtain ⟨L, a, hL, l1, l2', l3, l4⟩ := fd_path ((hr.pl hv).2 K cl rfl)
    have hk4 : K.length ≤ 10000 := by have := HM.out; omega
    have HPT := Lib.hid (path_any gS p (K, W) cl L w2 hsi hst hL (by omega) (by omega))
    have HL := Lib.hid hL
    have HLF := Lib.hid (show L.flatten.length ≤ 2 * most.toNat by omega)
    have HL3 := Lib.hid l3
    have HL4 := Lib.hid l4
    have ze : (fmG cl).isEmpty = false := by
      obtain ⟨x, l, hxl⟩ := fm_ne cl
      rw [hxl]; rfl
    clear hv hc hr hsi hst how hkm hL l1 l2' l3 l4 hk4
    go_wp2_with (go_at_call 32; refine HPT.out.mono ?_; rintro e3 w3 ⟨v3, rfl, hm3, hb3⟩; have HR3 := Lib.hid (HR2.out.below hb3 HR2.out.lt); have HM3 := Lib.hid hm3; have HB3 := Lib.hid (HB2.out.trans (hb3.mono HB2.out.size)); clear r0 r1 r2 f0 f1 f2 hm3 hb3; obtain ⟨sx, hsx⟩ := HM3.out.svx; subst hsx; simp only [sv]; have r0 := HR3.out.cell 0; have r1 := HR3.out.cell 1; have r2 := HR3.out.cell 2; have f0 := HR3.out.frozen 0; have f1 := HR3.out.frozen 1; have f2 := HR3.out.frozen 2)
    have hR := HR3.out
    have a9 := ((hR.set 0 (.bool true)).set 1 (.slice sx.1 sx.2.1 sx.2.2)).set 2 (.int .i64 0)
    have b9 := ((HB3.out.setCell (p := ⟨R, 0, none⟩) HRL.out (.bool true)).setCell (p := ⟨R, 1, none⟩) HRL.out (.slice sx.1 sx.2.1 sx.2.2)).setCell (p := ⟨R, 2, none⟩) HRL.out (.int .i64 0)
    have m9 := vdt_moves hR HM3.out (.bool true) (.slice sx.1 sx.2.1 sx.2.2) (.int .i64 0)
    generalize ((w3.setCell ⟨R, 0, none⟩ (.bool true)).setCell ⟨R, 1, none⟩ (.slice sx.1 sx.2.1 sx.2.2)).setCell ⟨R, 2, none⟩ (.int .i64 0) = w9 at a9 b9 m9 ⊢
    refine bodyPost_ret (results_ctv rfl _ _ _ ⟨R, 0, none⟩ _ rfl (load_vdt a9)) rfl ?_
    exact ⟨b9, .inr (.inr ⟨HVD.out, HCM.out, _, HRR.out, .inr (.inr ⟨K, cl, L, a, _, rfl, HL.out, HLF.out, HL3.out, HL4.out, m9, rfl⟩)⟩)⟩
end Go.Proofs.YteliflcbegcdlaaGreatDoor

namespace Go.Proofs.YteliflcbegcdlaaGreatDoor
open Go.RowKit Go.Shelf
set_option linter.unusedVariables false
def T5 : Gd := ([0, 1, 2, 3, 4], [2, 3, 4, 0, 1])
def U3 : Gd := ([0, 2, 1], [2, 1, 0])
theorem addAll_known {most : Int} {fr : Option Gd} : ∀ (l : List (List Mv × Gd)) (s : St), (∀ p ∈ l, hasK s.1 (lstM p.2) = true) → addAll most fr s l = some s
  | [], s, _ => rfl
  | (ms, g) :: t, s, h => by
    unfold addAll addM
    rw [if_pos (h (ms, g) (by simp))]
    exact addAll_known t s fun p hp => h p (by simp [hp])
set_option maxRecDepth 100000 in
theorem tre_all : (nbrs T5).all (fun p => decide (lstM p.2 = lstM T5)) = true := by decide +kernel
theorem vd_T5 : VdG T5 := (validB_iff _ _).1 (by decide +kernel)
theorem vd_U3 : VdG U3 := (validB_iff _ _).1 (by decide +kernel)
theorem cp_T5 : comp T5.1 T5.2 = 1 := by decide +kernel
theorem cp_U3 : comp U3.1 U3.2 = 1 := by decide +kernel
set_option maxRecDepth 100000 in
theorem du_U3 : DU U3 := by decide +kernel
theorem exq_tre : Exq 1000 true T5 (.done [⟨lstM T5, [], none⟩]) := by
  refine .some (s := ([⟨lstM T5, [], none⟩], st00.2.modify 5 (· ++ [T5]))) rfl ?_
  refine .step (g := T5) (W := st00.2) (s' := ([⟨lstM T5, [], none⟩], st00.2)) rfl (by rintro ⟨_, h⟩; exact absurd h (by decide)) (addAll_known _ _ fun p hp => ?_) (.done rfl)
  have := List.all_eq_true.1 tre_all p hp
  have := of_decide_eq_true this
  rw [this]
  exact List.any_eq_true.2 ⟨⟨lstM T5, [], none⟩, by simp, by simp⟩
theorem decide_tre (va vb : Value) (w : World) (hX : Ints w va T5.1) (hO : Ints w vb T5.2) (ht : Tb w) :
    Calls Tryz.prog 14 #[.agg #[va, vb], .int .i64 1000] w fun e w' => e = .returned (.tuple #[.agg #[.bool false, .slice none 0 0, .int .i64 1], .int .i64 0]) ∧ Below w.heap.size w w' := by
  refine (Decide_any va vb T5.1 T5.2 1000 w hX hO (by decide) (by decide) (by decide) ht).mono ?_
  rintro e w' ⟨hb, hc⟩
  rcases hc with ⟨hv, _⟩ | ⟨_, hc, _⟩ | ⟨_, _, r, hr, hc⟩
  · exact absurd vd_T5 hv
  · rw [show comp (T5.1, T5.2).1 (T5.1, T5.2).2 = 1 from cp_T5] at hc; omega
  · have := Exq.det (g := T5) hr exq_tre
    subst this
    rcases hc with ⟨h, _⟩ | ⟨K, h, rfl⟩ | ⟨K, c, L, a, v, h, _⟩
    · cases h
    · injection h with h
      subst h
      exact ⟨rfl, hb⟩
    · cases h
theorem decide_u3 (va vb : Value) (w : World) (hX : Ints w va U3.1) (hO : Ints w vb U3.2) (ht : Tb w) :
    Calls Tryz.prog 14 #[.agg #[va, vb], .int .i64 1000] w fun e w' => ∃ A n c, e = .returned (.tuple #[.agg #[.bool true, .slice A (n + 1) c, .int .i64 0], .int .i64 0]) ∧ Below w.heap.size w w' := by
  refine (Decide_any va vb U3.1 U3.2 1000 w hX hO (by decide) (by decide) (by decide) ht).mono ?_
  rintro e w' ⟨hb, hc⟩
  rcases hc with ⟨hv, _⟩ | ⟨_, hc, _⟩ | ⟨_, _, r, hr, hc⟩
  · exact absurd vd_U3 hv
  · rw [show comp (U3.1, U3.2).1 (U3.1, U3.2).2 = 1 from cp_U3] at hc; omega
  · rcases hc with ⟨rfl, _⟩ | ⟨K, rfl, _⟩ | ⟨K, c, L, a, v, rfl, _, _, hp, h2, hm, rfl⟩
    · exact absurd hr (room3 (g := U3) vd_U3 (by decide) (by decide))
    · exact absurd ((Exq.pl (g := U3) vd_U3 hr).1 K rfl) (no_done vd_U3 (by decide) cp_U3 du_U3)
    · cases hl : L.reverse.flatten with
      | nil =>
        rw [hl] at hp
        have := hp.1 0
        injection this with _ this
        injection this with e1 _
        rw [← e1] at h2
        cases h2
      | cons m ms =>
        rw [hl] at hm
        obtain ⟨A, c', rfl, _⟩ := hm
        exact ⟨A, ms.length, c', rfl, hb⟩
set_option maxHeartbeats 2000000 in
set_option maxRecDepth 100000 in
theorem great45_any (A A2 : Option Addr) (n c m d : Nat) (k : Int) (w : World) :
    Calls Tryz.prog 6 #[.agg #[.slice A n c, .slice A2 m d], .int .i64 k] w fun e w' => e = .returned (.bool (decide (k < (n : Int)) || decide (k < (m : Int)))) ∧ Below w.heap.size w w' := by
  have HB := Lib.hid (show Below w.heap.size w (w.alloc (.cells #[.slice A n c, .slice A2 m d] 24)) from (Below.refl _ w).alloc (Nat.le_refl _) _)
  by_cases h1 : k < (n : Int)
  · go_enter Tryz.func6, Tryz.ntmps6
    go_wp2_with fail
    go_ret
    exact ⟨by simp [h1], HB.out⟩
  · by_cases h2 : k < (m : Int)
    · go_enter Tryz.func6, Tryz.ntmps6
      go_wp2_with fail
      go_ret
      exact ⟨by simp [h1, h2], HB.out⟩
    · go_enter Tryz.func6, Tryz.ntmps6
      go_wp2_with fail
      go_ret
      exact ⟨by simp [h1, h2], HB.out⟩
set_option maxHeartbeats 4000000 in
set_option maxRecDepth 100000 in
theorem awake45 (w : World) (ht : Tb w) : Calls Tryz.prog 5 #[] w fun e w' => e = .returned (.bool true) ∧ Below w.heap.size w w' := by
  have HT := Lib.hid (fun W (hb : Below w.heap.size w W) => ht.below hb)
  clear ht
  go_enter Tryz.func5, Tryz.ntmps5
  go_wp2_with fail
  have hb1 := ((Below.refl w.heap.size w).alloc (Nat.le_refl _) (.cells #[.int .i64 0, .int .i64 1, .int .i64 2, .int .i64 3, .int .i64 4] 3)).alloc (by simp only [World.size_alloc]; omega) (.cells #[.int .i64 2, .int .i64 3, .int .i64 4, .int .i64 0, .int .i64 1] 3)
  have i1 : Ints ((w.alloc (.cells #[.int .i64 0, .int .i64 1, .int .i64 2, .int .i64 3, .int .i64 4] 3)).alloc (.cells #[.int .i64 2, .int .i64 3, .int .i64 4, .int .i64 0, .int .i64 1] 3)) (.slice (some ⟨w.heap.size, 0, none⟩) 5 5) T5.1 := Ints.of_arr (xs := T5.1) ((Arr.new w 3 (ints T5.1)).alloc _)
  have i2 : Ints ((w.alloc (.cells #[.int .i64 0, .int .i64 1, .int .i64 2, .int .i64 3, .int .i64 4] 3)).alloc (.cells #[.int .i64 2, .int .i64 3, .int .i64 4, .int .i64 0, .int .i64 1] 3)) (.slice (some ⟨w.heap.size + 1, 0, none⟩) 5 5) T5.2 := by
    have := Arr.new (w.alloc (.cells #[.int .i64 0, .int .i64 1, .int .i64 2, .int .i64 3, .int .i64 4] 3)) 3 (ints T5.2)
    simp only [World.size_alloc] at this
    exact Ints.of_arr (xs := T5.2) this
  have HD1 := Lib.hid (decide_tre _ _ _ i1 i2 (HT.out _ hb1))
  have HB1 := Lib.hid hb1
  generalize (w.alloc (.cells #[.int .i64 0, .int .i64 1, .int .i64 2, .int .i64 3, .int .i64 4] 3)).alloc (.cells #[.int .i64 2, .int .i64 3, .int .i64 4, .int .i64 0, .int .i64 1] 3) = w1 at i1 i2 HD1 HB1 ⊢
  clear i1 i2 hb1
  refine HD1.out.mono ?_
  rintro e2 w2 ⟨rfl, hb2⟩
  have HB2 := Lib.hid (HB1.out.trans (hb2.mono HB1.out.size))
  clear hb2 HD1
  go_wp2_with fail
  have hb3 := (((Below.refl w2.heap.size w2).alloc (Nat.le_refl _) (.cells #[.bool false, .slice none 0 0, .int .i64 1] 41)).alloc (by simp only [World.size_alloc]; omega) (.cells #[.int .i64 0, .int .i64 2, .int .i64 1] 3)).alloc (by simp only [World.size_alloc]; omega) (.cells #[.int .i64 2, .int .i64 1, .int .i64 0] 3)
  have i1 : Ints (((w2.alloc (.cells #[.bool false, .slice none 0 0, .int .i64 1] 41)).alloc (.cells #[.int .i64 0, .int .i64 2, .int .i64 1] 3)).alloc (.cells #[.int .i64 2, .int .i64 1, .int .i64 0] 3)) (.slice (some ⟨w2.heap.size + 1, 0, none⟩) 3 3) U3.1 := by
    have := Arr.new (w2.alloc (.cells #[.bool false, .slice none 0 0, .int .i64 1] 41)) 3 (ints U3.1)
    simp only [World.size_alloc] at this
    exact Ints.of_arr (xs := U3.1) (this.alloc _)
  have i2 : Ints (((w2.alloc (.cells #[.bool false, .slice none 0 0, .int .i64 1] 41)).alloc (.cells #[.int .i64 0, .int .i64 2, .int .i64 1] 3)).alloc (.cells #[.int .i64 2, .int .i64 1, .int .i64 0] 3)) (.slice (some ⟨w2.heap.size + 1 + 1, 0, none⟩) 3 3) U3.2 := by
    have := Arr.new ((w2.alloc (.cells #[.bool false, .slice none 0 0, .int .i64 1] 41)).alloc (.cells #[.int .i64 0, .int .i64 2, .int .i64 1] 3)) 3 (ints U3.2)
    simp only [World.size_alloc] at this
    exact Ints.of_arr (xs := U3.2) this
  have XV := Lib.hid (show Arr (((w2.alloc (.cells #[.bool false, .slice none 0 0, .int .i64 1] 41)).alloc (.cells #[.int .i64 0, .int .i64 2, .int .i64 1] 3)).alloc (.cells #[.int .i64 2, .int .i64 1, .int .i64 0] 3)) w2.heap.size 41 [.bool false, .slice none 0 0, .int .i64 1] from ((Arr.new w2 41 [_, _, _]).alloc _).alloc _)
  have HD2 := Lib.hid (decide_u3 _ _ _ i1 i2 (HT.out _ (HB2.out.trans (hb3.mono HB2.out.size))))
  have HB3 := Lib.hid (HB2.out.trans (hb3.mono HB2.out.size))
  generalize ((w2.alloc (.cells #[.bool false, .slice none 0 0, .int .i64 1] 41)).alloc (.cells #[.int .i64 0, .int .i64 2, .int .i64 1] 3)).alloc (.cells #[.int .i64 2, .int .i64 1, .int .i64 0] 3) = w3 at i1 i2 HD2 XV HB3 ⊢
  clear i1 i2 hb3
  refine HD2.out.mono ?_
  rintro e4 w4 ⟨A, n, c, rfl, hb4⟩
  have XV4 := (XV.out.below hb4 XV.out.lt).alloc (.cells #[.bool true, .slice A (n + 1) c, .int .i64 0] 41)
  have y0 := XV4.cell 0
  have y1 := XV4.cell 1
  have y2 := XV4.cell 2
  have HB4 := Lib.hid (HB3.out.trans (hb4.mono HB3.out.size))
  clear hb4 HD2 XV4
  have zn : (0 : Int) < (n : Int) + 1 := by omega
  go_wp2_with fail
  go_ret
  exact ⟨rfl, HB4.out.alloc HB4.out.size _⟩
end Go.Proofs.YteliflcbegcdlaaGreatDoor
