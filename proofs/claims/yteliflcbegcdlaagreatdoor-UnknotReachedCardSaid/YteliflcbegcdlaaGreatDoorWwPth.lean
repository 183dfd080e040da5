/- What the reference's Follow has found so far (plain). -/
/- slices.Concat of lists of moves. -/
/- package unknot: search.path. -/
import Derived.Test.YteliflcbegcdlaaGreatDoorWwPlc
import Derived.Test.YteliflcbegcdlaaGreatDoorWwRvm
import Derived.Test.YteliflcbegcdlaaGreatDoorWwGrf
import Derived.Lib.AppendZerosOnto
import Derived.Test.YteliflcbegcdlaaGreatDoorWwPlr
namespace Go.Proofs.YteliflcbegcdlaaGreatDoor
open Go.RowKit
set_option linter.unusedVariables false
theorem tryM_le (g : Gd) (ms : List Mv) : (tryM g ms).length ≤ 1 := by unfold tryM; split <;> simp
theorem fm_le {f : Nat → List (List Mv × Gd)} (h : ∀ i, (f i).length ≤ 1) : ∀ n, ((List.range n).flatMap f).length ≤ n
  | 0 => by simp
  | n + 1 => by
    rw [List.range_succ, List.flatMap_append, List.length_append]
    have := fm_le h n
    have := h n
    simp only [List.flatMap_cons, List.flatMap_nil, List.append_nil]
    omega
theorem nbrs_count (g : Gd) : (nbrs g).length ≤ 4 * g.1.length + 2 := by
  have one : ∀ r, (nbR g r).length ≤ 2 * g.1.length + 1 := fun r => by
    unfold nbR nb1 nb2 nb3
    rw [List.length_append, List.length_append]
    have h1 := fm_le (f := fun i : Nat => tryM g (rmL g r i)) (fun i => tryM_le _ _) g.1.length
    have h2 := fm_le (f := fun i : Nat => tryM g [coM r (i : Int)]) (fun i => tryM_le _ _) (g.1.length - 1)
    have h3 := tryM_le g [tuM r, coM r ((g.1.length : Int) - 2)]
    omega
  unfold nbrs
  rw [List.length_append]
  have := one false
  have := one true
  omega
/-- the classes gs of moves of the translations, those before (c, r, kd, a, k) all -/
structure FlI (g : Gd) (c r kd a k : Nat) (gs : List Gd) : Prop where
  fol : ∀ z ∈ gs, Fol g z
  cov : ∀ c' r' kd' a' k', c' < g.1.length → r' < g.1.length → 2 ≤ kd' → kd' ≤ 3 → a' < g.1.length → k' < 2 →
    (c' < c ∨ c' = c ∧ (r' < r ∨ r' = r ∧ (kd' < kd ∨ kd' = kd ∧ (a' < a ∨ a' = a ∧ k' < k)))) →
    ∀ y : Gd, applyM (trl c' r' g.1) (trl c' r' g.2) kd' (decide (k' = 1)) a' 0 = (0, y.1, y.2) → lstM y ∈ gs
  nd : gs.Nodup
section
variable {g : Gd} {c r kd a k : Nat} {gs : List Gd}
theorem FlI.start : FlI g 0 0 2 0 0 [] := ⟨fun z h => by simp at h, fun c' r' kd' a' k' h1 h2 h3 h4 h5 h6 h7 => by omega, List.nodup_nil⟩
theorem FlI.next (h : FlI g c r kd a k gs) (hn : ∀ y : Gd, applyM (trl c r g.1) (trl c r g.2) kd (decide (k = 1)) a 0 = (0, y.1, y.2) → lstM y ∈ gs) : FlI g c r kd a (k + 1) gs := by
  refine ⟨h.fol, fun c' r' kd' a' k' h1 h2 h3 h4 h5 h6 h7 y hy => ?_, h.nd⟩
  by_cases e : c' = c ∧ r' = r ∧ kd' = kd ∧ a' = a ∧ k' = k
  · obtain ⟨rfl, rfl, rfl, rfl, rfl⟩ := e
    exact hn y hy
  · exact h.cov c' r' kd' a' k' h1 h2 h3 h4 h5 h6 (by omega) y hy
theorem FlI.new (h : FlI g c r kd a k gs) (hc : c < g.1.length) (hr : r < g.1.length) (hk : kd = 2 ∨ kd = 3) {y : Gd} (hy : applyM (trl c r g.1) (trl c r g.2) kd (decide (k = 1)) a 0 = (0, y.1, y.2)) (hn : ¬ lstM y ∈ gs) : FlI g c r kd a (k + 1) (gs ++ [lstM y]) := by
  have h2 : FlI g c r kd a k (gs ++ [lstM y]) := by
    refine ⟨fun z hz => ?_, fun c' r' kd' a' k' h1 h2 h3 h4 h5 h6 h7 y hy => List.mem_append_left _ (h.cov c' r' kd' a' k' h1 h2 h3 h4 h5 h6 h7 y hy), ?_⟩
    · rcases List.mem_append.1 hz with hz | hz
      · exact h.fol z hz
      · rw [List.mem_singleton.1 hz]
        exact ⟨(trl c r g.1, trl c r g.2), y, kd, _, a, ⟨c, r, hc, hr, rfl⟩, by omega, hy, rfl⟩
    · rw [List.nodup_append]
      refine ⟨h.nd, by simp, ?_⟩
      intro a ha b hb e
      simp at hb
      subst hb; subst e
      exact hn ha
  refine h2.next fun y' hy' => ?_
  rw [hy] at hy'
  injection hy' with _ hy'
  injection hy' with e1 e2
  have : y = y' := Prod.ext e1 e2
  rw [← this]
  exact List.mem_append_right _ (by simp)
theorem FlI.k2 (h : FlI g c r kd a 2 gs) : FlI g c r kd (a + 1) 0 gs := ⟨h.fol, fun c' r' kd' a' k' h1 h2 h3 h4 h5 h6 h7 => h.cov c' r' kd' a' k' h1 h2 h3 h4 h5 h6 (by omega), h.nd⟩
theorem FlI.an (h : FlI g c r kd g.1.length 0 gs) : FlI g c r (kd + 1) 0 0 gs := ⟨h.fol, fun c' r' kd' a' k' h1 h2 h3 h4 h5 h6 h7 => h.cov c' r' kd' a' k' h1 h2 h3 h4 h5 h6 (by omega), h.nd⟩
theorem FlI.kd4 (h : FlI g c r 4 0 0 gs) : FlI g c (r + 1) 2 0 0 gs := ⟨h.fol, fun c' r' kd' a' k' h1 h2 h3 h4 h5 h6 h7 => h.cov c' r' kd' a' k' h1 h2 h3 h4 h5 h6 (by omega), h.nd⟩
theorem FlI.rn (h : FlI g c g.1.length 2 0 0 gs) : FlI g (c + 1) 0 2 0 0 gs := ⟨h.fol, fun c' r' kd' a' k' h1 h2 h3 h4 h5 h6 h7 => h.cov c' r' kd' a' k' h1 h2 h3 h4 h5 h6 (by omega), h.nd⟩
theorem FlI.len (h : FlI g c r kd a k gs) (hv : VdG g) : gs.length ≤ 162 := by
  have h1 := len_subG gs ((nbrs g).map fun p => lstM p.2) h.nd fun z hz => by
    obtain ⟨ms, y, hm, e⟩ := fol_nbrs hv (h.fol z hz)
    exact List.mem_map.2 ⟨(ms, y), hm, e⟩
  rw [List.length_map] at h1
  have := nbrs_count g
  have := hv.most
  omega
end
/-- the list of the classes that follow -/
def IsF (g : Gd) (gs : List Gd) : Prop := gs.Nodup ∧ gs.length ≤ 162 ∧ ∀ z, z ∈ gs ↔ Fol g z
theorem FlI.fin {g : Gd} {gs : List Gd} (hv : VdG g) (h : FlI g g.1.length 0 2 0 0 gs) : IsF g gs := by
  refine ⟨h.nd, h.len hv, fun z => ⟨h.fol z, ?_⟩⟩
  rintro ⟨x, y, kk, rr, a, ⟨c, r, hc, hr, rfl⟩, hk, hy, rfl⟩
  obtain ⟨_, hrg, _⟩ := applyM_inv hy
  obtain ⟨_, ⟨ha0, ha1⟩, _⟩ := hrg
  simp only [trl_length] at ha1
  have ha : a < (g.1.length : Int) := by
    rcases hk with rfl | rfl <;> simp only [limAt] at ha1 <;> simp at ha1 <;> omega
  obtain ⟨j, rfl⟩ : ∃ j : Nat, a = j := ⟨a.toNat, by omega⟩
  obtain ⟨kd, rfl, hkd⟩ : ∃ kd : Nat, kk = kd ∧ (2 ≤ kd ∧ kd ≤ 3) := ⟨kk.toNat, by omega, by omega⟩
  exact h.cov c r kd j (if rr then 1 else 0) hc hr hkd.1 hkd.2 (by omega) (by split <;> omega) (by omega) y (by cases rr <;> exact hy)
end Go.Proofs.YteliflcbegcdlaaGreatDoor

namespace Go.Proofs.YteliflcbegcdlaaGreatDoor
open Go.RowKit
set_option linter.unusedVariables false
theorem info_mvc : (Tryz.prog.info? 94).map (fun i => (i.zero, i.size, i.bytes)) = some (some (.agg #[.int .i64 0, .bool false, .int .i64 0, .int .i64 0]), 4, 32) := by kernel_rfl
theorem mvc_len (m : Mv) : m.cells.length = 4 := rfl
theorem elM : ElA Tryz.prog 94 4 Mv.cells where
  ex := by
    obtain ⟨i, hi, hz, hs, hb⟩ := info_parts info_mvc
    exact ⟨i, _, 32, hi, hz, hs, hb, rfl, by omega⟩
  pos := by omega
  len := mvc_len
  one := fun m q h => by unfold Mv.cells at h; simp at h; rcases h with rfl | rfl | rfl | rfl <;> rfl
theorem Moves.sl0 {w : World} {v : Value} {ms : List Mv} (h : Moves w v ms) : SlA0 Mv.cells w v ms := by
  obtain ⟨A, c, e, hx⟩ := h
  refine ⟨A, c, e, fun j q hq => ?_⟩
  have hlt := (List.getElem?_eq_some_iff.1 hq).1
  rw [flat_len mvc_len] at hlt
  have hk : j / 4 < ms.length := by omega
  obtain ⟨b, o, hA, hc⟩ := hx (j / 4) hk
  have := flat_get mvc_len ms (j / 4) (j % 4) hk (by omega)
  rw [show j / 4 * 4 + j % 4 = j by omega, hq] at this
  have h2 := hc (j % 4) q this.symm
  rw [show o + j / 4 * 4 + j % 4 = o + j by omega] at h2
  exact ⟨b, o, hA, h2⟩
theorem SlA.moves {w : World} {v : Value} {ms : List Mv} (h : SlA Mv.cells w v ms) : Moves w v ms := by
  obtain ⟨A, c, e, _, hx⟩ := h
  refine ⟨A, c, e, fun k hk => ?_⟩
  have h0 := flat_get mvc_len ms k 0 hk (by omega)
  obtain ⟨b, o, hA, _⟩ := hx (k * 4 + 0) _ (h0.trans (show _ = some (ms[k].cells[0]'(by rw [mvc_len]; omega)) from List.getElem?_eq_getElem _))
  refine ⟨b, o, hA, fun j u hu => ?_⟩
  have hj : j < 4 := by have := (List.getElem?_eq_some_iff.1 hu).1; rw [mvc_len] at this; exact this
  have h1 := flat_get mvc_len ms k j hk hj
  obtain ⟨b', o', hA', hc⟩ := hx (k * 4 + j) u (h1.trans hu)
  rw [hA] at hA'
  injection hA' with hA'
  injection hA' with e1 e2
  subst e1; subst e2
  rw [Nat.add_assoc]; exact hc
set_option maxHeartbeats 1000000 in
theorem growM_any (n : Nat) (w : World) (hn : n ≤ 1000000) :
    Calls Tryz.prog 76 #[.slice none 0 0, .int .i64 (n : Nat)] w fun e w' => ∃ v, e = .returned v ∧ OwnA 94 4 Mv.cells w.heap.size w' v [] ∧ Below w.heap.size w w' := by
  have h1 : ¬ ((n : Int) < 0) := by omega
  rcases Nat.eq_zero_or_pos n with rfl | h0
  · go_enter Tryz.func76, Tryz.ntmps76
    go_wp2_with fail
    go_ret
    exact ⟨_, rfl, OwnA.nil _ _ _ _ _, Below.refl _ _⟩
  · have h2 : (0 : Int) < (n : Int) := by omega
    obtain ⟨i0, hi0, hz0, hz1, hz2⟩ := info_parts info_mvc
    have hGn := grownCap_ge w n 0 94
    have hGm := grownCap_le_maxLen w n 0 94 (by unfold maxLen; omega)
    have hrz := Lib.hid (fun ty => Lib.run_append_grow_zeros w 39 3 ty 94 i0 (.agg #[.int .i64 0, .bool false, .int .i64 0, .int .i64 0]) .i64 .i64 Tryz.underlying39 Tryz.underlying3 hi0 hz0 none 0 0 [] (run_firstCells_none w.drew i0.size 0 0 0) n h0 (by rw [hz1]; decide) (by omega) (by omega) (by rw [hz2]; omega) (by rw [hz2]; unfold Builtin.nextslicecap; simp; split <;> omega))
    rw [Nat.zero_add] at hrz
    have HR := Lib.hid (show OwnA 94 4 Mv.cells w.heap.size (w.drew.alloc (.cells (([] : List Value).toArray ++ Builtin.zeroCells (Value.agg #[.int .i64 0, .bool false, .int .i64 0, .int .i64 0]).cells n ++ Builtin.zeroCells (Value.agg #[.int .i64 0, .bool false, .int .i64 0, .int .i64 0]).cells (grownCap w n 0 94 - n)) 94)) (.slice (some ⟨w.heap.size, 0, none⟩) 0 (grownCap w n 0 94)) [] from
      ⟨by simp, .inr ⟨w.heap.size, _, _, rfl, Nat.le_refl _, heap_alloc_new w.drew _, Nat.zero_le _, hGm, by
        rw [Array.size_append, Array.size_append, size_zeroCells, size_zeroCells]
        show 0 + n * 4 + (grownCap w n 0 94 - n) * 4 = grownCap w n 0 94 * 4
        omega, rfl⟩⟩)
    have HB := Lib.hid (show Below w.heap.size w (w.drew.alloc (.cells (([] : List Value).toArray ++ Builtin.zeroCells (Value.agg #[.int .i64 0, .bool false, .int .i64 0, .int .i64 0]).cells n ++ Builtin.zeroCells (Value.agg #[.int .i64 0, .bool false, .int .i64 0, .int .i64 0]).cells (grownCap w n 0 94 - n)) 94)) from ((Below.refl _ _).drew).alloc (Nat.le_refl _) _)
    generalize (w.drew.alloc (.cells (([] : List Value).toArray ++ Builtin.zeroCells (Value.agg #[.int .i64 0, .bool false, .int .i64 0, .int .i64 0]).cells n ++ Builtin.zeroCells (Value.agg #[.int .i64 0, .bool false, .int .i64 0, .int .i64 0]).cells (grownCap w n 0 94 - n)) 94)) = w1 at *
    have hG63 : grownCap w n 0 94 ≤ 9223372036854775807 := by unfold maxLen at hGm; omega
    generalize grownCap w n 0 94 = G at *
    go_enter Tryz.func76, Tryz.ntmps76
    go_wp2_with (at_builtin; refine Lib.wpList_append_run _ rfl _ _ _ _ rfl _ _ rfl rfl _ _ (hrz.out _) ?_)
    go_ret
    exact ⟨_, rfl, HR.out, HB.out⟩
/-- the values xs read as the lists of moves mss -/
def AlV (w : World) (xs : List Value) (mss : List (List Mv)) : Prop := xs.length = mss.length ∧ ∀ (i : Nat) x ms, xs[i]? = some x → mss[i]? = some ms → Moves w x ms
theorem AlV.below {w w' : World} {xs : List Value} {mss : List (List Mv)} (h : AlV w xs mss) (hb : Below w.heap.size w w') : AlV w' xs mss := ⟨h.1, fun i x ms h1 h2 => (h.2 i x ms h1 h2).below hb⟩
theorem flat_take_succ {mss : List (List Mv)} {k : Nat} (h : k < mss.length) : (mss.take (k + 1)).flatten = (mss.take k).flatten ++ mss[k] := by
  rw [List.take_succ_eq_append_getElem h, List.flatten_append]; simp
theorem flat_take_le (mss : List (List Mv)) (k : Nat) : (mss.take k).flatten.length ≤ mss.flatten.length := by
  conv => rhs; rw [← List.take_append_drop k mss, List.flatten_append, List.length_append]
  omega
set_option maxHeartbeats 2000000 in
theorem concatM_any (e : TypeId) (g c : Nat) (xs : List Value) (mss : List (List Mv)) (w : World) (hR : RowV e g w xs) (hA : AlV w xs mss) (hl : mss.length ≤ 1000000) (hf : mss.flatten.length ≤ 1000000) :
    Calls Tryz.prog 52 #[.slice (some ⟨g, 0, none⟩) xs.length c] w fun e w' => ∃ v, e = .returned v ∧ Moves w' v mss.flatten ∧ Below w.heap.size w w' := by
  have HR := Lib.hid hR
  have HA := Lib.hid hA
  have HF := Lib.hid hf
  have hxl := hA.1
  obtain ⟨n, hn⟩ : ∃ n, n = mss.length := ⟨_, rfl⟩
  rw [hxl, ← hn]
  rw [← hn] at hl hxl
  have HN := Lib.hid hn
  have HXL := Lib.hid hxl
  clear hn hxl hR hA hf
  go_enter Tryz.func52, Tryz.ntmps52
  go_wp2_with fail
  go_loopg [3, 11] n (fun gk s3 s11 wr => ∃ k : Nat, k ≤ n ∧ gk = n - k ∧ s11 = .int .i64 (k : Int) ∧ s3 = .int .i64 (((mss.take k).flatten.length : Nat) : Int) ∧ w = wr)
  case atStart => exact ⟨0, by omega, rfl, rfl, rfl, rfl⟩
  case round =>
    obtain ⟨k, hk, rfl, rfl, rfl, rfl⟩ := hrel
    by_cases hlt : k < n
    · have z1 : (k : Int) < (n : Int) := by omega
      have hkx : k < xs.length := by rw [HXL.out]; exact hlt
      have hkm : k < mss.length := by rw [← HN.out]; exact hlt
      have hm := HA.out.2 k _ _ (List.getElem?_eq_getElem hkx) (List.getElem?_eq_getElem hkm)
      have yc := HR.out.cell (List.getElem?_eq_getElem hkx)
      have ef := flat_take_succ hkm
      have el := flat_take_le mss (k + 1)
      obtain ⟨ms, hms⟩ : ∃ ms, ms = mss[k] := ⟨_, rfl⟩
      obtain ⟨A, c2, hv, -⟩ := hm
      rw [← hms] at hv ef
      rw [hv] at yc
      have hlen := congrArg List.length ef
      rw [List.length_append] at hlen
      obtain ⟨m, hm⟩ : ∃ m, m = ms.length := ⟨_, rfl⟩
      obtain ⟨s0, hs0⟩ : ∃ s, s = (mss.take k).flatten.length := ⟨_, rfl⟩
      obtain ⟨s1, hs1⟩ : ∃ s, s = (mss.take (k + 1)).flatten.length := ⟨_, rfl⟩
      rw [← hm, ← hs0, ← hs1] at hlen
      rw [← hs1] at el
      rw [← hm] at yc
      have z3 : (s0 : Int) + (m : Int) = (s1 : Int) := by omega
      have z4 : s1 ≤ 1000000 := by have := HF.out; omega
      have z5 : ¬ (s1 : Int) < 0 := by omega
      rw [← hs0]
      have HS1 := Lib.hid hs1
      clear hkx hkm ef el hms hv hlen hm hs0 hs1
      go_wp2_with fail
      go_roundg (n - (k + 1))
      case measure => omega
      case rel => exact ⟨k + 1, by omega, rfl, by go_num, by rw [← HS1.out], rfl⟩
    · have z1 : ¬ (k : Int) < (n : Int) := by omega
      have ekn : k = n := by omega
      have efl : (mss.take k).flatten = mss.flatten := by rw [ekn, HN.out, List.take_length]
      rw [efl]
      have HG := Lib.hid (growM_any mss.flatten.length w HF.out)
      obtain ⟨S, hS⟩ : ∃ S, S = mss.flatten.length := ⟨_, rfl⟩
      rw [← hS] at HG ⊢
      clear efl ekn hS
      go_wp2_with (go_at_call 76; refine HG.out.mono ?_; rintro e5 w5 ⟨v5, rfl, ho5, hb5⟩)
      have HOL := Lib.hid hb5
      have HR5 := Lib.hid (HR.out.keep (hb5.block g HR.out.lt))
      have HA5 := Lib.hid (HA.out.below hb5)
      have hws : w.heap.size ≤ w5.heap.size := hb5.size
      have HWS := Lib.hid hws
      obtain ⟨B, hB⟩ : ∃ B, B = w.heap.size := ⟨_, rfl⟩
      rw [← hB] at ho5 HOL HWS
      have HBw := Lib.hid (show B ≤ w.heap.size by rw [hB]; exact Nat.le_refl _)
      have HGB := Lib.hid (show g < B by rw [hB]; exact HR.out.lt)
      have HAB := Lib.hid (fun (x : Value) (ms : List Mv) W (h : Moves w x ms) (hb : Below B w W) => show Moves W x ms from h.below (by rw [← hB]; exact hb))
      have HBF := Lib.hid (fun W (hb : Below B w W) => show Below w.heap.size w W from by rw [← hB]; exact hb)
      have HRB := Lib.hid (fun W (hb : Below B w W) => show RowV e g W xs from HR.out.keep (hb.block g HGB.out))
      have HO5 := Lib.hid ho5
      clear hB hb5 HR5 HA5 hws ho5
      go_loopg [6, 27] n (fun gk s6 s27 wr => ∃ k : Nat, k ≤ n ∧ gk = n - k ∧ s27 = .int .i64 (k : Int) ∧ Hid (OwnA 94 4 Mv.cells B wr s6 ((mss.take k).flatten)) ∧ Hid (Below B w wr))
      case atStart => exact ⟨0, by omega, rfl, rfl, Lib.hid (by simpa using HO5.out), HOL⟩
      case round =>
        obtain ⟨k, hk, rfl, rfl, HO, HW⟩ := hrel
        have hszr := HW.out.size
        by_cases hlt : k < n
        · have z1 : (k : Int) < (n : Int) := by omega
          have hkx : k < xs.length := by rw [HXL.out]; exact hlt
          have hkm : k < mss.length := by rw [← HN.out]; exact hlt
          have hm := HAB.out _ _ wr (HA.out.2 k _ _ (List.getElem?_eq_getElem hkx) (List.getElem?_eq_getElem hkm)) HW.out
          have yc := (HRB.out wr HW.out).cell (List.getElem?_eq_getElem hkx)
          have ef := flat_take_succ hkm
          have el := flat_take_le mss (k + 1)
          obtain ⟨ms, hms⟩ : ∃ ms, ms = mss[k] := ⟨_, rfl⟩
          have hsl := hm.sl0
          obtain ⟨x, hx⟩ : ∃ x, x = xs[k] := ⟨_, rfl⟩
          rw [← hms] at ef hsl
          rw [← hx] at hsl yc
          have hlen := congrArg List.length ef
          rw [List.length_append] at hlen
          have HLN := Lib.hid (show (mss.take k).flatten.length + ms.length ≤ 1000000000 by have := HF.out; omega)
          have HSL := Lib.hid hsl
          have HEF := Lib.hid ef
          obtain ⟨A, c2, hv, -⟩ := hsl
          have HBS := Lib.hid (show B ≤ wr.heap.size by have := HBw.out; omega)
          subst hv
          clear hkx hkm ef el hms hlen hx hm hszr
          go_wp2_with (at_builtin; refine wpList_appA0 rfl elM _ _ 39 39 rfl Tryz.underlying39 Tryz.underlying39 rfl HO.out rfl HSL.out HLN.out HBS.out ?_; intro v8 w8 h1 h2 h3 h4)
          go_roundg (n - (k + 1))
          case measure => omega
          case rel => exact ⟨k + 1, by omega, rfl, by go_num, Lib.hid (by rw [HEF.out]; exact h1), Lib.hid (HW.out.trans h2)⟩
        · have z1 : ¬ (k : Int) < (n : Int) := by omega
          have ekn : k = n := by omega
          have efl : (mss.take k).flatten = mss.flatten := by rw [ekn, HN.out, List.take_length]
          rw [efl] at HO
          go_wp2_with fail
          go_ret
          exact ⟨_, rfl, HO.out.sl.moves, HBF.out _ HW.out⟩
end Go.Proofs.YteliflcbegcdlaaGreatDoor

namespace Go.Proofs.YteliflcbegcdlaaGreatDoor
open Go.RowKit Go.Shelf
set_option linter.unusedVariables false
/-- the lists of moves that lead to a class, the last one first -/
inductive PathK (K : List En) : Option Gd → List (List Mv) → Prop
  | nil : PathK K none []
  | cons {e : En} {L : List (List Mv)} : e ∈ K → PathK K e.fr L → PathK K (some e.key) (e.ms :: L)
theorem elV : ElA Tryz.prog 39 1 (fun v : SL => [sv v]) where
  ex := by
    have h : (Tryz.prog.info? 39).map (fun i => (i.zero, i.size, i.bytes)) = some (some (.slice none 0 0), 1, 24) := by kernel_rfl
    obtain ⟨i, hi, hz, hs, hb⟩ := info_parts h
    exact ⟨i, _, 24, hi, hz, hs, hb, rfl, by omega⟩
  pos := by omega
  len := fun _ => rfl
  one := fun v q h => by simp at h; subst h; rfl
theorem fm_ne (c : Gd) : ∃ x l, fmG c = x :: l := by
  cases h : fmG c with
  | nil => unfold fmG at h; simp at h
  | cons x l => exact ⟨x, l, rfl⟩
theorem OwnA.row {e : TypeId} {base : Nat} {w : World} {v : Value} {xs : List SL} (h : OwnA e 1 (fun v : SL => [sv v]) base w v xs) (hn : xs ≠ []) : ∃ g c, v = .slice (some ⟨g, 0, none⟩) xs.length c ∧ base ≤ g ∧ RowV e g w (xs.map sv) := by
  have hfl : xs.flatMap (fun v : SL => [sv v]) = xs.map sv := by
    clear h hn
    induction xs with
    | nil => rfl
    | cons x xs ih => rw [List.flatMap_cons, ih]; rfl
  rcases h.2 with ⟨_, h0⟩ | ⟨g, cap, cur, rfl, hg, hh, hn2, _, hc, ht⟩
  · exact absurd (List.eq_nil_of_length_eq_zero h0) hn
  · refine ⟨g, cap, rfl, hg, cur, hh, fun i x hi => ?_⟩
    rw [hfl] at ht
    have hlt := (List.getElem?_eq_some_iff.1 hi).1
    have h1 : cur.toList[i]? = some x := by
      rw [← ht, List.getElem?_take] at hi
      split at hi
      · exact hi
      · cases hi
    simpa using h1
theorem Moves.svx {w : World} {v : Value} {ms : List Mv} (h : Moves w v ms) : ∃ s : SL, v = sv s := by
  obtain ⟨A, c, rfl, _⟩ := h
  exact ⟨(A, ms.length, c), rfl⟩
set_option maxHeartbeats 4000000 in
set_option maxRecDepth 100000 in
theorem path_any (gS : Nat) (p : SP) (s : St) (c : Gd) (L : List (List Mv)) (w : World) (hs : SI gS w s p) (hp : StP s) (hL : PathK s.1 (some c) L) (l1 : L.length ≤ 100000) (l2' : L.flatten.length ≤ 1000000) :
    Calls Tryz.prog 32 #[.pointer (some ⟨gS, 0, none⟩), .string ⟨(fmG c).toArray⟩] w fun e w' => ∃ v, e = .returned v ∧ Moves w' v L.reverse.flatten ∧ Below w.heap.size w w' := by
  obtain ⟨m1, m2, vC, WS, L1, k1, k2⟩ := p
  obtain ⟨fr0, hfr⟩ : ∃ fr0 : Option Gd, fr0 = some c := ⟨_, rfl⟩
  rw [show fmG c = frS fr0 by rw [hfr]; rfl]
  rw [← hfr] at hL
  have HFR := Lib.hid hfr
  have HS := Lib.hid hs
  have HP := Lib.hid hp
  have HL := Lib.hid hL
  have H1 := Lib.hid l1
  have H2 := Lib.hid l2'
  clear hs hp hL l1 l2' hfr
  go_enter Tryz.func32, Tryz.ntmps32
  go_wp2_with fail
  obtain ⟨B, hB⟩ : ∃ B, B = w.heap.size := ⟨_, rfl⟩
  have HBw := Lib.hid (show B ≤ w.heap.size by rw [hB]; exact Nat.le_refl _)
  have HBF := Lib.hid (fun W (hb : Below B w W) => show Below w.heap.size w W from by rw [← hB]; exact hb)
  clear hB
  go_loopg [1, 5] L.length (fun gk s1 s5 wr => ∃ (fr : Option Gd) (R D : List (List Mv)) (xs : List SL), gk = R.length ∧ s1 = .string ⟨(frS fr).toArray⟩ ∧ Hid (PathK s.1 fr R) ∧ Hid (L = D ++ R) ∧ Hid (OwnA 39 1 (fun v : SL => [sv v]) B wr s5 xs) ∧ Hid (AlV w (xs.map sv) D) ∧ Hid (Below B w wr))
  case atStart => exact ⟨fr0, L, [], [], rfl, rfl, HL, Lib.hid rfl, Lib.hid (OwnA.nil _ _ _ _ _), Lib.hid ⟨rfl, fun i x ms h => by simp at h⟩, Lib.hid (Below.refl _ _)⟩
  case round =>
    obtain ⟨fr, R, D, xs, rfl, rfl, HPK, HLL, HO, HAV, HW⟩ := hrel
    have HS1 := Lib.hid (HS.out.below (HBF.out _ HW.out))
    cases hfr : fr with
    | none =>
      subst hfr
      have hR : R = [] := by cases HPK.out; rfl
      subst hR
      have hLD : L = D := by have := HLL.out; rw [List.append_nil] at this; exact this
      have hDn : D ≠ [] := by
        intro e
        have := HL.out
        rw [HFR.out, hLD, e] at this
        cases this
      have hxn : xs ≠ [] := by
        intro e
        have := HAV.out.1
        rw [e] at this
        exact hDn (List.eq_nil_of_length_eq_zero this.symm)
      obtain ⟨g, cp, hs5, hg, hrow⟩ := HO.out.row hxn
      have hxl : (xs.map sv).length = xs.length := List.length_map _
      have HRV := Lib.hid (reverse_any 39 B g cp (xs.map sv) wr hrow hg (by
        have a1 := HAV.out.1
        rw [a1, ← hLD]
        have := H1.out
        omega) (fun y hy => by
        obtain ⟨z, _, rfl⟩ := List.mem_map.1 hy
        exact ⟨_, _, _, rfl⟩))
      have HCC := Lib.hid (fun W (hb : Below B w W) (hr : RowV 39 g W (xs.map sv).reverse) => concatM_any 39 g cp (xs.map sv).reverse D.reverse W hr ⟨by simp [← hxl, HAV.out.1], fun i y ms h1 h2 => by
        have hl := HAV.out.1
        have hi : i < (xs.map sv).length := by have := (List.getElem?_eq_some_iff.1 h1).1; simpa using this
        rw [List.getElem?_reverse hi] at h1
        rw [List.getElem?_reverse (by rw [← hl]; exact hi), ← hl] at h2
        exact (HAV.out.2 _ y ms h1 h2).below (HBF.out W hb)⟩ (by rw [List.length_reverse, ← hLD]; have := H1.out; omega) (by rw [List.length_flatten, List.map_reverse, List.sum_reverse, ← List.length_flatten, ← hLD]; exact H2.out))
      rw [hxl] at HRV
      rw [List.length_reverse, hxl] at HCC
      have HLD := Lib.hid hLD
      subst hs5
      clear hLD hDn hxn hrow hxl hg
      go_wp2_with (first | (go_at_call 51; refine HRV.out.mono ?_; rintro e7 w7 ⟨rfl, hr7, hb7⟩; have HC7 := Lib.hid (HCC.out w7 (HW.out.trans hb7) hr7); have HB7 := Lib.hid (HW.out.trans hb7); have HB7X := Lib.hid (show B ≤ w7.heap.size from Nat.le_trans HBw.out HB7.out.size); clear hr7 hb7) | (go_at_call 52; refine HC7.out.mono ?_; rintro e8 w8 ⟨v8, rfl, hm8, hb8⟩))
      go_ret
      exact ⟨_, rfl, by rw [HLD.out]; exact hm8, HBF.out _ (HB7.out.trans (hb8.mono HB7X.out))⟩
    | some c' =>
      subst hfr
      obtain ⟨e, R', he, rfl, rfl, hpk⟩ : ∃ e R', e ∈ s.1 ∧ c' = e.key ∧ R = e.ms :: R' ∧ PathK s.1 e.fr R' := by
        cases HPK.out with
        | cons h1 h2 => exact ⟨_, _, h1, rfl, rfl, h2⟩
      obtain ⟨v, hv0, hmv⟩ := HS.out.al1.mem.2 e he
      have hnd1 : (L1.map (·.1)).Nodup := by
        have := keys_nd HP.out.v1 HP.out.nd
        rw [← HS1.out.al1.keys] at this
        exact this
      have hnd2 : ((l2 s.1).map (·.1)).Nodup := by
        have := keys_nd HP.out.v1 HP.out.nd
        unfold l2
        rw [List.map_map]
        exact this
      have hl2 : (fmG e.key, Value.string ⟨(frS e.fr).toArray⟩) ∈ l2 s.1 := List.mem_map.2 ⟨e, he, rfl⟩
      have yl1 := (mps_lookup_yes (P := Tryz.prog) HS1.out.mp1 Tryz.underlying48 Tryz.underlying9 hnd1 hv0).2
      have YL2 := Lib.hid (fun W (hb : Below B w W) => (mps_lookup_yes (P := Tryz.prog) (HS.out.below (HBF.out _ hb)).mp2 Tryz.underlying49 Tryz.underlying9 hnd2 hl2).2)
      unfold kyS at yl1 YL2
      rw [show fmG e.key = frS (some e.key) from rfl] at yl1 YL2
      obtain ⟨x, hx⟩ := hmv.svx
      subst hx
      simp only [sv] at yl1
      have ze : (frS (some e.key)).isEmpty = false := by
        obtain ⟨x, l, hxl⟩ := fm_ne e.key
        show (fmG e.key).isEmpty = false
        rw [hxl]; rfl
      have g0 := HS1.out.hd.cell 0
      have hsz : w.heap.size ≤ wr.heap.size := HW.out.size
      have HGL := Lib.hid (show gS < w.heap.size from HS.out.hd.lt)
      have HSLX := Lib.hid (show ∀ (W : World), SlA0 (fun v : SL => [sv v]) (W.alloc (.cells #[.slice x.1 x.2.1 x.2.2] 39)) (.slice (some ⟨W.heap.size, 0, none⟩) 1 1) [x] from fun W => ⟨_, 1, rfl, fun j q hq => ⟨_, _, rfl, by
        have hj : j = 0 := by have := (List.getElem?_eq_some_iff.1 hq).1; simp at this; exact this
        subst hj
        simp at hq
        subst hq
        exact (Arr.new W 39 [sv x]).cell 0⟩⟩)
      have hal := HW.out.alloc (show B ≤ wr.heap.size by have := HBw.out; omega) (.cells #[.slice x.1 x.2.1 x.2.2] 39)
      have HAL := Lib.hid hal
      have HO1 := Lib.hid (HO.out.alloc (.cells #[.slice x.1 x.2.1 x.2.2] 39))
      have HSZ := Lib.hid (show B ≤ (wr.alloc (.cells #[.slice x.1 x.2.1 x.2.2] 39)).heap.size by have := hal.size; have := HBw.out; omega)
      have HLX := Lib.hid (show xs.length + 1 ≤ 1000000000 by
        have a1 := HAV.out.1
        have a2 := congrArg List.length HLL.out
        have a3 := H1.out
        simp at a1 a2
        omega)
      have HE := Lib.hid he
      have HMV := Lib.hid hmv
      have HPR := Lib.hid hpk
      have HAV1 := Lib.hid (show ∀ W, Below B w W → (∀ k, k < wr.heap.size → True) → True from fun _ _ _ => trivial)
      clear he hnd1 hnd2 hl2 hv0 hmv hpk hal hsz HAV1
      go_wp2_with (at_builtin; refine wpList_appA0 rfl elV _ _ 96 96 rfl Tryz.underlying96 Tryz.underlying96 rfl HO1.out rfl (HSLX.out _) HLX.out HSZ.out ?_; intro v8 w8 h1 h2 h3 h4; have hb8 := HAL.out.trans h2; have g1 := (HS.out.below (HBF.out _ hb8)).hd.cell 1; have yl2 := YL2.out w8 hb8; have HO8 := Lib.hid h1; have H8 := Lib.hid h2; have HB8 := Lib.hid hb8; clear h1 h2 h3 h4 hb8)
      go_roundg R'.length
      case measure => exact Nat.lt_succ_self _
      case rel =>
        refine ⟨e.fr, R', D ++ [e.ms], xs ++ [x], rfl, rfl, HPR, Lib.hid (by rw [HLL.out, List.append_assoc]; rfl), HO8, Lib.hid ⟨?_, ?_⟩, HB8⟩
        · have := HAV.out.1
          simp at this ⊢
          omega
        · intro i y ms h1 h2
          rw [List.map_append] at h1
          have hl := HAV.out.1
          rcases Nat.lt_or_ge i (xs.map sv).length with hi | hi
          · rw [List.getElem?_append_left hi] at h1
            rw [List.getElem?_append_left (by rw [← hl]; exact hi)] at h2
            exact HAV.out.2 i y ms h1 h2
          · rw [List.getElem?_append_right hi] at h1
            rw [List.getElem?_append_right (by rw [← hl]; exact hi), ← hl] at h2
            cases hj : i - (xs.map sv).length with
            | zero =>
              rw [hj] at h1 h2
              simp at h1 h2
              subst h1; subst h2
              exact HMV.out
            | succ j => rw [hj] at h1; simp at h1
end Go.Proofs.YteliflcbegcdlaaGreatDoor
