/- intmatrix.residues: the walk. -/
/- eliminate: plain functions. -/
import Derived.Test.YtcjaloddgilnpaaZIsw
namespace Go.Proofs.Ytcjaloddgilnpaa
open Go.RowKit
set_option linter.unusedVariables false

/-- a number modulo m -/
def rs (m : Nat) (x : Int) : Nat := if x < 0 then (0 + (m - x.natAbs % m)) % m else x.natAbs % m
def resR (m : Nat) (r : List Int) : List Nat := r.map (rs m)
def resF (m : Nat) (rows : List (List Int)) : List (List Nat) := rows.map (resR m)
theorem rs_lt {m : Nat} (hm : 0 < m) (x : Int) : rs m x < m := by unfold rs; split <;> exact Nat.mod_lt _ hm
/-- the first y elements of a row -/
def rsP (m : Nat) (r : List Int) (y : Nat) : List Nat := (List.range r.length).map fun j => if j < y then rs m (gi r j) else 0
theorem rsP_length (m : Nat) (r : List Int) (y : Nat) : (rsP m r y).length = r.length := by simp [rsP]
theorem gn_rsP {m : Nat} {r : List Int} {y j : Nat} (h : j < r.length) : gn (rsP m r y) j = if j < y then rs m (gi r j) else 0 := by unfold rsP; rw [gn_map_range, if_pos h]
theorem rsP_zero (m : Nat) (r : List Int) : rsP m r 0 = List.replicate r.length 0 := by
  apply gn_ext (by simp [rsP_length])
  intro i hi
  rw [rsP_length] at hi
  rw [gn_rsP hi, if_neg (by omega)]
  unfold gn; rw [List.getElem?_replicate, if_pos hi]; rfl
theorem rsP_step {m : Nat} {r : List Int} {y : Nat} (h : y < r.length) : (rsP m r y).set y (rs m (gi r y)) = rsP m r (y + 1) := by
  apply gn_ext (by simp [rsP_length])
  intro i hi
  have hi' : i < r.length := by simpa [rsP_length] using hi
  rw [gn_set _ _ _ _ (by rw [rsP_length]; exact h), gn_rsP hi', gn_rsP hi']
  by_cases e : i = y
  · subst e; rw [if_pos rfl, if_pos (by omega)]
  · rw [if_neg e]
    by_cases c : i < y
    · rw [if_pos c, if_pos (by omega)]
    · rw [if_neg c, if_neg (by omega)]
theorem rsP_all (m : Nat) (r : List Int) : rsP m r r.length = resR m r := by
  apply gn_ext (by simp [rsP_length, resR])
  intro i hi
  rw [rsP_length] at hi
  rw [gn_rsP hi, if_pos hi]
  unfold gn resR gi
  rw [List.getElem?_map, List.getElem?_eq_getElem hi]; rfl
theorem resF_length (m : Nat) (rows : List (List Int)) : (resF m rows).length = rows.length := by simp [resF]
theorem resF_take {m : Nat} {rows : List (List Int)} {x : Nat} (h : x < rows.length) : resF m (rows.take (x + 1)) = resF m (rows.take x) ++ [resR m rows[x]] := by
  unfold resF; rw [List.take_succ_eq_append_getElem h, List.map_append]; rfl

/-- a matrix that is being made: n rows, as many as A has are there -/
structure PU (w : World) (R : Nat) (bs : List Nat) (C n : Nat) (A : List (List Nat)) : Prop where
  len : bs.length = A.length
  inj : ∀ (i j b : Nat), bs[i]? = some b → bs[j]? = some b → i = j
  lo : ∀ b ∈ bs, R < b ∧ b < w.heap.size
  outer : Arr w R 82 (bs.map (hd C) ++ List.replicate (n - A.length) (Value.slice none 0 0))
  row : ∀ (i b : Nat), bs[i]? = some b → Arr w b 72 (uc (gr A i))
  cols : ∀ i, i < A.length → (gr A i).length = C
theorem PU.mu {w : World} {R C n : Nat} {bs : List Nat} {A : List (List Nat)} (h : PU w R bs C n A) (hn : A.length = n) : MU w R bs C A := by
  refine ⟨h.len, h.inj, fun q => by have := h.lo R q; omega, ?_, h.row, h.cols⟩
  have := h.outer
  rw [hn, Nat.sub_self] at this
  simpa using this
theorem PU.snoc {w w' : World} {R C n B : Nat} {bs : List Nat} {A : List (List Nat)} {r : List Nat} (h : PU w R bs C n A) (hB : B = w.heap.size) (hn : A.length < n) (hr : r.length = C)
    (hk : ∀ b ∈ bs, w'.heap[b]? = w.heap[b]?) (hR : Arr w' R 82 ((bs.map (hd C) ++ List.replicate (n - A.length) (Value.slice none 0 0)).set A.length (hd C B))) (hb : Arr w' B 72 (uc r)) (hlt : R < B) : PU w' R (bs ++ [B]) C n (A ++ [r]) := by
  have hsz := hb.lt
  refine ⟨by simp [h.len], fun i j b hi hj => ?_, fun b hb' => ?_, ?_, fun i b hi => ?_, fun i hi => ?_⟩
  · rcases Nat.lt_or_ge i bs.length with q | q
    · rw [List.getElem?_append_left q] at hi
      rcases Nat.lt_or_ge j bs.length with q2 | q2
      · rw [List.getElem?_append_left q2] at hj
        exact h.inj i j b hi hj
      · exfalso
        rw [List.getElem?_append_right q2] at hj
        have e : b = B := by
          have := List.mem_of_getElem? hj; simpa using this
        have := (h.lo b (List.mem_of_getElem? hi)).2
        omega
    · rw [List.getElem?_append_right q] at hi
      have e : b = B := by have := List.mem_of_getElem? hi; simpa using this
      have l1 := (List.getElem?_eq_some_iff.1 hi).1
      simp at l1
      rcases Nat.lt_or_ge j bs.length with q2 | q2
      · exfalso
        rw [List.getElem?_append_left q2] at hj
        have := (h.lo b (List.mem_of_getElem? hj)).2
        omega
      · rw [List.getElem?_append_right q2] at hj
        have l2 := (List.getElem?_eq_some_iff.1 hj).1
        simp at l2
        omega
  · rcases List.mem_append.1 hb' with q | q
    · have := h.lo b q; omega
    · have : b = B := by simpa using q
      omega
  · have e : (bs.map (hd C) ++ List.replicate (n - A.length) (Value.slice none 0 0)).set A.length (hd C B) = (bs ++ [B]).map (hd C) ++ List.replicate (n - (A ++ [r]).length) (Value.slice none 0 0) := by
      have h3 : n - A.length = (n - (A.length + 1)) + 1 := by omega
      rw [List.set_append_right (h := by simp [h.len]), h3, List.replicate_succ]
      simp [h.len]
    rw [e] at hR; exact hR
  · rcases Nat.lt_or_ge i bs.length with q | q
    · rw [List.getElem?_append_left q] at hi
      have e : gr (A ++ [r]) i = gr A i := by unfold gr; rw [List.getElem?_append_left (by rw [← h.len]; exact q)]
      rw [e]
      exact (hk b (List.mem_of_getElem? hi)).trans (h.row i b hi)
    · rw [List.getElem?_append_right q] at hi
      have l1 := (List.getElem?_eq_some_iff.1 hi).1
      simp at l1
      have e : b = B := by have := List.mem_of_getElem? hi; simpa using this
      have e2 : i = A.length := by rw [← h.len]; omega
      subst e e2
      have e3 : gr (A ++ [r]) A.length = r := by unfold gr; simp
      rw [e3]; exact hb
  · simp at hi
    rcases Nat.lt_or_ge i A.length with q | q
    · have e : gr (A ++ [r]) i = gr A i := by unfold gr; rw [List.getElem?_append_left q]
      rw [e]; exact h.cols i q
    · have e2 : i = A.length := by omega
      subst e2
      have e3 : gr (A ++ [r]) A.length = r := by unfold gr; simp
      rw [e3]; exact hr

theorem rowInfo : (Try.prog.info? 82).map (fun i => (i.zero, i.size, i.bytes)) = some (some (.slice none 0 0), 1, 24) := by kernel_rfl
theorem numInfo : (Try.prog.info? 72).map (fun i => (i.zero, i.size, i.bytes)) = some (some (.int .u64 0), 1, 8) := by kernel_rfl
set_option maxHeartbeats 4000000 in
set_option maxRecDepth 100000 in
theorem residues_any (v : Value) (rows : List (List Int)) (C m : Nat) (w : World) (h : Mat w v rows) (hn : rows.length ≤ 1000) (hC : C ≤ 1000) (hc : ∀ r ∈ rows, r.length = C) (hb : ∀ r ∈ rows, ∀ x ∈ r, -9223372036854775807 ≤ x ∧ x ≤ 9223372036854775807) (hm : 0 < m) (hm2 : m ≤ 4611686018427387904) :
    Calls Try.prog 80 #[v, .int .u64 (m : Nat)] w fun e w' => e = .returned (.slice (some ⟨w.heap.size, 0, none⟩) rows.length rows.length) ∧ ∃ bs, MU w' w.heap.size bs C (resF m rows) ∧ (∀ b ∈ bs, w.heap.size < b) ∧ Below w.heap.size w w' := by
  obtain ⟨i0, hi0, hz0, hz1, hz2⟩ := info_parts rowInfo
  obtain ⟨i1, hi1, hy0, hy1, hy2⟩ := info_parts numInfo
  have HMK1 := Lib.hid (run_make_one (P := Try.prog) 79 82 i0 (.slice none 0 0) Try.underlying79 hi0 hz0 hz1 rfl (by omega) rows.length (by omega))
  have HMK2 := Lib.hid (run_make_one (P := Try.prog) 82 72 i1 (.int .u64 0) Try.underlying82 hi1 hy0 hy1 rfl (by omega) C (by omega))
  have HM := Lib.hid h
  have HCL := Lib.hid hc
  have HBD := Lib.hid hb
  obtain ⟨A0, c0, rfl, hcap, hx⟩ := h
  clear hx hc hb
  obtain ⟨n, hnn⟩ : ∃ n, n = rows.length := ⟨_, rfl⟩
  rw [← hnn] at hn hcap HMK1 ⊢
  have HNN := Lib.hid hnn
  clear hnn
  have hmk := HMK1.out
  go_enter Try.func80, Try.ntmps80
  go_wp2_with fail
  clear hmk
  have hP : PU (w.alloc (.cells (rowOf (List.replicate n (Value.slice none 0 0))) 82)) w.heap.size [] C n [] := by
    refine ⟨rfl, fun i j b hi => by simp at hi, fun b hb => by simp at hb, ?_, fun i b hi => by simp at hi, fun i hi => by simp at hi⟩
    simpa using Arr.new w 82 (List.replicate n (Value.slice none 0 0))
  have hB0 : Below w.heap.size w (w.alloc (.cells (rowOf (List.replicate n (Value.slice none 0 0))) 82)) := (Below.refl _ _).alloc (Nat.le_refl _) _
  generalize (w.alloc (.cells (rowOf (List.replicate n (Value.slice none 0 0))) 82)) = w4 at hP hB0 ⊢
  obtain ⟨R, hRR⟩ : ∃ R, R = w.heap.size := ⟨_, rfl⟩
  rw [← hRR] at hP ⊢
  have HR := Lib.hid hRR
  clear hRR
  go_loopg [6, 7, 8, 9, 15] n (fun gk s6 s7 s8 s9 s15 wr => ∃ (x : Nat) (bs : List Nat), x ≤ n ∧ gk = n - x ∧ s15 = .int .i64 (x : Int) ∧ PU wr R bs C n (resF m (rows.take x)) ∧ Below w.heap.size w wr)
  case atStart => exact ⟨0, [], Nat.zero_le _, rfl, rfl, by simpa [resF] using hP, hB0⟩
  case round =>
    clear hP hB0
    obtain ⟨x, bs, hx, rfl, rfl, hP, hB0⟩ := hrel
    obtain ⟨wo, rfl⟩ : ∃ wo : World, wo = wr := ⟨_, rfl⟩
    by_cases hlt : x < n
    · have z1 : (x : Int) < (n : Int) := by omega
      have hxr : x < rows.length := by rw [← HNN.out]; exact hlt
      obtain ⟨b0, o0, rfl, hb0, u, hu, hI⟩ := (HM.out).at_ hxr
      have hrl := HCL.out rows[x] (List.getElem_mem hxr)
      have HRB := Lib.hid (HBD.out rows[x] (List.getElem_mem hxr))
      have HTK := Lib.hid (resF_take (m := m) hxr)
      generalize rows[x] = row at *
      have HII := Lib.hid hI
      obtain ⟨A2, c2, rfl, hc2, hx2⟩ := hI
      clear hx2
      rw [hrl] at hu
      have hu' := (hB0.cell (p := ⟨b0, o0 + x, none⟩) hb0).trans hu
      have hlen : (resF m (rows.take x)).length = x := by rw [resF_length]; simp; omega
      have zl : x < n := hlt
      have zc : wo.cell? ⟨R, x, none⟩ = some (Value.slice none 0 0) := by
        rw [hP.outer.cell, List.getElem?_append_right (by simp [hP.len, hlen]), List.getElem?_replicate, if_pos (by simp [hP.len, hlen]; omega)]
      have zf := hP.outer.frozen x
      have hmk := HMK2.out
      have HRL := Lib.hid hrl
      have HLN := Lib.hid hlen
      have lR := hP.outer.lt
      have HPU := Lib.hid hP
      clear hP hrl hlen hu
      go_upto_region 6 with fail
      have hse : (wo.setCell ⟨R, x, none⟩ (.slice (some ⟨wo.heap.size, 0, none⟩) C C)).heap.size = wo.heap.size := by simp
      have hW : ∀ W, W = (wo.setCell ⟨R, x, none⟩ (.slice (some ⟨wo.heap.size, 0, none⟩) C C)).alloc (.cells (rowOf (List.replicate C (Value.int .u64 0))) 72) → Arr W wo.heap.size 72 (uc (rsP m row 0)) ∧ Arr W R 82 ((bs.map (hd C) ++ List.replicate (n - (resF m (rows.take x)).length) (Value.slice none 0 0)).set (resF m (rows.take x)).length (hd C wo.heap.size)) ∧ (∀ b ∈ bs, W.heap[b]? = wo.heap[b]?) ∧ Below w.heap.size w W := by
        intro W hW
        subst hW
        refine ⟨?_, ?_, fun b hb => ?_, (hB0.setCell (p := ⟨R, x, none⟩) (by rw [HR.out]; exact Nat.le_refl _) _).alloc (Nat.le_trans hB0.size (Nat.le_of_eq hse.symm)) _⟩
        · rw [rsP_zero, HRL.out, show uc (List.replicate C 0) = List.replicate C (Value.int .u64 0) by simp [uc]]
          exact Arr.newAt _ _ _ _ hse.symm
        · rw [HLN.out]
          have h1 := HPU.out.outer
          rw [HLN.out] at h1
          exact (h1.set x (.slice (some ⟨wo.heap.size, 0, none⟩) C C)).alloc _
        · have hlo := HPU.out.lo b hb
          rw [Below.heap_alloc _ _ b (by rw [hse]; exact hlo.2)]
          exact Below.heap_setCell _ ⟨R, x, none⟩ _ b (Nat.ne_of_gt hlo.1)
      generalize hBB : wo.heap.size = B at *
      generalize (wo.setCell ⟨R, x, none⟩ (.slice (some ⟨B, 0, none⟩) C C)).alloc (.cells (rowOf (List.replicate C (Value.int .u64 0))) 72) = w7 at hW ⊢
      obtain ⟨ha7, hR7, hk7, hb7⟩ := hW w7 rfl
      have HBB := Lib.hid hBB
      have lRB : R ≠ B := by omega
      have hcR : w7.cell? ⟨R, x, none⟩ = some (.slice (some ⟨B, 0, none⟩) C C) := by
        rw [hR7.cell, HLN.out, List.getElem?_set, if_pos rfl, if_pos (by simp [HPU.out.len, HLN.out]; omega)]; rfl
      have HR7 := Lib.hid hR7
      have HK7 := Lib.hid hk7
      clear hW hmk hBB zc zf hu' hse hR7 hk7
      go_wp2_with fail
      go_loopg [8, 9, 28] C (fun gk s8 s9 s28 wr => ∃ y : Nat, y ≤ C ∧ gk = C - y ∧ s28 = .int .i64 (y : Int) ∧ Arr wr B 72 (uc (rsP m row y)) ∧ Onl B w7 wr)
      case atStart => exact ⟨0, Nat.zero_le _, rfl, rfl, ha7, Onl.refl _ _⟩
      case round =>
        clear ha7
        obtain ⟨y, hy, rfl, rfl, hA, hO⟩ := hrel
        obtain ⟨wp, rfl⟩ : ∃ wp : World, wp = wr := ⟨_, rfl⟩
        by_cases hyt : y < C
        · have z2 : (y : Int) < (C : Int) := by omega
          have hyr : y < row.length := by rw [HRL.out]; exact hyt
          have hb9 : Below w.heap.size w wp := hb7.trans (hO.below (by have := HR.out; omega))
          obtain ⟨b2, o2, rfl, hbl, hcell⟩ := (HII.out.below hb9).at_ hyr
          have hce : gi row y = row[y] := by unfold gi; rw [List.getElem?_eq_getElem hyr]; rfl
          have hbd := HRB.out row[y] (List.getElem_mem hyr)
          rw [← hce] at hcell hbd
          have c1 := (hO.cell (p := ⟨R, x, none⟩) lRB).trans hcR
          have c3 := hA.frozen y
          have c2 := (hA.cell y).trans (uc_get (by rw [rsP_length]; exact hyr))
          have HAB := Lib.hid (fun W => abs_any (gi row y) W hbd.1 hbd.2)
          have e1 := rem_nat (gi row y).natAbs m
          have hql : (gi row y).natAbs % m < m := Nat.mod_lt _ hm
          have HSB := Lib.hid (fun W => subMod_any 0 ((gi row y).natAbs % m) m W hm hql hm2)
          have HN := Lib.hid (fun (W : World) (q : Nat) (hq : q = rs m (gi row y)) (hW : Onl B w7 W) (l : List Nat) (hl : l.set y q = rsP m row (y + 1)) (ha : Arr W B 72 (uc l)) => (show Arr (W.setCell ⟨B, y, none⟩ (.int .u64 (q : Int))) B 72 (uc (rsP m row (y + 1))) ∧ Onl B w7 (W.setCell ⟨B, y, none⟩ (.int .u64 (q : Int))) from by
            rw [← hl, ← uc_set]; exact ⟨ha.set y _, hW.setCell y _⟩))
          have HST := Lib.hid (rsP_step (m := m) hyr)
          have HQ1 := Lib.hid (fun hh : ¬ gi row y < 0 => show (gi row y).natAbs % m = rs m (gi row y) by unfold rs; rw [if_neg hh])
          have HQ2 := Lib.hid (fun hh : gi row y < 0 => show (0 + (m - (gi row y).natAbs % m)) % m = rs m (gi row y) by unfold rs; rw [if_pos hh])
          generalize rs m (gi row y) = rv at *
          generalize (0 + (m - (gi row y).natAbs % m)) % m = q2 at *
          have E1 := Lib.hid (show ((gi row y).natAbs : Int).tmod (m : Int) = (((gi row y).natAbs % m : Nat) : Int) from rfl)
          clear e1
          generalize hqq : (gi row y).natAbs % m = q at *
          generalize (gi row y).natAbs = ab at *
          generalize gi row y = e at *
          have HA := Lib.hid hA
          have HO := Lib.hid hO
          have z3 : ((m : Int) == 0) = false := by simp; omega
          have z4 : (m : Int) ≠ 0 := by omega
          clear hA hO hqq hce
          go_upto_region 9 with fail
          refine wp_region_table 10 (by kernel_rfl) (by kernel_rfl) (by kernel_rfl) (by kernel_rfl) (by kernel_rfl) rfl (by kernel_rfl) (fun i => [Value.slice (some ⟨R, 0, none⟩) n n, Value.int .i64 (x : Int), Value.pointer (some ⟨R, x, none⟩), Value.slice (some ⟨B, 0, none⟩) C C, Value.int .i64 (y : Int), Value.int .i64 e, Value.int .u64 (ab : Int), Value.int .u64 (m : Int), Value.int .u64 (q : Int), Value.pointer (some ⟨B, y, none⟩), undef].getD i undef) (fun W => W.setCell ⟨B, y, none⟩ (.int .u64 (q : Int))) ⟨?_, ?_, ?_, ?_, ?_, ?_, ?_, ?_, ?_, ?_, ?_, trivial⟩ ?_
          · intro m0 b hb
            have e5 : b.tmps[5]?.getD undef = Value.slice (some ⟨R, 0, none⟩) n n := hb 5 rfl
            refine tab_run (by decide) (Value.slice (some ⟨R, 0, none⟩) n n) rfl ?_
            clear hb
            go_simp
          · intro m0 b hb
            have e6 : b.tmps[6]?.getD undef = Value.int .i64 (x : Int) := hb 6 rfl
            refine tab_run (by decide) (Value.int .i64 (x : Int)) rfl ?_
            clear hb
            go_simp
          · intro m0 b hb
            have e33 : b.tmps[33]?.getD undef = Value.slice (some ⟨R, 0, none⟩) n n := hb 33 rfl
            have e34 : b.tmps[34]?.getD undef = Value.int .i64 (x : Int) := hb 34 rfl
            refine tab_run (by decide) (Value.pointer (some ⟨R, x, none⟩)) rfl ?_
            clear hb
            go_simp
          · intro m0 b hb
            have e35 : b.tmps[35]?.getD undef = Value.pointer (some ⟨R, x, none⟩) := hb 35 rfl
            refine tab_run (by decide) (Value.slice (some ⟨B, 0, none⟩) C C) rfl ?_
            clear hb
            go_simp
          · intro m0 b hb
            have e8 : b.tmps[8]?.getD undef = Value.int .i64 (y : Int) := hb 8 rfl
            refine tab_run (by decide) (Value.int .i64 (y : Int)) rfl ?_
            clear hb
            go_simp
          · intro m0 b hb
            have e9 : b.tmps[9]?.getD undef = Value.int .i64 e := hb 9 rfl
            refine tab_run (by decide) (Value.int .i64 e) rfl ?_
            clear hb
            go_simp
          · intro m0 b hb
            have e38 : b.tmps[38]?.getD undef = Value.int .i64 e := hb 38 rfl
            refine tab_call (by decide) (Value.int .u64 (ab : Int)) rfl ?_ ((HAB.out _).mono fun e w' ⟨h, hw⟩ => ⟨0, h, hw.symm⟩)
            clear hb
            go_simp
          · intro m0 b hb
            have e1 : b.tmps[1]?.getD undef = Value.int .u64 (m : Int) := hb 1 rfl
            refine tab_run (by decide) (Value.int .u64 (m : Int)) rfl ?_
            clear hb
            go_simp
          · intro m0 b hb
            have e39 : b.tmps[39]?.getD undef = Value.int .u64 (ab : Int) := hb 39 rfl
            have e40 : b.tmps[40]?.getD undef = Value.int .u64 (m : Int) := hb 40 rfl
            refine tab_run (by decide) (Value.int .u64 (q : Int)) rfl ?_
            clear hb
            go_simp
            rw [if_neg (by omega), E1.out]
          · intro m0 b hb
            have e36 : b.tmps[36]?.getD undef = Value.slice (some ⟨B, 0, none⟩) C C := hb 36 rfl
            have e37 : b.tmps[37]?.getD undef = Value.int .i64 (y : Int) := hb 37 rfl
            refine tab_run (by decide) (Value.pointer (some ⟨B, y, none⟩)) rfl ?_
            clear hb
            go_simp
          · intro m0 b hb
            have e41 : b.tmps[41]?.getD undef = Value.int .u64 (q : Int) := hb 41 rfl
            have e42 : b.tmps[42]?.getD undef = Value.pointer (some ⟨B, y, none⟩) := hb 42 rfl
            refine tab_store undef rfl _ rfl ?_ rfl
            clear hb
            go_simp
          intro m0
          simp only [putAll, dstOf, Act.put, List.map_cons, List.map_nil, List.setIfInBounds_toArray, List.set_cons_succ, List.set_cons_zero, Nat.reduceAdd, List.getD_cons_succ, List.getD_cons_zero]
          by_cases he : e < 0
          · have hA2 : Arr ((wp.drewN m0).setCell ⟨B, y, none⟩ (.int .u64 (q : Int))) B 72 (uc ((rsP m row y).set y q)) := by
              rw [← uc_set]; exact HA.out.set y _
            have hO2 : Onl B w7 ((wp.drewN m0).setCell ⟨B, y, none⟩ (.int .u64 (q : Int))) := (HO.out.drewN m0).setCell y _
            generalize (wp.drewN m0).setCell ⟨B, y, none⟩ (.int .u64 (q : Int)) = wq at hA2 hO2 ⊢
            have d1 := (hO2.cell (p := ⟨R, x, none⟩) lRB).trans hcR
            have d2 : wq.cell? ⟨B, y, none⟩ = some (.int .u64 (q : Int)) := (hA2.cell y).trans (by rw [uc_get (by simp [rsP_length]; exact hyr)]; rw [gn_set _ _ _ _ (by rw [rsP_length]; exact hyr), if_pos rfl])
            have d3 := hA2.frozen y
            have HA2 := Lib.hid hA2
            have HO2 := Lib.hid hO2
            clear hA2 hO2
            go_upto_region 11 with fail
            refine wp_region_table 15 (by kernel_rfl) (by kernel_rfl) (by kernel_rfl) (by kernel_rfl) (by kernel_rfl) rfl (by kernel_rfl) (fun i => [Value.slice (some ⟨R, 0, none⟩) n n, Value.int .i64 (x : Int), Value.pointer (some ⟨R, x, none⟩), Value.slice (some ⟨B, 0, none⟩) C C, Value.int .i64 (y : Int), Value.slice (some ⟨R, 0, none⟩) n n, Value.int .i64 (x : Int), Value.pointer (some ⟨R, x, none⟩), Value.slice (some ⟨B, 0, none⟩) C C, Value.int .i64 (y : Int), Value.pointer (some ⟨B, y, none⟩), Value.int .u64 (q : Int), Value.int .u64 (m : Int), Value.int .u64 (q2 : Int), Value.pointer (some ⟨B, y, none⟩), undef].getD i undef) (fun W => W.setCell ⟨B, y, none⟩ (.int .u64 (q2 : Int))) ⟨?_, ?_, ?_, ?_, ?_, ?_, ?_, ?_, ?_, ?_, ?_, ?_, ?_, ?_, ?_, ?_, trivial⟩ ?_
            · intro m0 b hb
              have e5 : b.tmps[5]?.getD undef = Value.slice (some ⟨R, 0, none⟩) n n := hb 5 rfl
              refine tab_run (by decide) (Value.slice (some ⟨R, 0, none⟩) n n) rfl ?_
              clear hb
              go_simp
            · intro m0 b hb
              have e6 : b.tmps[6]?.getD undef = Value.int .i64 (x : Int) := hb 6 rfl
              refine tab_run (by decide) (Value.int .i64 (x : Int)) rfl ?_
              clear hb
              go_simp
            · intro m0 b hb
              have e45 : b.tmps[45]?.getD undef = Value.slice (some ⟨R, 0, none⟩) n n := hb 45 rfl
              have e46 : b.tmps[46]?.getD undef = Value.int .i64 (x : Int) := hb 46 rfl
              refine tab_run (by decide) (Value.pointer (some ⟨R, x, none⟩)) rfl ?_
              clear hb
              go_simp
            · intro m0 b hb
              have e47 : b.tmps[47]?.getD undef = Value.pointer (some ⟨R, x, none⟩) := hb 47 rfl
              refine tab_run (by decide) (Value.slice (some ⟨B, 0, none⟩) C C) rfl ?_
              clear hb
              go_simp
            · intro m0 b hb
              have e8 : b.tmps[8]?.getD undef = Value.int .i64 (y : Int) := hb 8 rfl
              refine tab_run (by decide) (Value.int .i64 (y : Int)) rfl ?_
              clear hb
              go_simp
            · intro m0 b hb
              have e5 : b.tmps[5]?.getD undef = Value.slice (some ⟨R, 0, none⟩) n n := hb 5 rfl
              refine tab_run (by decide) (Value.slice (some ⟨R, 0, none⟩) n n) rfl ?_
              clear hb
              go_simp
            · intro m0 b hb
              have e6 : b.tmps[6]?.getD undef = Value.int .i64 (x : Int) := hb 6 rfl
              refine tab_run (by decide) (Value.int .i64 (x : Int)) rfl ?_
              clear hb
              go_simp
            · intro m0 b hb
              have e50 : b.tmps[50]?.getD undef = Value.slice (some ⟨R, 0, none⟩) n n := hb 50 rfl
              have e51 : b.tmps[51]?.getD undef = Value.int .i64 (x : Int) := hb 51 rfl
              refine tab_run (by decide) (Value.pointer (some ⟨R, x, none⟩)) rfl ?_
              clear hb
              go_simp
            · intro m0 b hb
              have e52 : b.tmps[52]?.getD undef = Value.pointer (some ⟨R, x, none⟩) := hb 52 rfl
              refine tab_run (by decide) (Value.slice (some ⟨B, 0, none⟩) C C) rfl ?_
              clear hb
              go_simp
            · intro m0 b hb
              have e8 : b.tmps[8]?.getD undef = Value.int .i64 (y : Int) := hb 8 rfl
              refine tab_run (by decide) (Value.int .i64 (y : Int)) rfl ?_
              clear hb
              go_simp
            · intro m0 b hb
              have e53 : b.tmps[53]?.getD undef = Value.slice (some ⟨B, 0, none⟩) C C := hb 53 rfl
              have e54 : b.tmps[54]?.getD undef = Value.int .i64 (y : Int) := hb 54 rfl
              refine tab_run (by decide) (Value.pointer (some ⟨B, y, none⟩)) rfl ?_
              clear hb
              go_simp
            · intro m0 b hb
              have e55 : b.tmps[55]?.getD undef = Value.pointer (some ⟨B, y, none⟩) := hb 55 rfl
              refine tab_run (by decide) (Value.int .u64 (q : Int)) rfl ?_
              clear hb
              go_simp
            · intro m0 b hb
              have e1 : b.tmps[1]?.getD undef = Value.int .u64 (m : Int) := hb 1 rfl
              refine tab_run (by decide) (Value.int .u64 (m : Int)) rfl ?_
              clear hb
              go_simp
            · intro m0 b hb
              have e56 : b.tmps[56]?.getD undef = Value.int .u64 (q : Int) := hb 56 rfl
              have e57 : b.tmps[57]?.getD undef = Value.int .u64 (m : Int) := hb 57 rfl
              refine tab_call (by decide) (Value.int .u64 (q2 : Int)) rfl ?_ ((HSB.out _).mono fun e w' ⟨h, hw⟩ => ⟨0, h, hw.symm⟩)
              clear hb
              go_simp
            · intro m0 b hb
              have e48 : b.tmps[48]?.getD undef = Value.slice (some ⟨B, 0, none⟩) C C := hb 48 rfl
              have e49 : b.tmps[49]?.getD undef = Value.int .i64 (y : Int) := hb 49 rfl
              refine tab_run (by decide) (Value.pointer (some ⟨B, y, none⟩)) rfl ?_
              clear hb
              go_simp
            · intro m0 b hb
              have e58 : b.tmps[58]?.getD undef = Value.int .u64 (q2 : Int) := hb 58 rfl
              have e59 : b.tmps[59]?.getD undef = Value.pointer (some ⟨B, y, none⟩) := hb 59 rfl
              refine tab_store undef rfl _ rfl ?_ rfl
              clear hb
              go_simp
            intro m0
            simp only [putAll, dstOf, Act.put, List.map_cons, List.map_nil, List.setIfInBounds_toArray, List.set_cons_succ, List.set_cons_zero, Nat.reduceAdd, List.getD_cons_succ, List.getD_cons_zero]
            go_wp2_with fail
            go_roundg (C - (y + 1))
            case measure => omega
            case rel => exact ⟨y + 1, by omega, rfl, by go_num, HN.out _ q2 (HQ2.out he) (HO2.out.drewN _) _ (by rw [List.set_set, HQ2.out he]; exact HST.out) HA2.out⟩
          · go_wp2_with fail
            go_roundg (C - (y + 1))
            case measure => omega
            case rel => exact ⟨y + 1, by omega, rfl, by go_num, HN.out _ q (HQ1.out he) (HO.out.drewN _) _ (by rw [HQ1.out he]; exact HST.out) HA.out⟩
        · have z2 : ¬ ((y : Int) < (C : Int)) := by omega
          have hyn : y = C := by omega
          have HY := Lib.hid hyn
          clear hyn
          have HPN := Lib.hid (show PU wp R (bs ++ [B]) C n (resF m (rows.take (x + 1))) by
            rw [HTK.out]
            refine HPU.out.snoc (w' := wp) HBB.out.symm (by rw [HLN.out]; exact hlt) (by simp [resR, HRL.out]) (fun b hb => ?_) ?_ ?_ (by omega)
            · rw [hO.block b (by have := HPU.out.lo b hb; have := HBB.out; omega)]; exact HK7.out b hb
            · exact HR7.out.onl hO lRB
            · rw [← rsP_all, HRL.out, ← HY.out]; exact hA)
          have hb9 : Below w.heap.size w wp := hb7.trans (hO.below (by have := HR.out; omega))
          go_wp2_with fail
          go_roundg (n - (x + 1))
          case measure => omega
          case rel => exact ⟨x + 1, bs ++ [B], by omega, rfl, by go_num, HPN.out, hb9⟩
    · have z1 : ¬ ((x : Int) < (n : Int)) := by omega
      have hxn : x = n := by omega
      have HXN := Lib.hid (show rows.take x = rows by rw [hxn, HNN.out]; simp)
      clear hxn
      go_wp2_with fail
      go_ret
      have hr := HR.out
      clear HR
      subst hr
      refine ⟨rfl, bs, ?_, fun b hb => (hP.lo b hb).1, hB0⟩
      have := hP
      rw [HXN.out] at this
      exact this.mu (by rw [resF_length, HNN.out])
end Go.Proofs.Ytcjaloddgilnpaa

namespace Go.Proofs.Ytcjaloddgilnpaa
set_option linter.unusedVariables false

/-- a row below the pivot's -/
def elR (k : Nat) (piv : List Nat) (r : List Nat) : List Nat := if gn r k = 0 then r else cmb 2305843009213693951 (gn r k * invF (gn piv k) % 2305843009213693951) k r.length piv r
/-- the pivot in its place -/
def elS (A : List (List Nat)) (k x y : Nat) : List (List Nat) := swC (swR A x k) y k
/-- the round for a pivot in its place -/
def elN (A1 : List (List Nat)) (k : Nat) : List (List Nat) := updR A1 (k + 1) A1.length (elR k (gr A1 k))
def elM (mi v e : Nat) : Nat := if e = 1 then (0 + (2305843009213693951 - mi * v % 2305843009213693951)) % 2305843009213693951 else mi * v % 2305843009213693951
def elF (C : Nat) : Nat → List (List Nat) → Nat → Nat → Nat × Nat
  | 0, _, k, mi => (k, mi)
  | f + 1, A, k, mi => match findF A k C with
    | none => (k, mi)
    | some (x, y) => elF C f (elN (elS A k x y) k) (k + 1) (elM mi (ge (elS A k x y) k k) (exN x y k))
def minS (mi : Nat) : Int := if 1152921504606846975 < mi then -((2305843009213693951 - mi : Nat) : Int) else (mi : Int)
theorem elF_none {C f k mi : Nat} {A : List (List Nat)} (h : findF A k C = none) : elF C (f + 1) A k mi = (k, mi) := by
  rw [elF, h]
theorem elF_some {C f k mi x y : Nat} {A : List (List Nat)} (h : findF A k C = some (x, y)) : elF C (f + 1) A k mi = elF C f (elN (elS A k x y) k) (k + 1) (elM mi (ge (elS A k x y) k k) (exN x y k)) := by
  rw [elF, h]
theorem elM_lt (mi v e : Nat) : elM mi v e < 2305843009213693951 := by unfold elM; split <;> exact Nat.mod_lt _ (by omega)
theorem invF_lt (a : Nat) : invF a < 2305843009213693951 := by rw [invF_eq]; exact Nat.mod_lt _ (by decide)
theorem elS_length (A : List (List Nat)) (k x y : Nat) : (elS A k x y).length = A.length := by unfold elS; rw [swC_length, swR_length]
theorem elN_length (A : List (List Nat)) (k : Nat) : (elN A k).length = A.length := updR_length _ _ _ _
theorem Ltm.elS {m C k x y : Nat} {A : List (List Nat)} (h : Ltm m A) (hc : Cl C A) (hm : 0 < m) (hk : k < A.length) (hkC : k < C) (hx : x < A.length) (hy : y < C) : Ltm m (elS A k x y) := by
  unfold Go.Proofs.Ytcjaloddgilnpaa.elS swC
  exact (h.swR hx hk).updR (hc.swR hx hk) hm (swp_small hy hkC)
theorem Cl.elS {C k x y : Nat} {A : List (List Nat)} (hc : Cl C A) (hk : k < A.length) (hx : x < A.length) : Cl C (elS A k x y) := by
  unfold Go.Proofs.Ytcjaloddgilnpaa.elS swC
  exact (hc.swR hx hk).updR (fun r hr => by rw [swp_length]; exact hr)
theorem elR_length (k : Nat) (piv r : List Nat) : (elR k piv r).length = r.length := by unfold elR; split <;> simp [cmb_length]
theorem elR_lt {k : Nat} {piv r : List Nat} (h : ∀ j, gn r j < 2305843009213693951) (j : Nat) : gn (elR k piv r) j < 2305843009213693951 := by
  unfold elR; split
  · exact h j
  · exact gn_mod_lt (by omega) h j
theorem Ltm.elN {C k : Nat} {A : List (List Nat)} (h : Ltm 2305843009213693951 A) (hc : Cl C A) : Ltm 2305843009213693951 (elN A k) := by
  unfold Go.Proofs.Ytcjaloddgilnpaa.elN
  exact h.updR hc (by omega) (fun r _ hr j => elR_lt hr j)
theorem Cl.elN {C k : Nat} {A : List (List Nat)} (hc : Cl C A) : Cl C (elN A k) := by
  unfold Go.Proofs.Ytcjaloddgilnpaa.elN
  exact hc.updR (fun r hr => by rw [elR_length]; exact hr)
theorem elS_pos {C k x y : Nat} {A : List (List Nat)} (hc : Cl C A) (h : findF A k C = some (x, y)) : ge (elS A k x y) k k ≠ 0 := by
  obtain ⟨h1, h2, h3, h4, h5⟩ := findF_some h
  have hk : k < A.length := by omega
  have hl := (hc.swR h2 hk) k (by rw [swR_length]; exact hk)
  unfold elS ge
  rw [gr_swC (by rw [swR_length]; exact hk), gn_swp (by rw [hl]; exact h4) (by rw [hl]; omega), if_pos rfl, gr_swR h2 hk, if_pos rfl]
  exact h5
end Go.Proofs.Ytcjaloddgilnpaa
