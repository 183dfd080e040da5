/- laurent.Poly.Div at a divisor with two or more terms that begins with the coefficient 1. -/
import Derived.Test.YtnmidhlghhephaaGreatDoorWwMua
namespace Go.Proofs.YtnmidhlghhephaaGreatDoor
open Go.RowKit
set_option linter.unusedVariables false
theorem span_q {q : List (Int × Int)} (k : Can q) (h : 2 ≤ q.length) : lowL q < highL q := by
  rw [lowL_0 (l := q) (by omega), highL_0 (l := q) (by omega)]
  exact List.pairwise_iff_getElem.1 k.srt 0 (q.length - 1) (by omega) (by omega) (by omega)
set_option maxHeartbeats 4000000 in
set_option maxRecDepth 100000 in
theorem Div_many (vp vq : Value) (p q : List (Int × Int)) (w : World) (hp : PolyV w vp (some p)) (hq : PolyV w vq (some q)) (lp : Lim p) (kp : Can p) (lq : Lim q) (kq : Can q) (hnp : 0 < p.length) (hnq : 2 ≤ q.length) (hq1 : (q[0]'(by omega)).2 = 1)
    (hB : ∀ i : Nat, (i : Int) ≤ highL p - lowL p - (highL q - lowL q) → -1125899906842624 ≤ RS (cf p) (lowL p) (lowL q) q i (lowL p + i) ∧ RS (cf p) (lowL p) (lowL q) q i (lowL p + i) ≤ 1125899906842624)
    (hBB : ∀ (i : Nat) (e : Int), (i : Int) ≤ highL p - lowL p - (highL q - lowL q) + 1 → -170141183460469231731687303715884105728 < RS (cf p) (lowL p) (lowL q) q i e ∧ RS (cf p) (lowL p) (lowL q) q i e < 170141183460469231731687303715884105728)
    (hX : ∀ i : Nat, (i : Int) ≤ highL p - lowL p - (highL q - lowL q) → -1048576 ≤ lowL p - lowL q + i ∧ lowL p - lowL q + i ≤ 1048576) :
    Calls Tryz.prog 12 #[vp, vq] w (DivR p q w) := by
  have HPV := Lib.hid (fun W (hb : Below w.heap.size w W) => hp.below hb)
  have HQV := Lib.hid (fun W (hb : Below w.heap.size w W) => hq.below hb)
  have HLM := Lib.hid (And.intro (And.intro lp kp) (And.intro lq kq))
  have hp2 := hp
  have hq2 := hq
  obtain ⟨A, c, rfl, hp3⟩ := hp2
  obtain ⟨A2, c2, rfl, hq3⟩ := hq2
  simp only [Option.isNone_some, Option.getD_some] at HPV HQV hp3 hq3 ⊢
  obtain ⟨pb, po, hA, _⟩ := hp3.at_ (k := 0) hnp
  obtain ⟨qb, qo, hA2, _⟩ := hq3.at_ (k := 0) (by omega)
  subst hA hA2
  have HPC := Lib.hid (fun W (hb : Below w.heap.size w W) (k : Nat) (hk : k < p.length) => (hp3.below hb).cells hk)
  have HQC := Lib.hid (fun W (hb : Below w.heap.size w W) (k : Nat) (hk : k < q.length) => (hq3.below hb).cells hk)
  clear hp3 hq3
  have hl1 := lowL_bd lp
  have hl2 := lowL_bd lq
  have hh1 := highL_bd lp
  have hh2 := highL_bd lq
  have hlh := And.intro (lowhigh kp.srt) (lowhigh kq.srt)
  have hlen := And.intro (lp.len kp) (lq.len kq)
  have HRB := Lib.hid hB
  have HRBB := Lib.hid hBB
  have HXX := Lib.hid hX
  have HNN := Lib.hid (And.intro hnp (And.intro hnq hq1))
  have HPI := Lib.hid (show ∀ t ∈ p, lowL p ≤ t.1 ∧ t.1 ≤ highL p from fun t ht => ⟨lowL_le kp.srt t ht, highL_ge kp.srt t ht⟩)
  have HQI := Lib.hid (show ∀ t ∈ q, lowL q ≤ t.1 ∧ t.1 ≤ highL q from fun t ht => ⟨lowL_le kq.srt t ht, highL_ge kq.srt t ht⟩)
  have hspan := span_q kq hnq
  have HPOST := Lib.hid (fun (e : Ending) (w' : World) (hbl : Below w.heap.size w w') (h : (∃ (s : Nat) (v : Value), (s : Int) = highL p - lowL p - (highL q - lowL q) ∧ (∀ j : Nat, s < j → (j : Int) ≤ highL p - lowL p → RS (cf p) (lowL p) (lowL q) q (s + 1) (lowL p + j) = 0) ∧ e = .returned (.tuple #[v, .int .i64 0]) ∧ PolyV w' v (some (rL (cf p) (lowL p) (lowL q) q (s + 1)))) ∨
   (e = .returned (.tuple #[.agg #[.bool false, .slice none 0 0], .int .i64 10]) ∧ ((highL p - lowL p - (highL q - lowL q) < 0) ∨ ∃ (s j : Nat), (s : Int) = highL p - lowL p - (highL q - lowL q) ∧ s < j ∧ (j : Int) ≤ highL p - lowL p ∧ RS (cf p) (lowL p) (lowL q) q (s + 1) (lowL p + j) ≠ 0))) => (show DivR p q w e w' from ⟨hbl, h⟩))
  generalize DivR p q w = Post at HPOST ⊢
  obtain ⟨n, hn⟩ : ∃ n, n = p.length := ⟨_, rfl⟩
  obtain ⟨n2, hn2⟩ : ∃ n, n = q.length := ⟨_, rfl⟩
  rw [← hn] at HPV hlen hnp ⊢
  rw [← hn2] at HQV hlen hnq ⊢
  have HN := Lib.hid (And.intro hn hn2)
  have hW : ∀ W, W = (((w.alloc (.cells #[.bool false, .slice (some ⟨pb, po, none⟩) n c] 34)).alloc (.cells #[.bool false, .slice (some ⟨qb, qo, none⟩) n2 c2] 34)).alloc (.cells #[.bool false, .slice none 0 0] 34)) → Arr W w.heap.size 34 [.bool false, .slice (some ⟨pb, po, none⟩) n c] ∧ Arr W (w.heap.size + 1) 34 [.bool false, .slice (some ⟨qb, qo, none⟩) n2 c2] ∧ Arr W (w.heap.size + 2) 34 [.bool false, .slice none 0 0] ∧ Below w.heap.size w W ∧ W.heap.size = w.heap.size + 3 := by
    intro W hW
    subst hW
    exact ⟨((Arr.new _ _ [_, _]).alloc _).alloc _, (Arr.newAt (w.alloc _) _ [_, _] _ (by simp)).alloc _, Arr.newAt ((w.alloc _).alloc _) _ [_, _] _ (by simp), (((Below.refl _ _).alloc (Nat.le_refl _) _).alloc (by simp) _).alloc (by simp <;> omega) _, by simp⟩
  have zn : ((n : Int) == 0) = false := by simp; omega
  have zn2 : ((n2 : Int) == 0) = false := by simp; omega
  have zn3 : ((n2 : Int) == 1) = false := by simp; omega
  clear hp hq lp kp lq kq hn hn2 hB hBB hX hq1
  go_enter Tryz.func12, Tryz.ntmps12
  go_upto_region 1 with fail
  generalize (((w.alloc (.cells #[.bool false, .slice (some ⟨pb, po, none⟩) n c] 34)).alloc (.cells #[.bool false, .slice (some ⟨qb, qo, none⟩) n2 c2] 34)).alloc (.cells #[.bool false, .slice none 0 0] 34)) = w3 at hW ⊢
  obtain ⟨q0, q1, q2, hb3, hs3⟩ := hW w3 rfl
  clear hW
  have Q0 := Lib.hid q0
  have Q1 := Lib.hid q1
  have Q2 := Lib.hid q2
  have HB3 := Lib.hid hb3
  have HS3 := Lib.hid hs3
  have HLPA := Lib.hid (fun W (hb : Below w.heap.size w W) => Low_any (.agg #[.bool false, .slice (some ⟨pb, po, none⟩) n c]) (some p) W (HPV.out W hb) ⟨HLM.out.1.2, HLM.out.1.1⟩)
  have HLQA := Lib.hid (fun W (hb : Below w.heap.size w W) => Low_any (.agg #[.bool false, .slice (some ⟨qb, qo, none⟩) n2 c2]) (some q) W (HQV.out W hb) ⟨HLM.out.2.2, HLM.out.2.1⟩)
  have HHPA := Lib.hid (fun W (hb : Below w.heap.size w W) => High_any (.agg #[.bool false, .slice (some ⟨pb, po, none⟩) n c]) (some p) W (HPV.out W hb) ⟨HLM.out.1.2, HLM.out.1.1⟩)
  have HHQA := Lib.hid (fun W (hb : Below w.heap.size w W) => High_any (.agg #[.bool false, .slice (some ⟨qb, qo, none⟩) n2 c2]) (some q) W (HQV.out W hb) ⟨HLM.out.2.2, HLM.out.2.1⟩)
  simp only [Option.getD_some] at HLPA HLQA HHPA HHQA
  have y0 := q0.cell 0
  have y1 := q0.cell 1
  have y2 := q1.cell 0
  have y3 := q1.cell 1
  go_upto_region 9 with fail
  obtain ⟨lo1, hlo1⟩ : ∃ x, x = lowL p := ⟨_, rfl⟩
  obtain ⟨lo2, hlo2⟩ : ∃ x, x = lowL q := ⟨_, rfl⟩
  obtain ⟨hi1, hhi1⟩ : ∃ x, x = highL p := ⟨_, rfl⟩
  obtain ⟨hi2, hhi2⟩ : ∃ x, x = highL q := ⟨_, rfl⟩
  simp only [← hlo1, ← hlo2, ← hhi1, ← hhi2] at hl1 hl2 hh1 hh2 hlh HLPA HLQA HHPA HHQA HPI HQI HRB HRBB HXX HPOST hspan
  obtain ⟨d1, hd1⟩ : ∃ x, x = hi1 - lo1 := ⟨_, rfl⟩
  obtain ⟨d2, hd2⟩ : ∃ x, x = hi2 - lo2 := ⟨_, rfl⟩
  obtain ⟨st, hst⟩ : ∃ x, x = d1 - d2 := ⟨_, rfl⟩
  have HW1 := Lib.hid (show IntKind.i64.wrap (hi1 - lo1) = d1 by rw [hd1]; exact IntWalk.i64_in _ (by omega))
  have HW2 := Lib.hid (show IntKind.i64.wrap (hi2 - lo2) = d2 by rw [hd2]; exact IntWalk.i64_in _ (by omega))
  have HW3 := Lib.hid (show IntKind.i64.wrap (d1 - d2) = st by rw [hst]; exact IntWalk.i64_in _ (by omega))
  have HDD := Lib.hid (show d1 = hi1 - lo1 ∧ d2 = hi2 - lo2 ∧ st = d1 - d2 ∧ 0 ≤ d1 ∧ 1 ≤ d2 ∧ d1 ≤ 2097152 ∧ d2 ≤ 2097152 from by omega)
  have HLB := Lib.hid (And.intro (And.intro hl1 hl2) (And.intro hh1 hh2))
  have HLP := Lib.hid (fun W (hb : Below w3.heap.size w3 W) => HLPA.out W (hb3.trans (hb.mono hb3.size)))
  have HLQ := Lib.hid (fun W (hb : Below w3.heap.size w3 W) => HLQA.out W (hb3.trans (hb.mono hb3.size)))
  have HHP := Lib.hid (fun W (hb : Below w3.heap.size w3 W) => HHPA.out W (hb3.trans (hb.mono hb3.size)))
  have HHQ := Lib.hid (fun W (hb : Below w3.heap.size w3 W) => HHQA.out W (hb3.trans (hb.mono hb3.size)))
  have hsr : hi1 - lo1 - (hi2 - lo2) = st := by omega
  rw [hsr] at HPOST HXX HRB HRBB
  clear hlo1 hlo2 hhi1 hhi2 hd1 hd2 hst hsr hl1 hl2 hh1 hh2 hlh hspan q0 q1 q2 hb3 hs3 y0 y1 y2 y3 zn zn2 zn3
  refine wp_region_phy (fun a b => Below a.heap.size a b) (fun h k => h.trans (k.mono h.size)) ((Below.refl _ _).drew) (by kernel_rfl) (by kernel_rfl) (by kernel_rfl) (by kernel_rfl) (phiT (fun i => ([some (.agg #[.bool false, .slice (some ⟨pb, po, none⟩) n c]), some (.int .i64 (hi1)), some (.agg #[.bool false, .slice (some ⟨pb, po, none⟩) n c]), some (.int .i64 (lo1)), some (.int .i64 (d1)), some (.agg #[.bool false, .slice (some ⟨qb, qo, none⟩) n2 c2]), some (.int .i64 (hi2)), some (.agg #[.bool false, .slice (some ⟨qb, qo, none⟩) n2 c2]), some (.int .i64 (lo2)), some (.int .i64 (d2)), some (.int .i64 (st)), some (.int .i64 (st))] : List (Option Value)).getD i none) (fun i v w => True)) (fun i v w w' h hb => ?_) ⟨?_, ?_, ?_, ?_, ?_, ?_, ?_, ?_, ?_, ?_, ?_, ?_, trivial⟩ ?_
  · unfold phiT at h ⊢
    split
    · next u hu => rw [hu] at h; exact h
    · next hu =>
      rw [hu] at h
      exact True.intro
  · intro x w1 bA hT hdep hold hb
    refine .inl ⟨trivial, ?_⟩
    have e2 : bA.tmps[2]?.getD undef = .pointer (some ⟨w.heap.size, 0, none⟩) := hb 2
    have cc0 := (Q0.out.below hT Q0.out.lt).cell 0
    have cc1 := (Q0.out.below hT Q0.out.lt).cell 1
    refine phx_run (.agg #[.bool false, .slice (some ⟨pb, po, none⟩) n c]) ?_ (Below.refl _ _) rfl
    clear hb hdep hold
    go_simp
  · intro x w1 bA hT hdep hold hb
    refine .inl ⟨trivial, ?_⟩
    have e53 : bA.tmps[53]?.getD undef = .agg #[.bool false, .slice (some ⟨pb, po, none⟩) n c] := (hb 53).trans (hdep 0 (by decide))
    refine phx_call ?_ ((HHP.out w1 hT).mono fun e w' h => ⟨_, h.1, h.2, rfl⟩)
    clear hb hdep hold
    go_simp
  · intro x w1 bA hT hdep hold hb
    refine .inl ⟨trivial, ?_⟩
    have e2 : bA.tmps[2]?.getD undef = .pointer (some ⟨w.heap.size, 0, none⟩) := hb 2
    have cc0 := (Q0.out.below hT Q0.out.lt).cell 0
    have cc1 := (Q0.out.below hT Q0.out.lt).cell 1
    refine phx_run (.agg #[.bool false, .slice (some ⟨pb, po, none⟩) n c]) ?_ (Below.refl _ _) rfl
    clear hb hdep hold
    go_simp
  · intro x w1 bA hT hdep hold hb
    refine .inl ⟨trivial, ?_⟩
    have e55 : bA.tmps[55]?.getD undef = .agg #[.bool false, .slice (some ⟨pb, po, none⟩) n c] := (hb 55).trans (hdep 2 (by decide))
    refine phx_call ?_ ((HLP.out w1 hT).mono fun e w' h => ⟨_, h.1, h.2, rfl⟩)
    clear hb hdep hold
    go_simp
  · intro x w1 bA hT hdep hold hb
    refine .inl ⟨trivial, ?_⟩
    have e54 : bA.tmps[54]?.getD undef = .int .i64 (hi1) := (hb 54).trans (hdep 1 (by decide))
    have e56 : bA.tmps[56]?.getD undef = .int .i64 (lo1) := (hb 56).trans (hdep 3 (by decide))
    have cw := HW1.out
    refine phx_run (.int .i64 (d1)) ?_ (Below.refl _ _) rfl
    clear hb hdep hold
    go_simp
  · intro x w1 bA hT hdep hold hb
    refine .inl ⟨trivial, ?_⟩
    have e3 : bA.tmps[3]?.getD undef = .pointer (some ⟨w.heap.size + 1, 0, none⟩) := hb 3
    have cc0 := (Q1.out.below hT Q1.out.lt).cell 0
    have cc1 := (Q1.out.below hT Q1.out.lt).cell 1
    refine phx_run (.agg #[.bool false, .slice (some ⟨qb, qo, none⟩) n2 c2]) ?_ (Below.refl _ _) rfl
    clear hb hdep hold
    go_simp
  · intro x w1 bA hT hdep hold hb
    refine .inl ⟨trivial, ?_⟩
    have e58 : bA.tmps[58]?.getD undef = .agg #[.bool false, .slice (some ⟨qb, qo, none⟩) n2 c2] := (hb 58).trans (hdep 5 (by decide))
    refine phx_call ?_ ((HHQ.out w1 hT).mono fun e w' h => ⟨_, h.1, h.2, rfl⟩)
    clear hb hdep hold
    go_simp
  · intro x w1 bA hT hdep hold hb
    refine .inl ⟨trivial, ?_⟩
    have e3 : bA.tmps[3]?.getD undef = .pointer (some ⟨w.heap.size + 1, 0, none⟩) := hb 3
    have cc0 := (Q1.out.below hT Q1.out.lt).cell 0
    have cc1 := (Q1.out.below hT Q1.out.lt).cell 1
    refine phx_run (.agg #[.bool false, .slice (some ⟨qb, qo, none⟩) n2 c2]) ?_ (Below.refl _ _) rfl
    clear hb hdep hold
    go_simp
  · intro x w1 bA hT hdep hold hb
    refine .inl ⟨trivial, ?_⟩
    have e60 : bA.tmps[60]?.getD undef = .agg #[.bool false, .slice (some ⟨qb, qo, none⟩) n2 c2] := (hb 60).trans (hdep 7 (by decide))
    refine phx_call ?_ ((HLQ.out w1 hT).mono fun e w' h => ⟨_, h.1, h.2, rfl⟩)
    clear hb hdep hold
    go_simp
  · intro x w1 bA hT hdep hold hb
    refine .inl ⟨trivial, ?_⟩
    have e59 : bA.tmps[59]?.getD undef = .int .i64 (hi2) := (hb 59).trans (hdep 6 (by decide))
    have e61 : bA.tmps[61]?.getD undef = .int .i64 (lo2) := (hb 61).trans (hdep 8 (by decide))
    have cw := HW2.out
    refine phx_run (.int .i64 (d2)) ?_ (Below.refl _ _) rfl
    clear hb hdep hold
    go_simp
  · intro x w1 bA hT hdep hold hb
    refine .inl ⟨trivial, ?_⟩
    have e57 : bA.tmps[57]?.getD undef = .int .i64 (d1) := (hb 57).trans (hdep 4 (by decide))
    have e62 : bA.tmps[62]?.getD undef = .int .i64 (d2) := (hb 62).trans (hdep 9 (by decide))
    have cw := HW3.out
    refine phx_run (.int .i64 (st)) ?_ (Below.refl _ _) rfl
    clear hb hdep hold
    go_simp
  · intro x w1 bA hT hdep hold hb
    refine .inl ⟨trivial, ?_⟩
    have e63 : bA.tmps[63]?.getD undef = .int .i64 (st) := (hb 63).trans (hdep 10 (by decide))
    refine phx_run (.int .i64 (st)) ?_ (Below.refl _ _) rfl
    clear hb hdep hold
    go_simp
  intro x w1 hT hall
  have x0e : x 0 = .agg #[.bool false, .slice (some ⟨pb, po, none⟩) n c] := hall 0 (by decide)
  have x1e : x 1 = .int .i64 (hi1) := hall 1 (by decide)
  have x2e : x 2 = .agg #[.bool false, .slice (some ⟨pb, po, none⟩) n c] := hall 2 (by decide)
  have x3e : x 3 = .int .i64 (lo1) := hall 3 (by decide)
  have x4e : x 4 = .int .i64 (d1) := hall 4 (by decide)
  have x5e : x 5 = .agg #[.bool false, .slice (some ⟨qb, qo, none⟩) n2 c2] := hall 5 (by decide)
  have x6e : x 6 = .int .i64 (hi2) := hall 6 (by decide)
  have x7e : x 7 = .agg #[.bool false, .slice (some ⟨qb, qo, none⟩) n2 c2] := hall 7 (by decide)
  have x8e : x 8 = .int .i64 (lo2) := hall 8 (by decide)
  have x9e : x 9 = .int .i64 (d2) := hall 9 (by decide)
  have x10e : x 10 = .int .i64 (st) := hall 10 (by decide)
  have x11e : x 11 = .int .i64 (st) := hall 11 (by decide)
  simp only [putAll, dstOf, Act.put, List.map_cons, List.map_nil, List.setIfInBounds_toArray, List.set_cons_succ, List.set_cons_zero, Nat.reduceAdd, x0e, x1e, x2e, x3e, x4e, x5e, x6e, x7e, x8e, x9e, x10e, x11e]
  clear x0e x1e x2e x3e x4e x5e x6e x7e x8e x9e x10e x11e hall
  have HB4 := Lib.hid (HB3.out.trans (hT.mono HB3.out.size))
  have Q4 := Lib.hid (Q0.out.below hT Q0.out.lt)
  have Q5 := Lib.hid (Q1.out.below hT Q1.out.lt)
  have Q6 := Lib.hid (Q2.out.below hT Q2.out.lt)
  have HS4 := Lib.hid (show w.heap.size + 3 ≤ w1.heap.size by have := hT.size; have := HS3.out; omega)
  clear hT Q0 Q1 Q2 HB3 HS3 HLP HLQ HHP HHQ
  obtain ⟨w4, rfl⟩ : ∃ z, z = w1 := ⟨_, rfl⟩
  by_cases hst : st < 0
  · have qr := Q6.out
    have f0 := qr.frozen 0
    have f1 := qr.frozen 1
    have x0 := qr.cell 0
    have x1 := qr.cell 1
    have HRS := Lib.hid ((qr.set 0 (.bool false)).set 1 (.slice none 0 0))
    have HBE := Lib.hid ((HB4.out.setCell (p := ⟨w.heap.size + 2, 0, none⟩) (by show w.heap.size ≤ w.heap.size + 2; omega) (.bool false)).setCell (p := ⟨w.heap.size + 2, 1, none⟩) (by show w.heap.size ≤ w.heap.size + 2; omega) (.slice none 0 0))
    have HP := Lib.hid (fun w' hb => HPOST.out (.returned (.tuple #[.agg #[.bool false, .slice none 0 0], .int .i64 10])) w' hb (.inr ⟨rfl, .inl hst⟩))
    clear qr HPOST
    go_wp2_with fail
    refine bodyPost_ret (v := .tuple #[.agg #[.bool false, .slice none 0 0], .int .i64 10]) (results_ct Tryz.results12 _ _ (w.heap.size + 2) 34 _ _ rfl HRS.out Tryz.underlying34 rfl info_poly) rfl ?_
    exact HP.out _ HBE.out
  · obtain ⟨N, hN⟩ : ∃ N : Nat, (N : Int) = d1 + 1 := ⟨(d1 + 1).toNat, by have := HDD.out; omega⟩
    obtain ⟨sn, hsn⟩ : ∃ s : Nat, (s : Int) = st := ⟨st.toNat, by omega⟩
    have HNB := Lib.hid (show N ≤ 10000000 by have := HDD.out; omega)
    have HND := Lib.hid (And.intro hN hsn)
    have HW4 := Lib.hid (show IntKind.i64.wrap (d1 + 1) = (N : Int) by rw [hN]; exact IntWalk.i64_in _ (by have := HDD.out; omega))
    have HLP4 := Lib.hid (fun W (hb : Below w4.heap.size w4 W) => HLPA.out W (HB4.out.trans (hb.mono HB4.out.size)))
    have HHP4 := Lib.hid (fun W (hb : Below w4.heap.size w4 W) => HHPA.out W (HB4.out.trans (hb.mono HB4.out.size)))
    clear hN hsn
    go_upto_region 12 with fail
    clear hst
    refine wp_region_phy (fun a b => Below a.heap.size a b) (fun h k => h.trans (k.mono h.size)) ((Below.refl _ _).drew) (by kernel_rfl) (by kernel_rfl) (by kernel_rfl) (by kernel_rfl) (phiT (fun i => ([some (.agg #[.bool false, .slice (some ⟨pb, po, none⟩) n c]), some (.int .i64 (hi1)), some (.agg #[.bool false, .slice (some ⟨pb, po, none⟩) n c]), some (.int .i64 (lo1)), some (.int .i64 (d1)), some (.int .i64 ((N : Int))), none, none] : List (Option Value)).getD i none) (fun i v w => (if i = 6 then (fun v w => ∃ g, v = .slice (some ⟨g, 0, none⟩) N N ∧ w4.heap.size ≤ g ∧ Arr w g 61 (wrow (cf []) lo1 N)) v w else (if i = 7 then (fun v w => ∃ g, v = .slice (some ⟨g, 0, none⟩) N N ∧ w4.heap.size ≤ g ∧ Arr w g 61 (wrow (cf []) lo1 N)) v w else True)))) (fun i v w w' h hb => ?_) ⟨?_, ?_, ?_, ?_, ?_, ?_, ?_, ?_, trivial⟩ ?_
    · unfold phiT at h ⊢
      split
      · next u hu => rw [hu] at h; exact h
      · next hu =>
        rw [hu] at h
        simp only at h ⊢
        by_cases q6 : i = 6
        · rw [if_pos q6] at h ⊢; exact by obtain ⟨g, h1, h2, h3⟩ := h; exact ⟨g, h1, h2, h3.below hb h3.lt⟩
        · rw [if_neg q6] at h ⊢
          by_cases q7 : i = 7
          · rw [if_pos q7] at h ⊢; exact by obtain ⟨g, h1, h2, h3⟩ := h; exact ⟨g, h1, h2, h3.below hb h3.lt⟩
          · rw [if_neg q7] at h ⊢
            trivial
    · intro x w1 bA hT hdep hold hb
      refine .inl ⟨trivial, ?_⟩
      have e2 : bA.tmps[2]?.getD undef = .pointer (some ⟨w.heap.size, 0, none⟩) := hb 2
      have cc0 := (Q4.out.below hT Q4.out.lt).cell 0
      have cc1 := (Q4.out.below hT Q4.out.lt).cell 1
      refine phx_run (.agg #[.bool false, .slice (some ⟨pb, po, none⟩) n c]) ?_ (Below.refl _ _) rfl
      clear hb hdep hold
      go_simp
    · intro x w1 bA hT hdep hold hb
      refine .inl ⟨trivial, ?_⟩
      have e67 : bA.tmps[67]?.getD undef = .agg #[.bool false, .slice (some ⟨pb, po, none⟩) n c] := (hb 67).trans (hdep 0 (by decide))
      refine phx_call ?_ ((HHP4.out w1 hT).mono fun e w' h => ⟨_, h.1, h.2, rfl⟩)
      clear hb hdep hold
      go_simp
    · intro x w1 bA hT hdep hold hb
      refine .inl ⟨trivial, ?_⟩
      have e2 : bA.tmps[2]?.getD undef = .pointer (some ⟨w.heap.size, 0, none⟩) := hb 2
      have cc0 := (Q4.out.below hT Q4.out.lt).cell 0
      have cc1 := (Q4.out.below hT Q4.out.lt).cell 1
      refine phx_run (.agg #[.bool false, .slice (some ⟨pb, po, none⟩) n c]) ?_ (Below.refl _ _) rfl
      clear hb hdep hold
      go_simp
    · intro x w1 bA hT hdep hold hb
      refine .inl ⟨trivial, ?_⟩
      have e69 : bA.tmps[69]?.getD undef = .agg #[.bool false, .slice (some ⟨pb, po, none⟩) n c] := (hb 69).trans (hdep 2 (by decide))
      refine phx_call ?_ ((HLP4.out w1 hT).mono fun e w' h => ⟨_, h.1, h.2, rfl⟩)
      clear hb hdep hold
      go_simp
    · intro x w1 bA hT hdep hold hb
      refine .inl ⟨trivial, ?_⟩
      have e68 : bA.tmps[68]?.getD undef = .int .i64 (hi1) := (hb 68).trans (hdep 1 (by decide))
      have e70 : bA.tmps[70]?.getD undef = .int .i64 (lo1) := (hb 70).trans (hdep 3 (by decide))
      have cw := HW1.out
      refine phx_run (.int .i64 (d1)) ?_ (Below.refl _ _) rfl
      clear hb hdep hold
      go_simp
    · intro x w1 bA hT hdep hold hb
      refine .inl ⟨trivial, ?_⟩
      have e71 : bA.tmps[71]?.getD undef = .int .i64 (d1) := (hb 71).trans (hdep 4 (by decide))
      have cw := HW4.out
      refine phx_run (.int .i64 ((N : Int))) ?_ (Below.refl _ _) rfl
      clear hb hdep hold
      go_simp
    · intro x w1 bA hT hdep hold hb
      refine .inl ⟨trivial, ?_⟩
      have e72 : bA.tmps[72]?.getD undef = .int .i64 ((N : Int)) := (hb 72).trans (hdep 5 (by decide))
      have hmk := run_make_wide lo1 N HNB.out w1
      refine phx_make (.slice (some ⟨w1.heap.size, 0, none⟩) N N) (w1.alloc (.cells (rowOf (wrow (cf []) lo1 N)) 61)) ?_ ((Below.refl _ _).alloc (Nat.le_refl _) _) (⟨w1.heap.size, rfl, hT.size, Arr.new _ _ _⟩)
      clear hb hdep hold
      go_simp
    · intro x w1 bA hT hdep hold hb
      refine .inl ⟨trivial, ?_⟩
      have p73 := hdep 6 (by decide)
      have e73 : bA.tmps[73]?.getD undef = x 6 := hb 73
      generalize x 6 = x73 at *
      have P73 := Lib.hid (show (fun v w => ∃ g, v = .slice (some ⟨g, 0, none⟩) N N ∧ w4.heap.size ≤ g ∧ Arr w g 61 (wrow (cf []) lo1 N)) x73 w1 from p73)
      clear p73
      refine phx_run (x73) ?_ (Below.refl _ _) (P73.out)
      clear hb hdep hold
      go_simp
    intro x w1 hT hall
    have x0e : x 0 = .agg #[.bool false, .slice (some ⟨pb, po, none⟩) n c] := hall 0 (by decide)
    have x1e : x 1 = .int .i64 (hi1) := hall 1 (by decide)
    have x2e : x 2 = .agg #[.bool false, .slice (some ⟨pb, po, none⟩) n c] := hall 2 (by decide)
    have x3e : x 3 = .int .i64 (lo1) := hall 3 (by decide)
    have x4e : x 4 = .int .i64 (d1) := hall 4 (by decide)
    have x5e : x 5 = .int .i64 ((N : Int)) := hall 5 (by decide)
    have p73 := hall 6 (by decide)
    have p7 := hall 7 (by decide)
    simp only [putAll, dstOf, Act.put, List.map_cons, List.map_nil, List.setIfInBounds_toArray, List.set_cons_succ, List.set_cons_zero, Nat.reduceAdd, x0e, x1e, x2e, x3e, x4e, x5e]
    clear x0e x1e x2e x3e x4e x5e hall
    obtain ⟨gb, e7, hg7, a7⟩ := p7
    rw [e7]
    have HLP1 := Lib.hid (HLM.out.1.1.len HLM.out.1.2)
    have HD1 := Lib.hid (show DvR w gb lo1 N [.bool false, .slice (some ⟨pb, po, none⟩) n c] [.bool false, .slice (some ⟨qb, qo, none⟩) n2 c2] (cf (p.take 0)) w1 from ⟨by rw [List.take_zero]; exact a7, Q4.out.below hT Q4.out.lt, Q5.out.below hT Q5.out.lt, Q6.out.below hT Q6.out.lt, HB4.out.trans (hT.mono HB4.out.size), by have := HS4.out; omega⟩)
    have HNN2 := Lib.hid HN.out
    have y0 := HD1.out.pp.cell 0
    have y1 := HD1.out.pp.cell 1
    clear e7 hg7 a7 p73 hT HLP4 HHP4 HW4
    go_upto_region 14 with fail
    go_loopg [9, 77] n (fun gk s9 s77 wr => ∃ k : Nat, k ≤ n ∧ gk = n - k ∧ s77 = .int .i64 (k : Int) ∧ DvR w gb lo1 N [.bool false, .slice (some ⟨pb, po, none⟩) n c] [.bool false, .slice (some ⟨qb, qo, none⟩) n2 c2] (cf (p.take k)) wr)
    case atStart => exact ⟨0, Nat.zero_le _, rfl, rfl, HD1.out⟩
    case round =>
      clear HD1 y0 y1
      obtain ⟨k, hk, rfl, rfl, hd⟩ := hrel
      by_cases hlt : k < n
      · have z1 : (k : Int) < (n : Int) := by omega
        have hkp : k < p.length := by rw [← HNN2.out.1]; exact hlt
        have HDW := Lib.hid hd
        obtain ⟨c0, c1⟩ := HPC.out wr hd.bel k hkp
        obtain ⟨te, hte⟩ : ∃ x, x = p[k].1 := ⟨_, rfl⟩
        obtain ⟨tcc, htc⟩ : ∃ x, x = p[k].2 := ⟨_, rfl⟩
        have hin := HPI.out p[k] (List.getElem_mem hkp)
        have hco := HLM.out.1.1.co p[k] (List.getElem_mem hkp)
        rw [← hte] at hin
        rw [← htc] at hco
        rw [← hte] at c0
        rw [← htc] at c1
        obtain ⟨m, hm⟩ : ∃ m : Nat, (m : Int) = te - lo1 := ⟨(te - lo1).toNat, by omega⟩
        have HMN := Lib.hid (show m < N by have := HDD.out; have := HND.out; omega)
        have HMI := Lib.hid (show (m : Int) < (N : Int) by have := HMN.out; omega)
        have HWM := Lib.hid (show IntKind.i64.wrap (te - lo1) = (m : Int) by rw [hm]; exact IntWalk.i64_in _ (by have := HLB.out; have := HDD.out; omega))
        have HWI := Lib.hid (fun W => widen_any tcc W (by omega) (by omega))
        unfold wv at HWI
        have HPUT := Lib.hid (fun W (h : DvR w gb lo1 N [.bool false, .slice (some ⟨pb, po, none⟩) n c] [.bool false, .slice (some ⟨qb, qo, none⟩) n2 c2] (cf (p.take k)) W) => (show DvR w gb lo1 N [.bool false, .slice (some ⟨pb, po, none⟩) n c] [.bool false, .slice (some ⟨qb, qo, none⟩) n2 c2] (cf (p.take (k + 1))) ((W.setCell ⟨gb, m * 2, none⟩ (.int .u64 ((hiN (rs tcc) : Nat) : Int))).setCell ⟨gb, m * 2 + 1, none⟩ (.int .u64 ((loN (rs tcc) : Nat) : Int))) from by
          have hv : tcc = cf (p.take (k + 1)) (lo1 + (m : Int)) := by rw [show lo1 + (m : Int) = p[k].1 by omega, cf_take_at HLM.out.1.2.srt hkp, htc]
          rw [hv]
          exact h.put HMN.out (fun j hj hjm => cf_take_ne hkp (by omega))))
        have hX9 : ∀ W, W = wr.alloc (.cells #[.int .i64 te, .int .i64 tcc] 51) → Arr W wr.heap.size 51 [.int .i64 te, .int .i64 tcc] ∧ DvR w gb lo1 N [.bool false, .slice (some ⟨pb, po, none⟩) n c] [.bool false, .slice (some ⟨qb, qo, none⟩) n2 c2] (cf (p.take k)) W := by
          intro W hW
          subst hW
          exact ⟨Arr.new wr _ [_, _], HDW.out.below ((Below.refl _ _).alloc (Nat.le_refl _) _)⟩
        clear hd hkp hin hco hte htc hm
        go_upto_region 16 with fail
        generalize wr.alloc (.cells #[.int .i64 te, .int .i64 tcc] 51) = w9 at hX9 ⊢
        obtain ⟨qt, hd9⟩ := hX9 w9 rfl
        generalize wr.heap.size = tb at qt ⊢
        have QT := Lib.hid qt
        have HD := Lib.hid hd9
        clear hX9 qt hd9 HDW z1 c0 c1
        refine wp_region_phx (fun a b => Below a.heap.size a b) (fun h k => h.trans (k.mono h.size)) ((Below.refl _ _).drew) 10 (by kernel_rfl) (by kernel_rfl) (by kernel_rfl) (by kernel_rfl) rfl (by kernel_rfl) (phiT (fun i => ([some (.slice (some ⟨gb, 0, none⟩) N N), some (.pointer (some ⟨tb, 0, none⟩)), some (.int .i64 (te)), some (.agg #[.bool false, .slice (some ⟨pb, po, none⟩) n c]), some (.int .i64 (lo1)), some (.int .i64 ((m : Int))), some (.pointer (some ⟨tb, 1, none⟩)), some (.int .i64 (tcc)), some (.agg #[.int .u64 ((hiN (rs (tcc)) : Nat) : Int), .int .u64 ((loN (rs (tcc)) : Nat) : Int)]), some (.pointer (some ⟨gb, m * 2, none⟩)), some (undef)] : List (Option Value)).getD i none) (fun i v w => True)) (fun i v w w' h hb => ?_) (fun _ W => DvR w gb lo1 N [.bool false, .slice (some ⟨pb, po, none⟩) n c] [.bool false, .slice (some ⟨qb, qo, none⟩) n2 c2] (cf (p.take (k + 1))) W) ⟨?_, ?_, ?_, ?_, ?_, ?_, ?_, ?_, ?_, ?_, ?_, trivial⟩ ?_
        · unfold phiT at h ⊢
          split
          · next u hu => rw [hu] at h; exact h
          · next hu =>
            rw [hu] at h
            exact True.intro
        · intro x w1 bA hT hdep hold hb
          refine ⟨fun _ => ?_, fun h => absurd h (by decide)⟩
          refine .inl ⟨trivial, ?_⟩
          have e7 : bA.tmps[7]?.getD undef = .slice (some ⟨gb, 0, none⟩) N N := hb 7
          refine phx_run (.slice (some ⟨gb, 0, none⟩) N N) ?_ (Below.refl _ _) rfl
          clear hb hdep hold
          go_simp
        · intro x w1 bA hT hdep hold hb
          refine ⟨fun _ => ?_, fun h => absurd h (by decide)⟩
          refine .inl ⟨trivial, ?_⟩
          have e9 : bA.tmps[9]?.getD undef = .pointer (some ⟨tb, 0, none⟩) := hb 9
          refine phx_run (.pointer (some ⟨tb, 0, none⟩)) ?_ (Below.refl _ _) rfl
          clear hb hdep hold
          go_simp
        · intro x w1 bA hT hdep hold hb
          refine ⟨fun _ => ?_, fun h => absurd h (by decide)⟩
          refine .inl ⟨trivial, ?_⟩
          have e82 : bA.tmps[82]?.getD undef = .pointer (some ⟨tb, 0, none⟩) := (hb 82).trans (hdep 1 (by decide))
          have cc0 := (QT.out.below hT QT.out.lt).cell 0
          have cc1 := (QT.out.below hT QT.out.lt).cell 1
          refine phx_run (.int .i64 (te)) ?_ (Below.refl _ _) rfl
          clear hb hdep hold
          go_simp
        · intro x w1 bA hT hdep hold hb
          refine ⟨fun _ => ?_, fun h => absurd h (by decide)⟩
          refine .inl ⟨trivial, ?_⟩
          have e2 : bA.tmps[2]?.getD undef = .pointer (some ⟨w.heap.size, 0, none⟩) := hb 2
          have cc0 := (HD.out.below hT).pp.cell 0
          have cc1 := (HD.out.below hT).pp.cell 1
          refine phx_run (.agg #[.bool false, .slice (some ⟨pb, po, none⟩) n c]) ?_ (Below.refl _ _) rfl
          clear hb hdep hold
          go_simp
        · intro x w1 bA hT hdep hold hb
          refine ⟨fun _ => ?_, fun h => absurd h (by decide)⟩
          refine .inl ⟨trivial, ?_⟩
          have e84 : bA.tmps[84]?.getD undef = .agg #[.bool false, .slice (some ⟨pb, po, none⟩) n c] := (hb 84).trans (hdep 3 (by decide))
          refine phx_call ?_ ((HLPA.out w1 (HD.out.below hT).bel).mono fun e w' h => ⟨_, h.1, h.2, rfl⟩)
          clear hb hdep hold
          go_simp
        · intro x w1 bA hT hdep hold hb
          refine ⟨fun _ => ?_, fun h => absurd h (by decide)⟩
          refine .inl ⟨trivial, ?_⟩
          have e83 : bA.tmps[83]?.getD undef = .int .i64 (te) := (hb 83).trans (hdep 2 (by decide))
          have e85 : bA.tmps[85]?.getD undef = .int .i64 (lo1) := (hb 85).trans (hdep 4 (by decide))
          have cw := HWM.out
          refine phx_run (.int .i64 ((m : Int))) ?_ (Below.refl _ _) rfl
          clear hb hdep hold
          go_simp
        · intro x w1 bA hT hdep hold hb
          refine ⟨fun _ => ?_, fun h => absurd h (by decide)⟩
          refine .inl ⟨trivial, ?_⟩
          have e9 : bA.tmps[9]?.getD undef = .pointer (some ⟨tb, 0, none⟩) := hb 9
          refine phx_run (.pointer (some ⟨tb, 1, none⟩)) ?_ (Below.refl _ _) rfl
          clear hb hdep hold
          go_simp
        · intro x w1 bA hT hdep hold hb
          refine ⟨fun _ => ?_, fun h => absurd h (by decide)⟩
          refine .inl ⟨trivial, ?_⟩
          have e87 : bA.tmps[87]?.getD undef = .pointer (some ⟨tb, 1, none⟩) := (hb 87).trans (hdep 6 (by decide))
          have cc0 := (QT.out.below hT QT.out.lt).cell 0
          have cc1 := (QT.out.below hT QT.out.lt).cell 1
          refine phx_run (.int .i64 (tcc)) ?_ (Below.refl _ _) rfl
          clear hb hdep hold
          go_simp
        · intro x w1 bA hT hdep hold hb
          refine ⟨fun _ => ?_, fun h => absurd h (by decide)⟩
          refine .inl ⟨trivial, ?_⟩
          have e88 : bA.tmps[88]?.getD undef = .int .i64 (tcc) := (hb 88).trans (hdep 7 (by decide))
          refine phx_call ?_ ((HWI.out w1).mono fun e w' h => ⟨_, h.1, h.2, rfl⟩)
          clear hb hdep hold
          go_simp
        · intro x w1 bA hT hdep hold hb
          refine ⟨fun _ => ?_, fun h => absurd h (by decide)⟩
          refine .inl ⟨trivial, ?_⟩
          have e81 : bA.tmps[81]?.getD undef = .slice (some ⟨gb, 0, none⟩) N N := (hb 81).trans (hdep 0 (by decide))
          have e86 : bA.tmps[86]?.getD undef = .int .i64 ((m : Int)) := (hb 86).trans (hdep 5 (by decide))
          have hmn := HMN.out
          have hmn2 := HMI.out
          refine phx_run (.pointer (some ⟨gb, m * 2, none⟩)) ?_ (Below.refl _ _) rfl
          clear hb hdep hold
          go_simp
        · intro x w1 bA hT hdep hold hb
          refine ⟨fun h => absurd h (by decide), fun _ hall => ?_⟩
          refine ⟨trivial, ?_⟩
          have e89 : bA.tmps[89]?.getD undef = .agg #[.int .u64 ((hiN (rs (tcc)) : Nat) : Int), .int .u64 ((loN (rs (tcc)) : Nat) : Int)] := (hb 89).trans (hdep 8 (by decide))
          have e90 : bA.tmps[90]?.getD undef = .pointer (some ⟨gb, m * 2, none⟩) := (hb 90).trans (hdep 9 (by decide))
          clear hb hdep hold
          have e90 := e90
          have HR := Lib.hid (HD.out.below hT)
          have rr0 := HR.out.row.cell (m * 2)
          have rr1 := HR.out.row.cell (m * 2 + 1)
          rw [(wrow_get _ lo1 N m HMN.out).1] at rr0
          rw [(wrow_get _ lo1 N m HMN.out).2] at rr1
          have f0 := HR.out.row.frozen (m * 2)
          have f1 := HR.out.row.frozen (m * 2 + 1)
          refine phx_st (R := DvR w gb lo1 N [.bool false, .slice (some ⟨pb, po, none⟩) n c] [.bool false, .slice (some ⟨qb, qo, none⟩) n2 c2] (cf (p.take (k + 1)))) ((w1.setCell ⟨gb, m * 2, none⟩ (.int .u64 ((hiN (rs tcc) : Nat) : Int))).setCell ⟨gb, m * 2 + 1, none⟩ (.int .u64 ((loN (rs tcc) : Nat) : Int))) ?_ rfl (HPUT.out w1 HR.out)
          clear HR
          go_simp
        intro x9 w8 hR
        have HR := Lib.hid hR
        clear hR QT HD HPUT HWI HWM HMI HMN
        simp only [putAll, dstOf, Act.put, List.map_cons, List.map_nil, List.setIfInBounds_toArray, List.set_cons_succ, List.set_cons_zero, Nat.reduceAdd]
        go_wp2_with fail
        go_roundg (n - (k + 1))
        case measure => omega
        case rel => exact ⟨k + 1, by omega, rfl, by go_num, HR.out⟩
      · have z1 : ¬ (k : Int) < (n : Int) := by omega
        obtain rfl : k = n := by omega
        have HDP := Lib.hid (show DvR w gb lo1 N [.bool false, .slice (some ⟨pb, po, none⟩) k c] [.bool false, .slice (some ⟨qb, qo, none⟩) n2 c2] (RS (cf p) lo1 lo2 q 0) wr from by
          have e : p.take k = p := by rw [HNN2.out.1]; exact List.take_length
          rw [e] at hd
          exact hd)
        clear hd hk
        go_upto_region 19 with fail
        have hWS : ∀ W, W = wr.alloc (.cells #[.bool false, .slice none 0 0] 34) → DvS w gb wr.heap.size (wr.heap.size + 1) lo1 N [.bool false, .slice (some ⟨pb, po, none⟩) k c] [.bool false, .slice (some ⟨qb, qo, none⟩) n2 c2] (RS (cf p) lo1 lo2 q 0) (.slice none 0 0) (rL (cf p) lo1 lo2 q 0) W := by
          intro W hW
          subst hW
          exact ⟨HDP.out.below ((Below.refl _ _).alloc (Nat.le_refl _) _), OwnT.nil _ _, Arr.new wr _ [_, _], HDP.out.row.lt, by omega, by simp⟩
        generalize wr.alloc (.cells #[.bool false, .slice none 0 0] 34) = w10 at hWS ⊢
        have HDS := Lib.hid (hWS w10 rfl)
        generalize wr.heap.size = rb at HDS ⊢
        clear hWS HDP
        have zst : IntKind.i64.wrap (st + 1) = ((sn + 1 : Nat) : Int) := by rw [← HND.out.2]; exact IntWalk.i64_in _ (by have := HDD.out; have := HND.out; omega)
        go_upto_region 20 with fail
        go_loopg [11, 12, 13, 14, 16, 17, 94] (sn + 1) (fun gk s11 s12 s13 s14 s16 s17 s94 wr => ∃ (ix : Nat) (s : Value), ix ≤ sn + 1 ∧ gk = sn + 1 - ix ∧ s94 = .int .i64 (ix : Int) ∧ DvS w gb rb (rb + 1) lo1 N [.bool false, .slice (some ⟨pb, po, none⟩) k c] [.bool false, .slice (some ⟨qb, qo, none⟩) n2 c2] (RS (cf p) lo1 lo2 q ix) s (rL (cf p) lo1 lo2 q ix) wr)
        case atStart => exact ⟨0, _, Nat.zero_le _, rfl, rfl, HDS.out⟩
        case round =>
          clear HDS zst
          obtain ⟨ix, s, hi, rfl, rfl, hds⟩ := hrel
          have hib : ix ≤ 10000000 := by have := HNB.out; have := HND.out; have := HDD.out; omega
          by_cases hlt : ix < sn + 1
          · have z1 : (ix : Int) < ((sn + 1 : Nat) : Int) := by omega
            have HIN := Lib.hid (show ix < N by have := HDD.out; have := HND.out; omega)
            have zin : (ix : Int) < (N : Int) := by have := HIN.out; omega
            obtain ⟨v, hv⟩ : ∃ v, v = RS (cf p) lo1 lo2 q ix (lo1 + (ix : Int)) := ⟨_, rfl⟩
            have rr0 := hds.r.row.cell (ix * 2)
            have rr1 := hds.r.row.cell (ix * 2 + 1)
            rw [(wrow_get _ lo1 N ix HIN.out).1, ← hv] at rr0
            rw [(wrow_get _ lo1 N ix HIN.out).2, ← hv] at rr1
            have HVB := Lib.hid (show -1125899906842624 ≤ v ∧ v ≤ 1125899906842624 by rw [hv]; exact HRB.out ix (by have := HND.out; omega))
            have HZC := Lib.hid (fun W => wzero_any v W (by have := HVB.out; omega) (by have := HVB.out; omega))
            unfold wv at HZC
            have HV := Lib.hid hv
            have HDS := Lib.hid hds
            clear hds hv
            go_wp2_with fail
            refine (HZC.out _).mono ?_
            rintro e w11 ⟨rfl, hb11⟩
            have HDS2 := Lib.hid (HDS.out.below hb11)
            clear HZC HDS hb11 rr0 rr1
            by_cases h0 : v = 0
            · have zd : decide (v = 0) = true := decide_eq_true h0
              have HNX := Lib.hid (show DvS w gb rb (rb + 1) lo1 N [.bool false, .slice (some ⟨pb, po, none⟩) k c] [.bool false, .slice (some ⟨qb, qo, none⟩) n2 c2] (RS (cf p) lo1 lo2 q (ix + 1)) s (rL (cf p) lo1 lo2 q (ix + 1)) w11 from by
                have hv := HV.out
                have e1 : RS (cf p) lo1 lo2 q (ix + 1) = RS (cf p) lo1 lo2 q ix := funext fun e => by
                  rw [RS, ← hv, h0, Int.zero_mul, Int.sub_zero]
                have e2 : rL (cf p) lo1 lo2 q (ix + 1) = rL (cf p) lo1 lo2 q ix := by
                  rw [rL, if_pos (by rw [← hv]; exact h0)]
                rw [e1, e2]
                exact HDS2.out)
              clear HDS2 h0 HV HVB
              go_wp2_with fail
              go_roundg (sn + 1 - (ix + 1))
              case measure => omega
              case rel => exact ⟨ix + 1, s, by omega, rfl, by go_num, HNX.out⟩
            · have zd : decide (v = 0) = false := decide_eq_false h0
              go_upto_region 23 with fail
              clear zd
              have HN2P := Lib.hid (show n2 ≠ 0 by omega)
              have HQ1C := Lib.hid (fun W (hb : Below w.heap.size w W) => (show W.cell? ⟨qb, qo + 1, none⟩ = some (.int .i64 1) from by
                have h := (HQC.out W hb 0 (by have := HNN.out.2.1; omega)).2
                rw [HNN.out.2.2] at h
                simpa using h))
              have HQU := Lib.hid (fun W => wquot1_any v W HVB.out.1 HVB.out.2)
              unfold wv at HQU
              refine wp_region_phy (fun a b => Below a.heap.size a b) (fun h k => h.trans (k.mono h.size)) ((Below.refl _ _).drew) (by kernel_rfl) (by kernel_rfl) (by kernel_rfl) (by kernel_rfl) (phiT (fun i => ([some (.slice (some ⟨gb, 0, none⟩) N N), some (.int .i64 (ix : Int)), some (.pointer (some ⟨gb, ix * 2, none⟩)), some (.agg #[.int .u64 ((hiN (rs (v)) : Nat) : Int), .int .u64 ((loN (rs (v)) : Nat) : Int)]), some (.pointer (some ⟨w.heap.size + 1, 1, none⟩)), some (.slice (some ⟨qb, qo, none⟩) n2 c2), some (.pointer (some ⟨qb, qo, none⟩)), some (.pointer (some ⟨qb, qo + 1, none⟩)), some (.int .i64 (1)), some (.tuple #[.int .i64 v, .bool true]), some (.tuple #[.int .i64 v, .bool true]), some (.int .i64 (v)), some (.bool true), some (.int .i64 (v)), some (.bool true)] : List (Option Value)).getD i none) (fun i v w => True)) (fun i v w w' h hb => ?_) ⟨?_, ?_, ?_, ?_, ?_, ?_, ?_, ?_, ?_, ?_, ?_, ?_, ?_, ?_, ?_, trivial⟩ ?_
              · unfold phiT at h ⊢
                split
                · next u hu => rw [hu] at h; exact h
                · next hu =>
                  rw [hu] at h
                  exact True.intro
              · intro x w1 bA hT hdep hold hb
                refine .inl ⟨trivial, ?_⟩
                have e7 : bA.tmps[7]?.getD undef = .slice (some ⟨gb, 0, none⟩) N N := hb 7
                refine phx_run (.slice (some ⟨gb, 0, none⟩) N N) ?_ (Below.refl _ _) rfl
                clear hb hdep hold
                go_simp
              · intro x w1 bA hT hdep hold hb
                refine .inl ⟨trivial, ?_⟩
                have e11 : bA.tmps[11]?.getD undef = .int .i64 (ix : Int) := hb 11
                refine phx_run (.int .i64 (ix : Int)) ?_ (Below.refl _ _) rfl
                clear hb hdep hold
                go_simp
              · intro x w1 bA hT hdep hold hb
                refine .inl ⟨trivial, ?_⟩
                have e103 : bA.tmps[103]?.getD undef = .slice (some ⟨gb, 0, none⟩) N N := (hb 103).trans (hdep 0 (by decide))
                have e104 : bA.tmps[104]?.getD undef = .int .i64 (ix : Int) := (hb 104).trans (hdep 1 (by decide))
                have zz := HIN.out
                have zz2 := zin
                refine phx_run (.pointer (some ⟨gb, ix * 2, none⟩)) ?_ (Below.refl _ _) rfl
                clear hb hdep hold
                go_simp
              · intro x w1 bA hT hdep hold hb
                refine .inl ⟨trivial, ?_⟩
                have e105 : bA.tmps[105]?.getD undef = .pointer (some ⟨gb, ix * 2, none⟩) := (hb 105).trans (hdep 2 (by decide))
                have cc0 := (HDS2.out.below hT).r.row.cell (ix * 2)
                have cc1 := (HDS2.out.below hT).r.row.cell (ix * 2 + 1)
                rw [(wrow_get _ lo1 N ix HIN.out).1, ← HV.out] at cc0
                rw [(wrow_get _ lo1 N ix HIN.out).2, ← HV.out] at cc1
                refine phx_run (.agg #[.int .u64 ((hiN (rs (v)) : Nat) : Int), .int .u64 ((loN (rs (v)) : Nat) : Int)]) ?_ (Below.refl _ _) rfl
                clear hb hdep hold
                go_simp
              · intro x w1 bA hT hdep hold hb
                refine .inl ⟨trivial, ?_⟩
                have e3 : bA.tmps[3]?.getD undef = .pointer (some ⟨w.heap.size + 1, 0, none⟩) := hb 3
                refine phx_run (.pointer (some ⟨w.heap.size + 1, 1, none⟩)) ?_ (Below.refl _ _) rfl
                clear hb hdep hold
                go_simp
              · intro x w1 bA hT hdep hold hb
                refine .inl ⟨trivial, ?_⟩
                have e107 : bA.tmps[107]?.getD undef = .pointer (some ⟨w.heap.size + 1, 1, none⟩) := (hb 107).trans (hdep 4 (by decide))
                have cc0 := (HDS2.out.below hT).r.qq.cell 0
                have cc1 := (HDS2.out.below hT).r.qq.cell 1
                refine phx_run (.slice (some ⟨qb, qo, none⟩) n2 c2) ?_ (Below.refl _ _) rfl
                clear hb hdep hold
                go_simp
              · intro x w1 bA hT hdep hold hb
                refine .inl ⟨trivial, ?_⟩
                have e108 : bA.tmps[108]?.getD undef = .slice (some ⟨qb, qo, none⟩) n2 c2 := (hb 108).trans (hdep 5 (by decide))
                have zz := HN2P.out
                refine phx_run (.pointer (some ⟨qb, qo, none⟩)) ?_ (Below.refl _ _) rfl
                clear hb hdep hold
                go_simp
              · intro x w1 bA hT hdep hold hb
                refine .inl ⟨trivial, ?_⟩
                have e109 : bA.tmps[109]?.getD undef = .pointer (some ⟨qb, qo, none⟩) := (hb 109).trans (hdep 6 (by decide))
                refine phx_run (.pointer (some ⟨qb, qo + 1, none⟩)) ?_ (Below.refl _ _) rfl
                clear hb hdep hold
                go_simp
              · intro x w1 bA hT hdep hold hb
                refine .inl ⟨trivial, ?_⟩
                have e110 : bA.tmps[110]?.getD undef = .pointer (some ⟨qb, qo + 1, none⟩) := (hb 110).trans (hdep 7 (by decide))
                have cc := HQ1C.out w1 (HDS2.out.below hT).r.bel
                refine phx_run (.int .i64 (1)) ?_ (Below.refl _ _) rfl
                clear hb hdep hold
                go_simp
              · intro x w1 bA hT hdep hold hb
                refine .inl ⟨trivial, ?_⟩
                have e106 : bA.tmps[106]?.getD undef = .agg #[.int .u64 ((hiN (rs (v)) : Nat) : Int), .int .u64 ((loN (rs (v)) : Nat) : Int)] := (hb 106).trans (hdep 3 (by decide))
                have e111 : bA.tmps[111]?.getD undef = .int .i64 (1) := (hb 111).trans (hdep 8 (by decide))
                refine phx_call ?_ ((HQU.out w1).mono fun e w' h => ⟨_, h.1, h.2, rfl⟩)
                clear hb hdep hold
                go_simp
              · intro x w1 bA hT hdep hold hb
                refine .inl ⟨trivial, ?_⟩
                have e112 : bA.tmps[112]?.getD undef = .tuple #[.int .i64 v, .bool true] := (hb 112).trans (hdep 9 (by decide))
                refine phx_run (.tuple #[.int .i64 v, .bool true]) ?_ (Below.refl _ _) rfl
                clear hb hdep hold
                go_simp
              · intro x w1 bA hT hdep hold hb
                refine .inl ⟨trivial, ?_⟩
                have e102 : bA.tmps[102]?.getD undef = .tuple #[.int .i64 v, .bool true] := (hb 102).trans (hdep 10 (by decide))
                refine phx_run (.int .i64 (v)) ?_ (Below.refl _ _) rfl
                clear hb hdep hold
                go_simp
              · intro x w1 bA hT hdep hold hb
                refine .inl ⟨trivial, ?_⟩
                have e102 : bA.tmps[102]?.getD undef = .tuple #[.int .i64 v, .bool true] := (hb 102).trans (hdep 10 (by decide))
                refine phx_run (.bool true) ?_ (Below.refl _ _) rfl
                clear hb hdep hold
                go_simp
              · intro x w1 bA hT hdep hold hb
                refine .inl ⟨trivial, ?_⟩
                have e113 : bA.tmps[113]?.getD undef = .int .i64 (v) := (hb 113).trans (hdep 11 (by decide))
                refine phx_run (.int .i64 (v)) ?_ (Below.refl _ _) rfl
                clear hb hdep hold
                go_simp
              · intro x w1 bA hT hdep hold hb
                refine .inl ⟨trivial, ?_⟩
                have e114 : bA.tmps[114]?.getD undef = .bool true := (hb 114).trans (hdep 12 (by decide))
                refine phx_run (.bool true) ?_ (Below.refl _ _) rfl
                clear hb hdep hold
                go_simp
              intro x w1 hT hall
              have x0e : x 0 = .slice (some ⟨gb, 0, none⟩) N N := hall 0 (by decide)
              have x1e : x 1 = .int .i64 (ix : Int) := hall 1 (by decide)
              have x2e : x 2 = .pointer (some ⟨gb, ix * 2, none⟩) := hall 2 (by decide)
              have x3e : x 3 = .agg #[.int .u64 ((hiN (rs (v)) : Nat) : Int), .int .u64 ((loN (rs (v)) : Nat) : Int)] := hall 3 (by decide)
              have x4e : x 4 = .pointer (some ⟨w.heap.size + 1, 1, none⟩) := hall 4 (by decide)
              have x5e : x 5 = .slice (some ⟨qb, qo, none⟩) n2 c2 := hall 5 (by decide)
              have x6e : x 6 = .pointer (some ⟨qb, qo, none⟩) := hall 6 (by decide)
              have x7e : x 7 = .pointer (some ⟨qb, qo + 1, none⟩) := hall 7 (by decide)
              have x8e : x 8 = .int .i64 (1) := hall 8 (by decide)
              have x9e : x 9 = .tuple #[.int .i64 v, .bool true] := hall 9 (by decide)
              have x10e : x 10 = .tuple #[.int .i64 v, .bool true] := hall 10 (by decide)
              have x11e : x 11 = .int .i64 (v) := hall 11 (by decide)
              have x12e : x 12 = .bool true := hall 12 (by decide)
              have x13e : x 13 = .int .i64 (v) := hall 13 (by decide)
              have x14e : x 14 = .bool true := hall 14 (by decide)
              simp only [putAll, dstOf, Act.put, List.map_cons, List.map_nil, List.setIfInBounds_toArray, List.set_cons_succ, List.set_cons_zero, Nat.reduceAdd, x0e, x1e, x2e, x3e, x4e, x5e, x6e, x7e, x8e, x9e, x10e, x11e, x12e, x13e, x14e]
              clear x0e x1e x2e x3e x4e x5e x6e x7e x8e x9e x10e x11e x12e x13e x14e hall
              have HDS3 := Lib.hid (HDS2.out.below hT)
              clear hT HDS2 HQU HQ1C HN2P
              obtain ⟨w12, rfl⟩ : ∃ z, z = w1 := ⟨_, rfl⟩
              obtain ⟨dl, hdl⟩ : ∃ x, x = lo1 - lo2 := ⟨_, rfl⟩
              obtain ⟨ex, hex⟩ : ∃ x, x = dl + (ix : Int) := ⟨_, rfl⟩
              have HEX := Lib.hid (show ex = lo1 - lo2 + (ix : Int) by rw [hex, hdl])
              have HWD := Lib.hid (show IntKind.i64.wrap (lo1 - lo2) = dl by rw [hdl]; exact IntWalk.i64_in _ (by have := HLB.out; omega))
              have HWE := Lib.hid (show IntKind.i64.wrap (dl + (ix : Int)) = ex by rw [hex]; exact IntWalk.i64_in _ (by have := HLB.out; omega))
              have HXB := Lib.hid (show -1048576 ≤ ex ∧ ex ≤ 1048576 by have := HXX.out ix (by have := HND.out; omega); rw [hex, hdl]; exact this)
              clear hdl hex
              go_upto_region 24 with fail
              refine wp_region_phy (fun a b => Below a.heap.size a b) (fun h k => h.trans (k.mono h.size)) ((Below.refl _ _).drew) (by kernel_rfl) (by kernel_rfl) (by kernel_rfl) (by kernel_rfl) (phiT (fun i => ([some (.agg #[.bool false, .slice (some ⟨pb, po, none⟩) k c]), some (.int .i64 (lo1)), some (.agg #[.bool false, .slice (some ⟨qb, qo, none⟩) n2 c2]), some (.int .i64 (lo2)), some (.int .i64 (dl)), some (.int .i64 (ix : Int)), some (.int .i64 (ex)), some (.int .i64 (ex))] : List (Option Value)).getD i none) (fun i v w => True)) (fun i v w w' h hb => ?_) ⟨?_, ?_, ?_, ?_, ?_, ?_, ?_, ?_, trivial⟩ ?_
              · unfold phiT at h ⊢
                split
                · next u hu => rw [hu] at h; exact h
                · next hu =>
                  rw [hu] at h
                  exact True.intro
              · intro x w1 bA hT hdep hold hb
                refine .inl ⟨trivial, ?_⟩
                have e2 : bA.tmps[2]?.getD undef = .pointer (some ⟨w.heap.size, 0, none⟩) := hb 2
                have cc0 := (HDS3.out.below hT).r.pp.cell 0
                have cc1 := (HDS3.out.below hT).r.pp.cell 1
                refine phx_run (.agg #[.bool false, .slice (some ⟨pb, po, none⟩) k c]) ?_ (Below.refl _ _) rfl
                clear hb hdep hold
                go_simp
              · intro x w1 bA hT hdep hold hb
                refine .inl ⟨trivial, ?_⟩
                have e115 : bA.tmps[115]?.getD undef = .agg #[.bool false, .slice (some ⟨pb, po, none⟩) k c] := (hb 115).trans (hdep 0 (by decide))
                refine phx_call ?_ ((HLPA.out w1 (HDS3.out.below hT).r.bel).mono fun e w' h => ⟨_, h.1, h.2, rfl⟩)
                clear hb hdep hold
                go_simp
              · intro x w1 bA hT hdep hold hb
                refine .inl ⟨trivial, ?_⟩
                have e3 : bA.tmps[3]?.getD undef = .pointer (some ⟨w.heap.size + 1, 0, none⟩) := hb 3
                have cc0 := (HDS3.out.below hT).r.qq.cell 0
                have cc1 := (HDS3.out.below hT).r.qq.cell 1
                refine phx_run (.agg #[.bool false, .slice (some ⟨qb, qo, none⟩) n2 c2]) ?_ (Below.refl _ _) rfl
                clear hb hdep hold
                go_simp
              · intro x w1 bA hT hdep hold hb
                refine .inl ⟨trivial, ?_⟩
                have e117 : bA.tmps[117]?.getD undef = .agg #[.bool false, .slice (some ⟨qb, qo, none⟩) n2 c2] := (hb 117).trans (hdep 2 (by decide))
                refine phx_call ?_ ((HLQA.out w1 (HDS3.out.below hT).r.bel).mono fun e w' h => ⟨_, h.1, h.2, rfl⟩)
                clear hb hdep hold
                go_simp
              · intro x w1 bA hT hdep hold hb
                refine .inl ⟨trivial, ?_⟩
                have e116 : bA.tmps[116]?.getD undef = .int .i64 (lo1) := (hb 116).trans (hdep 1 (by decide))
                have e118 : bA.tmps[118]?.getD undef = .int .i64 (lo2) := (hb 118).trans (hdep 3 (by decide))
                have cw := HWD.out
                refine phx_run (.int .i64 (dl)) ?_ (Below.refl _ _) rfl
                clear hb hdep hold
                go_simp
              · intro x w1 bA hT hdep hold hb
                refine .inl ⟨trivial, ?_⟩
                have e11 : bA.tmps[11]?.getD undef = .int .i64 (ix : Int) := hb 11
                refine phx_run (.int .i64 (ix : Int)) ?_ (Below.refl _ _) rfl
                clear hb hdep hold
                go_simp
              · intro x w1 bA hT hdep hold hb
                refine .inl ⟨trivial, ?_⟩
                have e119 : bA.tmps[119]?.getD undef = .int .i64 (dl) := (hb 119).trans (hdep 4 (by decide))
                have e120 : bA.tmps[120]?.getD undef = .int .i64 (ix : Int) := (hb 120).trans (hdep 5 (by decide))
                have cw := HWE.out
                refine phx_run (.int .i64 (ex)) ?_ (Below.refl _ _) rfl
                clear hb hdep hold
                go_simp
              · intro x w1 bA hT hdep hold hb
                refine .inl ⟨trivial, ?_⟩
                have e121 : bA.tmps[121]?.getD undef = .int .i64 (ex) := (hb 121).trans (hdep 6 (by decide))
                refine phx_run (.int .i64 (ex)) ?_ (Below.refl _ _) rfl
                clear hb hdep hold
                go_simp
              intro x w1 hT hall
              have x0e : x 0 = .agg #[.bool false, .slice (some ⟨pb, po, none⟩) k c] := hall 0 (by decide)
              have x1e : x 1 = .int .i64 (lo1) := hall 1 (by decide)
              have x2e : x 2 = .agg #[.bool false, .slice (some ⟨qb, qo, none⟩) n2 c2] := hall 2 (by decide)
              have x3e : x 3 = .int .i64 (lo2) := hall 3 (by decide)
              have x4e : x 4 = .int .i64 (dl) := hall 4 (by decide)
              have x5e : x 5 = .int .i64 (ix : Int) := hall 5 (by decide)
              have x6e : x 6 = .int .i64 (ex) := hall 6 (by decide)
              have x7e : x 7 = .int .i64 (ex) := hall 7 (by decide)
              simp only [putAll, dstOf, Act.put, List.map_cons, List.map_nil, List.setIfInBounds_toArray, List.set_cons_succ, List.set_cons_zero, Nat.reduceAdd, x0e, x1e, x2e, x3e, x4e, x5e, x6e, x7e]
              clear x0e x1e x2e x3e x4e x5e x6e x7e hall
              have HDS4 := Lib.hid (HDS3.out.below hT)
              clear hT HDS3 HWD HWE
              obtain ⟨w13, rfl⟩ : ∃ z, z = w1 := ⟨_, rfl⟩
              have hwi : wiB ex 1048576 = true := decide_eq_true HXB.out
              have HWI := Lib.hid (fun W => within_any ex 1048576 W (by decide) (by decide))
              rw [hwi] at HWI
              obtain ⟨Ax, nx, cx, hs⟩ := HDS4.out.own.form3
              subst hs
              go_wp2_with fail
              refine (HWI.out _).mono ?_
              rintro e w14 ⟨rfl, rfl⟩
              have HRL := Lib.hid (show (rL (cf p) lo1 lo2 q ix).length ≤ 100000000 from by have := rL_len (P := cf p) (lp := lo1) (lq := lo2) (q := q) ix; omega)
              have HUU := Lib.hid (Arr.new w13 51 [.int .i64 ex, .int .i64 v])
              have HSA := Lib.hid (HDS4.out.below ((Below.refl _ _).alloc (Nat.le_refl _) (.cells #[.int .i64 ex, .int .i64 v] 51)))
              have HSZ := Lib.hid HSA.out.sz
              have y0 := HDS4.out.rr.cell 0
              have y1 := HDS4.out.rr.cell 1
              clear HWI hwi HDS4
              go_upto_region 28 with (at_builtin; refine wpList_appT rfl (.tmp 131) (.tmp 135) rfl rfl HSA.out.own (m := (ex, v)) rfl HUU.out HRL.out HSZ.out ?_; intro v' w1 hown1 hgr1; obtain ⟨q1, h2⟩ := HSA.out.app hown1 hgr1; obtain ⟨Av, nv, cv_, rfl⟩ := hown1.form3; have HNX := Lib.hid h2; have f1 := q1.frozen 1; have yq := q1.cell 1; clear hown1 hgr1 q1 h2)
              generalize (w1.setCell ⟨rb, 1, none⟩ (.slice Av nv cv_)) = w15 at HNX ⊢
              obtain ⟨F, hF⟩ : ∃ F, F = RS (cf p) lo1 lo2 q ix := ⟨_, rfl⟩
              have HFE := Lib.hid (show rsT F v q ex q.length = RS (cf p) lo1 lo2 q (ix + 1) from funext fun e => by
                rw [hF, HV.out, HEX.out, show lo1 - lo2 + (ix : Int) = lo1 + ix - lo2 by omega]
                exact rsT_end ix e)
              have HS0 := Lib.hid (show DvS w gb rb (rb + 1) lo1 N [.bool false, .slice (some ⟨pb, po, none⟩) k c] [.bool false, .slice (some ⟨qb, qo, none⟩) n2 c2] (rsT F v q ex 0) (.slice Av nv cv_) (rL (cf p) lo1 lo2 q (ix + 1)) w15 from by
                have e1 : rsT F v q ex 0 = RS (cf p) lo1 lo2 q ix := by rw [hF]; exact funext fun e => rsT_0 _ _ _ _ _
                have e2 : rL (cf p) lo1 lo2 q (ix + 1) = rL (cf p) lo1 lo2 q ix ++ [(ex, v)] := by
                  rw [rL, if_neg (by rw [← HV.out]; exact h0), ← HV.out, HEX.out]
                rw [e1, e2]
                exact HNX.out)
              have y0 := HS0.out.r.qq.cell 0
              have y1 := HS0.out.r.qq.cell 1
              clear HNX f1 yq HSA HSZ HUU HRL hF h0
              go_upto_region 29 with fail
              go_loopg [16, 17, 141] n2 (fun gk s16 s17 s141 wr => ∃ j : Nat, j ≤ n2 ∧ gk = n2 - j ∧ s141 = .int .i64 (j : Int) ∧ DvS w gb rb (rb + 1) lo1 N [.bool false, .slice (some ⟨pb, po, none⟩) k c] [.bool false, .slice (some ⟨qb, qo, none⟩) n2 c2] (rsT F v q ex j) (.slice Av nv cv_) (rL (cf p) lo1 lo2 q (ix + 1)) wr)
              case atStart => exact ⟨0, Nat.zero_le _, rfl, rfl, HS0.out⟩
              case round =>
                clear HS0 y0 y1
                obtain ⟨j, hj, rfl, rfl, hd⟩ := hrel
                have hjb : j ≤ 10000000 := by omega
                by_cases hlt2 : j < n2
                · have z1 : (j : Int) < (n2 : Int) := by omega
                  have hjq : j < q.length := by rw [← HNN2.out.2]; exact hlt2
                  have HDW := Lib.hid hd
                  obtain ⟨c0, c1⟩ := HQC.out wr hd.r.bel j hjq
                  obtain ⟨te, hte⟩ : ∃ x, x = q[j].1 := ⟨_, rfl⟩
                  obtain ⟨tcc, htc⟩ : ∃ x, x = q[j].2 := ⟨_, rfl⟩
                  have hin := HQI.out q[j] (List.getElem_mem hjq)
                  have hco := HLM.out.2.1.co q[j] (List.getElem_mem hjq)
                  have hvb := HVB.out
                  rw [← hte] at hin c0
                  rw [← htc] at hco c1
                  obtain ⟨m, hm⟩ : ∃ m : Nat, (m : Int) = ix + te - lo2 := ⟨(ix + te - lo2).toNat, by omega⟩
                  have HMN := Lib.hid (show m < N by have := HDD.out; have := HND.out; omega)
                  have HMI := Lib.hid (show (m : Int) < (N : Int) by have := HMN.out; omega)
                  obtain ⟨s1, hs1⟩ : ∃ x, x = (ix : Int) + te := ⟨_, rfl⟩
                  have HWS := Lib.hid (show IntKind.i64.wrap ((ix : Int) + te) = s1 by rw [hs1]; exact IntWalk.i64_in _ (by have := HLB.out; have := HDD.out; omega))
                  have HWM := Lib.hid (show IntKind.i64.wrap (s1 - lo2) = (m : Int) by rw [hs1, hm]; exact IntWalk.i64_in _ (by have := HLB.out; have := HDD.out; omega))
                  obtain ⟨y, hy⟩ : ∃ y, y = rsT F v q ex j (lo1 + (m : Int)) := ⟨_, rfl⟩
                  have HY := Lib.hid hy.symm
                  obtain ⟨nn, hnn⟩ : ∃ x, x = -v := ⟨_, rfl⟩
                  have HWN := Lib.hid (show IntKind.i64.wrap (-v) = nn by rw [hnn]; exact IntWalk.i64_in _ (by omega))
                  have HPR := Lib.hid (fun W => product_any nn tcc W (by omega) (by omega))
                  obtain ⟨pr, hpr⟩ : ∃ x, x = nn * tcc := ⟨_, rfl⟩
                  rw [← hpr] at HPR
                  have HAD := Lib.hid (fun W => wadd_any y pr W)
                  obtain ⟨sm, hsm⟩ : ∃ x, x = y + pr := ⟨_, rfl⟩
                  rw [← hsm] at HAD
                  have HPUT := Lib.hid (fun W (h : DvS w gb rb (rb + 1) lo1 N [.bool false, .slice (some ⟨pb, po, none⟩) k c] [.bool false, .slice (some ⟨qb, qo, none⟩) n2 c2] (rsT F v q ex j) (.slice Av nv cv_) (rL (cf p) lo1 lo2 q (ix + 1)) W) => (show DvS w gb rb (rb + 1) lo1 N [.bool false, .slice (some ⟨pb, po, none⟩) k c] [.bool false, .slice (some ⟨qb, qo, none⟩) n2 c2] (rsT F v q ex (j + 1)) (.slice Av nv cv_) (rL (cf p) lo1 lo2 q (ix + 1)) ((W.setCell ⟨gb, m * 2, none⟩ (.int .u64 ((hiN (rs sm) : Nat) : Int))).setCell ⟨gb, m * 2 + 1, none⟩ (.int .u64 ((loN (rs sm) : Nat) : Int))) from by
                    have hex := HEX.out
                    have hv : sm = rsT F v q ex (j + 1) (lo1 + (m : Int)) := by
                      rw [show lo1 + (m : Int) = ex + q[j].1 by omega, rsT_at HLM.out.2.2.srt hjq, hsm, hpr, hnn, hy, htc, show lo1 + (m : Int) = ex + q[j].1 by omega]
                    rw [hv]
                    exact h.put HMN.out (fun i hi him => rsT_ne hjq (by omega))))
                  have hX9 : ∀ W, W = wr.alloc (.cells #[.int .i64 te, .int .i64 tcc] 51) → Arr W wr.heap.size 51 [.int .i64 te, .int .i64 tcc] ∧ DvS w gb rb (rb + 1) lo1 N [.bool false, .slice (some ⟨pb, po, none⟩) k c] [.bool false, .slice (some ⟨qb, qo, none⟩) n2 c2] (rsT F v q ex j) (.slice Av nv cv_) (rL (cf p) lo1 lo2 q (ix + 1)) W := by
                    intro W hW
                    subst hW
                    exact ⟨Arr.new wr _ [_, _], HDW.out.below ((Below.refl _ _).alloc (Nat.le_refl _) _)⟩
                  clear hd hjq hin hco hte htc hm hs1 hy hnn hpr hsm hvb
                  go_upto_region 31 with fail
                  generalize wr.alloc (.cells #[.int .i64 te, .int .i64 tcc] 51) = w9 at hX9 ⊢
                  obtain ⟨qt, hd9⟩ := hX9 w9 rfl
                  generalize wr.heap.size = tb at qt ⊢
                  have QT := Lib.hid qt
                  have HD := Lib.hid hd9
                  clear hX9 qt hd9 HDW z1 c0 c1
                  refine wp_region_phy (fun a b => Below a.heap.size a b) (fun h k => h.trans (k.mono h.size)) ((Below.refl _ _).drew) (by kernel_rfl) (by kernel_rfl) (by kernel_rfl) (by kernel_rfl) (phiT (fun i => ([some (.int .i64 (ix : Int)), some (.pointer (some ⟨tb, 0, none⟩)), some (.int .i64 (te)), some (.int .i64 (s1)), some (.agg #[.bool false, .slice (some ⟨qb, qo, none⟩) n2 c2]), some (.int .i64 (lo2)), some (.int .i64 (m : Int)), some (.int .i64 (m : Int))] : List (Option Value)).getD i none) (fun i v w => True)) (fun i v w w' h hb => ?_) ⟨?_, ?_, ?_, ?_, ?_, ?_, ?_, ?_, trivial⟩ ?_
                  · unfold phiT at h ⊢
                    split
                    · next u hu => rw [hu] at h; exact h
                    · next hu =>
                      rw [hu] at h
                      exact True.intro
                  · intro x w1 bA hT hdep hold hb
                    refine .inl ⟨trivial, ?_⟩
                    have e11 : bA.tmps[11]?.getD undef = .int .i64 (ix : Int) := hb 11
                    refine phx_run (.int .i64 (ix : Int)) ?_ (Below.refl _ _) rfl
                    clear hb hdep hold
                    go_simp
                  · intro x w1 bA hT hdep hold hb
                    refine .inl ⟨trivial, ?_⟩
                    have e16 : bA.tmps[16]?.getD undef = .pointer (some ⟨tb, 0, none⟩) := hb 16
                    refine phx_run (.pointer (some ⟨tb, 0, none⟩)) ?_ (Below.refl _ _) rfl
                    clear hb hdep hold
                    go_simp
                  · intro x w1 bA hT hdep hold hb
                    refine .inl ⟨trivial, ?_⟩
                    have e146 : bA.tmps[146]?.getD undef = .pointer (some ⟨tb, 0, none⟩) := (hb 146).trans (hdep 1 (by decide))
                    have cc0 := (QT.out.below hT QT.out.lt).cell 0
                    have cc1 := (QT.out.below hT QT.out.lt).cell 1
                    refine phx_run (.int .i64 (te)) ?_ (Below.refl _ _) rfl
                    clear hb hdep hold
                    go_simp
                  · intro x w1 bA hT hdep hold hb
                    refine .inl ⟨trivial, ?_⟩
                    have e145 : bA.tmps[145]?.getD undef = .int .i64 (ix : Int) := (hb 145).trans (hdep 0 (by decide))
                    have e147 : bA.tmps[147]?.getD undef = .int .i64 (te) := (hb 147).trans (hdep 2 (by decide))
                    have cw := HWS.out
                    refine phx_run (.int .i64 (s1)) ?_ (Below.refl _ _) rfl
                    clear hb hdep hold
                    go_simp
                  · intro x w1 bA hT hdep hold hb
                    refine .inl ⟨trivial, ?_⟩
                    have e3 : bA.tmps[3]?.getD undef = .pointer (some ⟨w.heap.size + 1, 0, none⟩) := hb 3
                    have cc0 := (HD.out.below hT).r.qq.cell 0
                    have cc1 := (HD.out.below hT).r.qq.cell 1
                    refine phx_run (.agg #[.bool false, .slice (some ⟨qb, qo, none⟩) n2 c2]) ?_ (Below.refl _ _) rfl
                    clear hb hdep hold
                    go_simp
                  · intro x w1 bA hT hdep hold hb
                    refine .inl ⟨trivial, ?_⟩
                    have e149 : bA.tmps[149]?.getD undef = .agg #[.bool false, .slice (some ⟨qb, qo, none⟩) n2 c2] := (hb 149).trans (hdep 4 (by decide))
                    refine phx_call ?_ ((HLQA.out w1 (HD.out.below hT).r.bel).mono fun e w' h => ⟨_, h.1, h.2, rfl⟩)
                    clear hb hdep hold
                    go_simp
                  · intro x w1 bA hT hdep hold hb
                    refine .inl ⟨trivial, ?_⟩
                    have e148 : bA.tmps[148]?.getD undef = .int .i64 (s1) := (hb 148).trans (hdep 3 (by decide))
                    have e150 : bA.tmps[150]?.getD undef = .int .i64 (lo2) := (hb 150).trans (hdep 5 (by decide))
                    have cw := HWM.out
                    refine phx_run (.int .i64 (m : Int)) ?_ (Below.refl _ _) rfl
                    clear hb hdep hold
                    go_simp
                  · intro x w1 bA hT hdep hold hb
                    refine .inl ⟨trivial, ?_⟩
                    have e151 : bA.tmps[151]?.getD undef = .int .i64 (m : Int) := (hb 151).trans (hdep 6 (by decide))
                    refine phx_run (.int .i64 (m : Int)) ?_ (Below.refl _ _) rfl
                    clear hb hdep hold
                    go_simp
                  intro x w1 hT hall
                  have x0e : x 0 = .int .i64 (ix : Int) := hall 0 (by decide)
                  have x1e : x 1 = .pointer (some ⟨tb, 0, none⟩) := hall 1 (by decide)
                  have x2e : x 2 = .int .i64 (te) := hall 2 (by decide)
                  have x3e : x 3 = .int .i64 (s1) := hall 3 (by decide)
                  have x4e : x 4 = .agg #[.bool false, .slice (some ⟨qb, qo, none⟩) n2 c2] := hall 4 (by decide)
                  have x5e : x 5 = .int .i64 (lo2) := hall 5 (by decide)
                  have x6e : x 6 = .int .i64 (m : Int) := hall 6 (by decide)
                  have x7e : x 7 = .int .i64 (m : Int) := hall 7 (by decide)
                  simp only [putAll, dstOf, Act.put, List.map_cons, List.map_nil, List.setIfInBounds_toArray, List.set_cons_succ, List.set_cons_zero, Nat.reduceAdd, x0e, x1e, x2e, x3e, x4e, x5e, x6e, x7e]
                  clear x0e x1e x2e x3e x4e x5e x6e x7e hall
                  have QT2 := Lib.hid (QT.out.below hT QT.out.lt)
                  have HD2 := Lib.hid (HD.out.below hT)
                  clear hT QT HD HWS HWM
                  have QT := QT2
                  have HD := HD2
                  clear QT2 HD2
                  obtain ⟨w16, rfl⟩ : ∃ z, z = w1 := ⟨_, rfl⟩
                  go_upto_region 32 with fail
                  refine wp_region_phx (fun a b => Below a.heap.size a b) (fun h k => h.trans (k.mono h.size)) ((Below.refl _ _).drew) 13 (by kernel_rfl) (by kernel_rfl) (by kernel_rfl) (by kernel_rfl) rfl (by kernel_rfl) (phiT (fun i => ([some (.slice (some ⟨gb, 0, none⟩) N N), some (.int .i64 (m : Int)), some (.slice (some ⟨gb, 0, none⟩) N N), some (.int .i64 (m : Int)), some (.pointer (some ⟨gb, m * 2, none⟩)), some (.agg #[.int .u64 ((hiN (rs (y)) : Nat) : Int), .int .u64 ((loN (rs (y)) : Nat) : Int)]), some (.int .i64 (v)), some (.int .i64 (nn)), some (.pointer (some ⟨tb, 1, none⟩)), some (.int .i64 (tcc)), some (.agg #[.int .u64 ((hiN (rs (pr)) : Nat) : Int), .int .u64 ((loN (rs (pr)) : Nat) : Int)]), some (.agg #[.int .u64 ((hiN (rs (sm)) : Nat) : Int), .int .u64 ((loN (rs (sm)) : Nat) : Int)]), some (.pointer (some ⟨gb, m * 2, none⟩)), some (undef)] : List (Option Value)).getD i none) (fun i v w => True)) (fun i v w w' h hb => ?_) (fun _ W => DvS w gb rb (rb + 1) lo1 N [.bool false, .slice (some ⟨pb, po, none⟩) k c] [.bool false, .slice (some ⟨qb, qo, none⟩) n2 c2] (rsT F v q ex (j + 1)) (.slice Av nv cv_) (rL (cf p) lo1 lo2 q (ix + 1)) W) ⟨?_, ?_, ?_, ?_, ?_, ?_, ?_, ?_, ?_, ?_, ?_, ?_, ?_, ?_, trivial⟩ ?_
                  · unfold phiT at h ⊢
                    split
                    · next u hu => rw [hu] at h; exact h
                    · next hu =>
                      rw [hu] at h
                      exact True.intro
                  · intro x w1 bA hT hdep hold hb
                    refine ⟨fun _ => ?_, fun h => absurd h (by decide)⟩
                    refine .inl ⟨trivial, ?_⟩
                    have e7 : bA.tmps[7]?.getD undef = .slice (some ⟨gb, 0, none⟩) N N := hb 7
                    refine phx_run (.slice (some ⟨gb, 0, none⟩) N N) ?_ (Below.refl _ _) rfl
                    clear hb hdep hold
                    go_simp
                  · intro x w1 bA hT hdep hold hb
                    refine ⟨fun _ => ?_, fun h => absurd h (by decide)⟩
                    refine .inl ⟨trivial, ?_⟩
                    have e17 : bA.tmps[17]?.getD undef = .int .i64 (m : Int) := hb 17
                    refine phx_run (.int .i64 (m : Int)) ?_ (Below.refl _ _) rfl
                    clear hb hdep hold
                    go_simp
                  · intro x w1 bA hT hdep hold hb
                    refine ⟨fun _ => ?_, fun h => absurd h (by decide)⟩
                    refine .inl ⟨trivial, ?_⟩
                    have e7 : bA.tmps[7]?.getD undef = .slice (some ⟨gb, 0, none⟩) N N := hb 7
                    refine phx_run (.slice (some ⟨gb, 0, none⟩) N N) ?_ (Below.refl _ _) rfl
                    clear hb hdep hold
                    go_simp
                  · intro x w1 bA hT hdep hold hb
                    refine ⟨fun _ => ?_, fun h => absurd h (by decide)⟩
                    refine .inl ⟨trivial, ?_⟩
                    have e17 : bA.tmps[17]?.getD undef = .int .i64 (m : Int) := hb 17
                    refine phx_run (.int .i64 (m : Int)) ?_ (Below.refl _ _) rfl
                    clear hb hdep hold
                    go_simp
                  · intro x w1 bA hT hdep hold hb
                    refine ⟨fun _ => ?_, fun h => absurd h (by decide)⟩
                    refine .inl ⟨trivial, ?_⟩
                    have e154 : bA.tmps[154]?.getD undef = .slice (some ⟨gb, 0, none⟩) N N := (hb 154).trans (hdep 2 (by decide))
                    have e155 : bA.tmps[155]?.getD undef = .int .i64 (m : Int) := (hb 155).trans (hdep 3 (by decide))
                    have hmn := HMN.out
                    have hmn2 := HMI.out
                    refine phx_run (.pointer (some ⟨gb, m * 2, none⟩)) ?_ (Below.refl _ _) rfl
                    clear hb hdep hold
                    go_simp
                  · intro x w1 bA hT hdep hold hb
                    refine ⟨fun _ => ?_, fun h => absurd h (by decide)⟩
                    refine .inl ⟨trivial, ?_⟩
                    have e156 : bA.tmps[156]?.getD undef = .pointer (some ⟨gb, m * 2, none⟩) := (hb 156).trans (hdep 4 (by decide))
                    have cc0 := (HD.out.below hT).r.row.cell (m * 2)
                    have cc1 := (HD.out.below hT).r.row.cell (m * 2 + 1)
                    rw [(wrow_get _ lo1 N m HMN.out).1, HY.out] at cc0
                    rw [(wrow_get _ lo1 N m HMN.out).2, HY.out] at cc1
                    refine phx_run (.agg #[.int .u64 ((hiN (rs (y)) : Nat) : Int), .int .u64 ((loN (rs (y)) : Nat) : Int)]) ?_ (Below.refl _ _) rfl
                    clear hb hdep hold
                    go_simp
                  · intro x w1 bA hT hdep hold hb
                    refine ⟨fun _ => ?_, fun h => absurd h (by decide)⟩
                    refine .inl ⟨trivial, ?_⟩
                    have e12 : bA.tmps[12]?.getD undef = .int .i64 (v) := hb 12
                    refine phx_run (.int .i64 (v)) ?_ (Below.refl _ _) rfl
                    clear hb hdep hold
                    go_simp
                  · intro x w1 bA hT hdep hold hb
                    refine ⟨fun _ => ?_, fun h => absurd h (by decide)⟩
                    refine .inl ⟨trivial, ?_⟩
                    have e158 : bA.tmps[158]?.getD undef = .int .i64 (v) := (hb 158).trans (hdep 6 (by decide))
                    have cw := HWN.out
                    refine phx_run (.int .i64 (nn)) ?_ (Below.refl _ _) rfl
                    clear hb hdep hold
                    go_simp
                  · intro x w1 bA hT hdep hold hb
                    refine ⟨fun _ => ?_, fun h => absurd h (by decide)⟩
                    refine .inl ⟨trivial, ?_⟩
                    have e16 : bA.tmps[16]?.getD undef = .pointer (some ⟨tb, 0, none⟩) := hb 16
                    refine phx_run (.pointer (some ⟨tb, 1, none⟩)) ?_ (Below.refl _ _) rfl
                    clear hb hdep hold
                    go_simp
                  · intro x w1 bA hT hdep hold hb
                    refine ⟨fun _ => ?_, fun h => absurd h (by decide)⟩
                    refine .inl ⟨trivial, ?_⟩
                    have e160 : bA.tmps[160]?.getD undef = .pointer (some ⟨tb, 1, none⟩) := (hb 160).trans (hdep 8 (by decide))
                    have cc0 := (QT.out.below hT QT.out.lt).cell 0
                    have cc1 := (QT.out.below hT QT.out.lt).cell 1
                    refine phx_run (.int .i64 (tcc)) ?_ (Below.refl _ _) rfl
                    clear hb hdep hold
                    go_simp
                  · intro x w1 bA hT hdep hold hb
                    refine ⟨fun _ => ?_, fun h => absurd h (by decide)⟩
                    refine .inl ⟨trivial, ?_⟩
                    have e159 : bA.tmps[159]?.getD undef = .int .i64 (nn) := (hb 159).trans (hdep 7 (by decide))
                    have e161 : bA.tmps[161]?.getD undef = .int .i64 (tcc) := (hb 161).trans (hdep 9 (by decide))
                    refine phx_call ?_ ((HPR.out w1).mono fun e w' h => ⟨_, h.1, h.2, rfl⟩)
                    clear hb hdep hold
                    go_simp
                  · intro x w1 bA hT hdep hold hb
                    refine ⟨fun _ => ?_, fun h => absurd h (by decide)⟩
                    refine .inl ⟨trivial, ?_⟩
                    have e157 : bA.tmps[157]?.getD undef = .agg #[.int .u64 ((hiN (rs (y)) : Nat) : Int), .int .u64 ((loN (rs (y)) : Nat) : Int)] := (hb 157).trans (hdep 5 (by decide))
                    have e162 : bA.tmps[162]?.getD undef = .agg #[.int .u64 ((hiN (rs (pr)) : Nat) : Int), .int .u64 ((loN (rs (pr)) : Nat) : Int)] := (hb 162).trans (hdep 10 (by decide))
                    refine phx_call ?_ ((HAD.out w1).mono fun e w' h => ⟨_, h.1, h.2, rfl⟩)
                    clear hb hdep hold
                    go_simp
                  · intro x w1 bA hT hdep hold hb
                    refine ⟨fun _ => ?_, fun h => absurd h (by decide)⟩
                    refine .inl ⟨trivial, ?_⟩
                    have e152 : bA.tmps[152]?.getD undef = .slice (some ⟨gb, 0, none⟩) N N := (hb 152).trans (hdep 0 (by decide))
                    have e153 : bA.tmps[153]?.getD undef = .int .i64 (m : Int) := (hb 153).trans (hdep 1 (by decide))
                    have hmn := HMN.out
                    have hmn2 := HMI.out
                    refine phx_run (.pointer (some ⟨gb, m * 2, none⟩)) ?_ (Below.refl _ _) rfl
                    clear hb hdep hold
                    go_simp
                  · intro x w1 bA hT hdep hold hb
                    refine ⟨fun h => absurd h (by decide), fun _ hall => ?_⟩
                    refine ⟨trivial, ?_⟩
                    have e163 : bA.tmps[163]?.getD undef = .agg #[.int .u64 ((hiN (rs (sm)) : Nat) : Int), .int .u64 ((loN (rs (sm)) : Nat) : Int)] := (hb 163).trans (hdep 11 (by decide))
                    have e164 : bA.tmps[164]?.getD undef = .pointer (some ⟨gb, m * 2, none⟩) := (hb 164).trans (hdep 12 (by decide))
                    clear hb hdep hold
                    have HR := Lib.hid (HD.out.below hT)
                    have rr0 := HR.out.r.row.cell (m * 2)
                    have rr1 := HR.out.r.row.cell (m * 2 + 1)
                    rw [(wrow_get _ lo1 N m HMN.out).1] at rr0
                    rw [(wrow_get _ lo1 N m HMN.out).2] at rr1
                    have f0 := HR.out.r.row.frozen (m * 2)
                    have f1 := HR.out.r.row.frozen (m * 2 + 1)
                    refine phx_st (R := DvS w gb rb (rb + 1) lo1 N [.bool false, .slice (some ⟨pb, po, none⟩) k c] [.bool false, .slice (some ⟨qb, qo, none⟩) n2 c2] (rsT F v q ex (j + 1)) (.slice Av nv cv_) (rL (cf p) lo1 lo2 q (ix + 1))) ((w1.setCell ⟨gb, m * 2, none⟩ (.int .u64 ((hiN (rs sm) : Nat) : Int))).setCell ⟨gb, m * 2 + 1, none⟩ (.int .u64 ((loN (rs sm) : Nat) : Int))) ?_ rfl (HPUT.out w1 HR.out)
                    clear HR
                    go_simp
                  intro x9 w8 hR
                  have HR := Lib.hid hR
                  clear hR QT HD HPUT HWN HMI HMN HPR HAD HY
                  simp only [putAll, dstOf, Act.put, List.map_cons, List.map_nil, List.setIfInBounds_toArray, List.set_cons_succ, List.set_cons_zero, Nat.reduceAdd]
                  go_wp2_with fail
                  go_roundg (n2 - (j + 1))
                  case measure => omega
                  case rel => exact ⟨j + 1, by omega, rfl, by go_num, HR.out⟩
                · have z1 : ¬ (j : Int) < (n2 : Int) := by omega
                  obtain rfl : j = n2 := by omega
                  have HNX := Lib.hid (show DvS w gb rb (rb + 1) lo1 N [.bool false, .slice (some ⟨pb, po, none⟩) k c] [.bool false, .slice (some ⟨qb, qo, none⟩) j c2] (RS (cf p) lo1 lo2 q (ix + 1)) (.slice Av nv cv_) (rL (cf p) lo1 lo2 q (ix + 1)) wr from by
                    have e : rsT F v q ex j = RS (cf p) lo1 lo2 q (ix + 1) := by
                      rw [← HFE.out]
                      exact congrArg (rsT F v q ex) HNN2.out.2
                    rw [e] at hd
                    exact hd)
                  clear hd hj
                  go_wp2_with fail
                  go_roundg (sn + 1 - (ix + 1))
                  case measure => omega
                  case rel => exact ⟨ix + 1, _, by omega, rfl, by go_num, HNX.out⟩
          · have z1 : ¬ (ix : Int) < ((sn + 1 : Nat) : Int) := by omega
            obtain rfl : ix = sn + 1 := by omega
            have HDS := Lib.hid hds
            have hsN : sn + 1 ≤ N ∧ sn + 1 < N := by have := HDD.out; have := HND.out; omega
            have zst : IntKind.i64.wrap (st + 1) = ((sn + 1 : Nat) : Int) := by rw [← HND.out.2]; exact IntWalk.i64_in _ (by have := HDD.out; have := HND.out; omega)
            clear hds hi
            go_upto_region 36 with fail
            obtain ⟨M, hM⟩ : ∃ M, M = N - (sn + 1) := ⟨_, rfl⟩
            have HM := Lib.hid (show M + (sn + 1) = N from by omega)
            have hMb : M ≤ 10000000 := by have := HNB.out; omega
            rw [← hM]
            have HST := Lib.hid HND.out
            clear hM
            go_loopg [19, 172] M (fun gk s19 s172 wr => ∃ kk : Nat, kk ≤ M ∧ gk = M - kk ∧ s172 = .int .i64 (kk : Int) ∧ DvS w gb rb (rb + 1) lo1 N [.bool false, .slice (some ⟨pb, po, none⟩) k c] [.bool false, .slice (some ⟨qb, qo, none⟩) n2 c2] (RS (cf p) lo1 lo2 q (sn + 1)) s (rL (cf p) lo1 lo2 q (sn + 1)) wr ∧ Hid (∀ j : Nat, sn < j → j < sn + 1 + kk → RS (cf p) lo1 lo2 q (sn + 1) (lo1 + (j : Int)) = 0))
            case atStart => exact ⟨0, Nat.zero_le _, rfl, rfl, HDS.out, Lib.hid (fun j h1 h2 => by omega)⟩
            case round =>
              clear HDS
              obtain ⟨kk, hkk, rfl, rfl, hds, HZ⟩ := hrel
              by_cases hlt4 : kk < M
              · have z4 : (kk : Int) < (M : Int) := by omega
                have HIN := Lib.hid (show sn + 1 + kk < N by have := HM.out; omega)
                obtain ⟨x, hx⟩ : ∃ x, x = RS (cf p) lo1 lo2 q (sn + 1) (lo1 + ((sn + 1 + kk : Nat) : Int)) := ⟨_, rfl⟩
                have rr0 := hds.r.row.cell ((sn + 1 + kk) * 2)
                have rr1 := hds.r.row.cell ((sn + 1 + kk) * 2 + 1)
                rw [(wrow_get _ lo1 N (sn + 1 + kk) HIN.out).1, ← hx] at rr0
                rw [(wrow_get _ lo1 N (sn + 1 + kk) HIN.out).2, ← hx] at rr1
                rw [show (sn + 1 + kk) * 2 = (sn + 1) * 2 + kk * 2 by omega] at rr0 rr1
                have hxb := HRBB.out (sn + 1) (lo1 + ((sn + 1 + kk : Nat) : Int)) (by have := HND.out; omega)
                rw [← hx] at hxb
                have HZC := Lib.hid (fun W => wzero_any x W hxb.1 hxb.2)
                unfold wv at HZC
                have HX := Lib.hid hx
                have HDS := Lib.hid hds
                have hW8 : ∀ W, W = wr.alloc (.cells #[.int .u64 ((hiN (rs x) : Nat) : Int), .int .u64 ((loN (rs x) : Nat) : Int)] 61) → Arr W wr.heap.size 61 [.int .u64 ((hiN (rs x) : Nat) : Int), .int .u64 ((loN (rs x) : Nat) : Int)] ∧ DvS w gb rb (rb + 1) lo1 N [.bool false, .slice (some ⟨pb, po, none⟩) k c] [.bool false, .slice (some ⟨qb, qo, none⟩) n2 c2] (RS (cf p) lo1 lo2 q (sn + 1)) s (rL (cf p) lo1 lo2 q (sn + 1)) W := by
                  intro W hW
                  subst hW
                  exact ⟨Arr.new _ _ [_, _], HDS.out.below ((Below.refl _ _).alloc (Nat.le_refl _) _)⟩
                clear hds hx hxb
                go_upto_region 38 with fail
                generalize wr.alloc (.cells #[.int .u64 ((hiN (rs x) : Nat) : Int), .int .u64 ((loN (rs x) : Nat) : Int)] 61) = w8 at hW8 ⊢
                obtain ⟨qw, hds8⟩ := hW8 w8 rfl
                have yw0 := qw.cell 0
                have yw1 := qw.cell 1
                have HDS8 := Lib.hid hds8
                clear hW8 rr0 rr1 qw hds8 HDS
                go_wp2_with fail
                refine (HZC.out _).mono ?_
                rintro e w11 ⟨rfl, hb11⟩
                have HDS2 := Lib.hid (HDS8.out.below hb11)
                clear HZC HDS8 hb11 yw0 yw1
                by_cases h0 : x = 0
                · have zd : decide (x = 0) = true := decide_eq_true h0
                  have HZ2 := Lib.hid (show ∀ j : Nat, sn < j → j < sn + 1 + (kk + 1) → RS (cf p) lo1 lo2 q (sn + 1) (lo1 + (j : Int)) = 0 from fun j h1 h2 => by
                    by_cases e : j = sn + 1 + kk
                    · rw [e, ← HX.out]; exact h0
                    · exact HZ.out j h1 (by omega))
                  clear h0 HX HZ
                  go_wp2_with fail
                  go_roundg (M - (kk + 1))
                  case measure => omega
                  case rel => exact ⟨kk + 1, by omega, rfl, by go_num, HDS2.out, HZ2⟩
                · have zd : decide (x = 0) = false := decide_eq_false h0
                  have qr := HDS2.out.r.res
                  have f0 := qr.frozen 0
                  have f1 := qr.frozen 1
                  have x0 := qr.cell 0
                  have x1 := qr.cell 1
                  have HRS := Lib.hid ((qr.set 0 (.bool false)).set 1 (.slice none 0 0))
                  have HBE := Lib.hid ((HDS2.out.r.bel.setCell (p := ⟨w.heap.size + 2, 0, none⟩) (by show w.heap.size ≤ w.heap.size + 2; omega) (.bool false)).setCell (p := ⟨w.heap.size + 2, 1, none⟩) (by show w.heap.size ≤ w.heap.size + 2; omega) (.slice none 0 0))
                  have HP := Lib.hid (fun w' hb => HPOST.out (.returned (.tuple #[.agg #[.bool false, .slice none 0 0], .int .i64 10])) w' hb (.inr ⟨rfl, .inr ⟨sn, sn + 1 + kk, HND.out.2, by omega, by have := HND.out; have := HDD.out; have := HIN.out; omega, by rw [← HX.out]; exact h0⟩⟩))
                  clear qr HPOST h0 HX HZ
                  go_wp2_with fail
                  refine bodyPost_ret (v := .tuple #[.agg #[.bool false, .slice none 0 0], .int .i64 10]) (results_ct Tryz.results12 _ _ (w.heap.size + 2) 34 _ _ rfl HRS.out Tryz.underlying34 rfl info_poly) rfl ?_
                  exact HP.out _ HBE.out
              · have z4 : ¬ (kk : Int) < (M : Int) := by omega
                obtain rfl : kk = M := by omega
                obtain ⟨Ax, cx, hs⟩ := hds.own.form
                subst hs
                have qr := hds.r.res
                have q1 := hds.rr
                have y0 := q1.cell 0
                have y1 := q1.cell 1
                have f0 := qr.frozen 0
                have f1 := qr.frozen 1
                have x0 := qr.cell 0
                have x1 := qr.cell 1
                obtain ⟨RL, hRL⟩ : ∃ l, l = rL (cf p) lo1 lo2 q (sn + 1) := ⟨_, rfl⟩
                simp only [← hRL] at y1 hds q1
                have HRS := Lib.hid ((qr.set 0 (.bool false)).set 1 (.slice Ax RL.length cx))
                have HPB := Lib.hid ((PolyV.own hds.own).box qr (.bool false) (.slice Ax RL.length cx))
                have HBE := Lib.hid ((hds.r.bel.setCell (p := ⟨w.heap.size + 2, 0, none⟩) (by show w.heap.size ≤ w.heap.size + 2; omega) (.bool false)).setCell (p := ⟨w.heap.size + 2, 1, none⟩) (by show w.heap.size ≤ w.heap.size + 2; omega) (.slice Ax RL.length cx))
                have HP := Lib.hid (fun w' hb hpv => HPOST.out (.returned (.tuple #[.agg #[.bool false, .slice Ax RL.length cx], .int .i64 0])) w' hb (.inl ⟨sn, _, HND.out.2, fun j h1 h2 => HZ.out j h1 (by have := HND.out; have := HDD.out; have := HM.out; omega), rfl, by rw [← hRL]; exact hpv⟩))
                clear hds qr q1 hRL HPOST
                go_wp2_with fail
                refine bodyPost_ret (v := .tuple #[.agg #[.bool false, .slice Ax RL.length cx], .int .i64 0]) (results_ct Tryz.results12 _ _ (w.heap.size + 2) 34 _ _ rfl HRS.out Tryz.underlying34 rfl info_poly) rfl ?_
                exact HP.out _ HBE.out HPB.out
end Go.Proofs.YtnmidhlghhephaaGreatDoor
