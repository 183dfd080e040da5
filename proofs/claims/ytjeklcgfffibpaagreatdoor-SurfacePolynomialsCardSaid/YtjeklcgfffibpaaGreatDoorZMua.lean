/- laurent.Mul. -/
/- laurent.Mul at all polynomials. -/
import Derived.Test.YtjeklcgfffibpaaGreatDoorZAug
namespace Go.Proofs.YtjeklcgfffibpaaGreatDoor
open Go.RowKit
set_option linter.unusedVariables false

theorem mulP_none_left (q : Pol) : MulP none q none := by cases q <;> rfl
theorem mulP_none_right (p : Pol) : MulP p none none := by cases p <;> rfl
theorem mulP_nil_left (q : List (Int × Int)) : MulP (some []) (some q) (some []) := .inl ⟨[], rfl, Can.nil, Lim.nil, fun e => (cv_nil q e).symm⟩
theorem mulP_nil_right (p : List (Int × Int)) : MulP (some p) (some []) (some []) := .inl ⟨[], rfl, Can.nil, Lim.nil, fun e => rfl⟩
theorem wrow_zero (low : Int) (n : Nat) : wrow (cf []) low n = List.replicate (n * 2) (.int .u64 0) := by
  rw [List.eq_replicate_iff]
  refine ⟨wrow_len _ _ _, fun v hv => ?_⟩
  unfold wrow at hv
  obtain ⟨k, _, hk⟩ := List.mem_flatMap.1 hv
  simp only [cf_nil, wc, List.mem_cons, List.not_mem_nil, or_false] at hk
  rcases hk with rfl | rfl <;> rfl
theorem made_wide (low : Int) (n : Nat) : madeCells #[.int .u64 0, .int .u64 0] (n * 2) = rowOf (wrow (cf []) low n) := by
  rw [wrow_zero]
  unfold rowOf madeCells
  apply Array.ext
  · simp
  · intro i h1 h2
    simp only [List.getElem_toArray, List.getElem_replicate, Array.getElem_map, Array.getElem_range]
    have h3 : i % 2 = 0 ∨ i % 2 = 1 := by omega
    rcases h3 with h3 | h3 <;> simp [h3]
theorem info_wide3 : (Tryz.prog.info? 75).map (fun i => (i.zero, i.size, i.bytes)) = some (some (.agg #[.int .u64 0, .int .u64 0]), 2, 16) := by kernel_rfl
theorem run_make_wide (low : Int) (n : Nat) (hn : n ≤ 10000000) (W : World) : (Instr.makeSlice 71 (.int .i64 (n : Int)) (.int .i64 (n : Int))).run Tryz.prog W = .ok (.slice (some ⟨W.heap.size, 0, none⟩) n n) (W.alloc (.cells (rowOf (wrow (cf []) low n)) 75)) := by
  obtain ⟨i, hi, hz, hs, hby⟩ := info_parts info_wide3
  have h := run_make (P := Tryz.prog) W 71 75 i (.agg #[.int .u64 0, .int .u64 0]) Tryz.underlying71 hi hz .i64 .i64 (n : Int) (n : Int) (by omega) (Int.le_refl _) (by rw [hby]; omega) (by omega)
  rw [hs, Int.toNat_natCast, show (Value.agg #[.int .u64 0, .int .u64 0]).cells = #[.int .u64 0, .int .u64 0] from rfl, made_wide low n] at h
  exact h
theorem clo_dense (Sb Lb g n base : Nat) (low : Int) (p q : List (Int × Int)) (hin : ∀ s ∈ p, ∀ t ∈ q, low ≤ s.1 + t.1 ∧ s.1 + t.1 < low + n) (hn : n ≤ 1000000000) (hlo : -1000000000 ≤ low ∧ low ≤ 1000000000) (hgS : g ≠ Sb) (hgL : g ≠ Lb) (hbg : base ≤ g) : CloP 39 [.pointer (some ⟨Sb, 0, none⟩), .pointer (some ⟨Lb, 0, none⟩)] g base p q (fun d W => SumS Sb Lb g n low d W ∧ base ≤ W.heap.size) where
  eg := enters_of Tryz.func39 (by kernel_rfl) rfl
  st := fun done e c rest W h hJ => by
    have hm : (e, c) ∈ prs p q := by rw [h]; simp
    obtain ⟨s, hs, t, ht, he⟩ := prs_mem hm
    have h1 := hin s hs t ht
    have h3 : e = s.1 + t.1 := congrArg Prod.fst he
    exact (mulclo_any Sb Lb g n base low e c (e - low).toNat done W hJ.1 (by omega) (by omega) hn hlo hgS hgL hbg hJ.2).mono fun en w' ⟨a, b, o⟩ => ⟨a, ⟨b, Nat.le_trans hJ.2 o.below.size⟩, o⟩
  kp := fun done W W' h hb => ⟨h.1.kp hb, Nat.le_trans h.2 hb.size⟩
set_option maxHeartbeats 4000000 in
set_option maxRecDepth 100000 in
theorem Mul_some (vp vq : Value) (p q : List (Int × Int)) (w : World) (hp : PolyV w vp (some p)) (hq : PolyV w vq (some q)) (lp : Lim p) (kp : Can p) (lq : Lim q) (kq : Can q) (hnp : 0 < p.length) (hnq : 0 < q.length) :
    Calls Tryz.prog 16 #[vp, vq] w (MulR (some p) (some q) w) := by
  have HPV := Lib.hid (fun W (hb : Below w.heap.size w W) => hp.below hb)
  have HQV := Lib.hid (fun W (hb : Below w.heap.size w W) => hq.below hb)
  have HLM := Lib.hid (And.intro (And.intro lp kp) (And.intro lq kq))
  have hp2 := hp
  have hq2 := hq
  obtain ⟨A, c, rfl, _⟩ := hp2
  obtain ⟨A2, c2, rfl, _⟩ := hq2
  simp only [Option.isNone_some, Option.getD_some] at HPV HQV ⊢
  have hl1 := lowL_bd lp
  have hl2 := lowL_bd lq
  have hh1 := highL_bd lp
  have hh2 := highL_bd lq
  have HIN := Lib.hid (show ∀ s ∈ p, ∀ t ∈ q, lowL p + lowL q ≤ s.1 + t.1 ∧ s.1 + t.1 ≤ highL p + highL q from fun s hs t ht => by
    have := lowL_le kp.srt s hs
    have := lowL_le kq.srt t ht
    have := highL_ge kp.srt s hs
    have := highL_ge kq.srt t ht
    omega)
  have HEX := Lib.hid (show (∃ s ∈ p, ∃ t ∈ q, s.1 + t.1 = lowL p + lowL q) ∧ (∃ s ∈ p, ∃ t ∈ q, s.1 + t.1 = highL p + highL q) from ⟨⟨p[0], List.getElem_mem hnp, q[0], List.getElem_mem hnq, by rw [lowL_0 hnp, lowL_0 hnq]⟩, ⟨p[p.length - 1], List.getElem_mem (by omega), q[q.length - 1], List.getElem_mem (by omega), by rw [highL_0 hnp, highL_0 hnq]⟩⟩)
  have hlh := And.intro (lowhigh kp.srt) (lowhigh kq.srt)
  have hlen := And.intro (lp.len kp) (lq.len kq)
  obtain ⟨n, hn⟩ : ∃ n, n = p.length := ⟨_, rfl⟩
  obtain ⟨n2, hn2⟩ : ∃ n, n = q.length := ⟨_, rfl⟩
  rw [← hn] at HPV hlen hnp ⊢
  rw [← hn2] at HQV hlen hnq ⊢
  have HN := Lib.hid (And.intro hn hn2)
  have hW : ∀ W, W = (((w.alloc (.cells #[.bool false, .slice A n c] 39)).alloc (.cells #[.bool false, .slice A2 n2 c2] 39)).alloc (.cells #[.bool false, .slice none 0 0] 39)) → Arr W w.heap.size 39 [.bool false, .slice A n c] ∧ Arr W (w.heap.size + 1) 39 [.bool false, .slice A2 n2 c2] ∧ Arr W (w.heap.size + 2) 39 [.bool false, .slice none 0 0] ∧ Below w.heap.size w W ∧ W.heap.size = w.heap.size + 3 := by
    intro W hW
    subst hW
    exact ⟨((Arr.new _ _ [_, _]).alloc _).alloc _, (Arr.newAt (w.alloc _) _ [_, _] _ (by simp)).alloc _, Arr.newAt ((w.alloc _).alloc _) _ [_, _] _ (by simp), (((Below.refl _ _).alloc (Nat.le_refl _) _).alloc (by simp) _).alloc (by simp <;> omega) _, by simp⟩
  have zn : ((n : Int) == 0) = false := by simp; omega
  have zn2 : ((n2 : Int) == 0) = false := by simp; omega
  clear hp hq lp kp lq kq hn hn2
  go_enter Tryz.func16, Tryz.ntmps16
  go_upto_region 1 with fail
  generalize (((w.alloc (.cells #[.bool false, .slice A n c] 39)).alloc (.cells #[.bool false, .slice A2 n2 c2] 39)).alloc (.cells #[.bool false, .slice none 0 0] 39)) = w3 at hW ⊢
  obtain ⟨q0, q1, q2, hb3, hs3⟩ := hW w3 rfl
  clear hW
  have Q0 := Lib.hid q0
  have Q1 := Lib.hid q1
  have Q2 := Lib.hid q2
  have HB3 := Lib.hid hb3
  have HS3 := Lib.hid hs3
  have HLP := Lib.hid (fun W (hb : Below w3.heap.size w3 W) => Low_any (.agg #[.bool false, .slice A n c]) (some p) W (HPV.out W (hb3.trans (hb.mono hb3.size))) ⟨HLM.out.1.2, HLM.out.1.1⟩)
  have HLQ := Lib.hid (fun W (hb : Below w3.heap.size w3 W) => Low_any (.agg #[.bool false, .slice A2 n2 c2]) (some q) W (HQV.out W (hb3.trans (hb.mono hb3.size))) ⟨HLM.out.2.2, HLM.out.2.1⟩)
  have HHP := Lib.hid (fun W (hb : Below w3.heap.size w3 W) => High_any (.agg #[.bool false, .slice A n c]) (some p) W (HPV.out W (hb3.trans (hb.mono hb3.size))) ⟨HLM.out.1.2, HLM.out.1.1⟩)
  have HHQ := Lib.hid (fun W (hb : Below w3.heap.size w3 W) => High_any (.agg #[.bool false, .slice A2 n2 c2]) (some q) W (HQV.out W (hb3.trans (hb.mono hb3.size))) ⟨HLM.out.2.2, HLM.out.2.1⟩)
  simp only [Option.getD_some] at HLP HLQ HHP HHQ
  have y0 := q0.cell 0
  have y1 := q0.cell 1
  have y2 := q1.cell 0
  have y3 := q1.cell 1
  go_upto_region 5 with fail
  have HLLQ := Lib.hid (show lowL p = lowL p from rfl)
  obtain ⟨lo1, hlo1⟩ : ∃ x, x = lowL p := ⟨_, rfl⟩
  obtain ⟨lo2, hlo2⟩ : ∃ x, x = lowL q := ⟨_, rfl⟩
  obtain ⟨hi1, hhi1⟩ : ∃ x, x = highL p := ⟨_, rfl⟩
  obtain ⟨hi2, hhi2⟩ : ∃ x, x = highL q := ⟨_, rfl⟩
  rw [← hlo1] at hl1 hlh HLP HIN HEX
  rw [← hlo2] at hl2 hlh HLQ HIN HEX
  rw [← hhi1] at hh1 hlh HHP HIN HEX
  rw [← hhi2] at hh2 hlh HHQ HIN HEX
  obtain ⟨lo, hlo⟩ : ∃ x, x = lo1 + lo2 := ⟨_, rfl⟩
  obtain ⟨hi, hhi⟩ : ∃ x, x = hi1 + hi2 := ⟨_, rfl⟩
  rw [← hlo, ← hhi] at HIN HEX
  have HWL := Lib.hid (show IntKind.i64.wrap (lo1 + lo2) = lo by rw [hlo]; exact IntWalk.i64_in _ (by omega))
  have HWH := Lib.hid (show IntKind.i64.wrap (hi1 + hi2) = hi by rw [hhi]; exact IntWalk.i64_in _ (by omega))
  have hlb : -2097152 ≤ lo ∧ lo ≤ hi ∧ hi ≤ 2097152 := by omega
  clear HLLQ hlo1 hlo2 hhi1 hhi2 hlo hhi hl1 hl2 hh1 hh2 hlh q0 q1 q2 hb3 hs3 y0 y1 y2 y3
  go_cut [5, 6] (fun s5 s6 wx => ∃ g, s5 = .pointer (some ⟨g, 0, none⟩) ∧ s6 = .int .i64 hi ∧ w3.heap.size ≤ g ∧ Arr wx g 3 [.int .i64 lo] ∧ Below w3.heap.size w3 wx)
  case first =>
    refine wp_region_phil 11 (fun i => decide (i = 9) || decide (i = 12)) (by kernel_rfl) (by kernel_rfl) (by kernel_rfl) (by kernel_rfl) (by kernel_rfl) rfl (by simp) (by kernel_rfl) (fun i => ([some (.agg #[.bool false, .slice A n c]), some (.int .i64 lo1), some (.agg #[.bool false, .slice A2 n2 c2]), some (.int .i64 lo2), some (.int .i64 lo), some (.agg #[.bool false, .slice A n c]), some (.int .i64 hi1), some (.agg #[.bool false, .slice A2 n2 c2]), some (.int .i64 hi2), some (.int .i64 hi), none, none, some (.int .i64 hi)] : List (Option Value)).getD i none) (phiT (fun i => ([some (.agg #[.bool false, .slice A n c]), some (.int .i64 lo1), some (.agg #[.bool false, .slice A2 n2 c2]), some (.int .i64 lo2), some (.int .i64 lo), some (.agg #[.bool false, .slice A n c]), some (.int .i64 hi1), some (.agg #[.bool false, .slice A2 n2 c2]), some (.int .i64 hi2), some (.int .i64 hi), none, none, some (.int .i64 hi)] : List (Option Value)).getD i none) (fun i v w => (if i = 10 then (fun v w => ∃ g, v = .pointer (some ⟨g, 0, none⟩) ∧ w3.heap.size ≤ g ∧ Arr w g 3 [.int .i64 0]) v w else True))) (fun i v w w' h hb => ?_) (fun i u v w h he => ?_) (fun x W => ∃ g, x 10 = .pointer (some ⟨g, 0, none⟩) ∧ w3.heap.size ≤ g ∧ Arr W g 3 [.int .i64 lo] ∧ Below w3.heap.size w3 W) (fun x w i v hl h => ?_) ⟨?_, ?_, ?_, ?_, ?_, ?_, ?_, ?_, ?_, ?_, ?_, ?_, ?_, trivial⟩ ?_
    · unfold phiT at h ⊢
      split
      · next u hu => rw [hu] at h; exact h
      · next hu =>
        rw [hu] at h
        simp only at h ⊢
        by_cases q10 : i = 10
        · rw [if_pos q10] at h ⊢; exact by obtain ⟨g, h1, h2, h3⟩ := h; exact ⟨g, h1, h2, h3.below hb h3.lt⟩
        · rw [if_neg q10] at h ⊢
          trivial
    · exact phiT_val h he
    · simp only [Bool.or_eq_true, decide_eq_true_eq, Bool.false_eq_true] at hl
      rcases hl with rfl | rfl
      · exact by simpa [upd] using h
      · exact by simpa [upd] using h
    · intro x w1 bA hold hb
      refine ⟨fun _ _ hbel hdep => ?_, fun h => absurd h (by decide), fun h => absurd h (by decide)⟩
      have e2 : bA.tmps[2]?.getD undef = .pointer (some ⟨w.heap.size, 0, none⟩) := hb 2
      have cc0 := (Q0.out.below hbel Q0.out.lt).cell 0
      have cc1 := (Q0.out.below hbel Q0.out.lt).cell 1
      refine phi_run (.agg #[.bool false, .slice A n c]) ?_ rfl
      clear hb hdep hold
      go_simp
    · intro x w1 bA hold hb
      refine ⟨fun _ _ hbel hdep => ?_, fun h => absurd h (by decide), fun h => absurd h (by decide)⟩
      have e31 : bA.tmps[31]?.getD undef = .agg #[.bool false, .slice A n c] := (hb 31).trans (hdep 0 (by decide))
      refine phi_call ?_ ((HLP.out w1 hbel).mono fun e w' h => ⟨_, h.1, h.2, rfl⟩)
      clear hb hdep hold
      go_simp
    · intro x w1 bA hold hb
      refine ⟨fun _ _ hbel hdep => ?_, fun h => absurd h (by decide), fun h => absurd h (by decide)⟩
      have e3 : bA.tmps[3]?.getD undef = .pointer (some ⟨w.heap.size + 1, 0, none⟩) := hb 3
      have cc0 := (Q1.out.below hbel Q1.out.lt).cell 0
      have cc1 := (Q1.out.below hbel Q1.out.lt).cell 1
      refine phi_run (.agg #[.bool false, .slice A2 n2 c2]) ?_ rfl
      clear hb hdep hold
      go_simp
    · intro x w1 bA hold hb
      refine ⟨fun _ _ hbel hdep => ?_, fun h => absurd h (by decide), fun h => absurd h (by decide)⟩
      have e33 : bA.tmps[33]?.getD undef = .agg #[.bool false, .slice A2 n2 c2] := (hb 33).trans (hdep 2 (by decide))
      refine phi_call ?_ ((HLQ.out w1 hbel).mono fun e w' h => ⟨_, h.1, h.2, rfl⟩)
      clear hb hdep hold
      go_simp
    · intro x w1 bA hold hb
      refine ⟨fun _ _ hbel hdep => ?_, fun h => absurd h (by decide), fun h => absurd h (by decide)⟩
      have e32 : bA.tmps[32]?.getD undef = .int .i64 lo1 := (hb 32).trans (hdep 1 (by decide))
      have e34 : bA.tmps[34]?.getD undef = .int .i64 lo2 := (hb 34).trans (hdep 3 (by decide))
      have cw := HWL.out
      refine phi_run (.int .i64 lo) ?_ rfl
      clear hb hdep hold
      go_simp
    · intro x w1 bA hold hb
      refine ⟨fun _ _ hbel hdep => ?_, fun h => absurd h (by decide), fun h => absurd h (by decide)⟩
      have e2 : bA.tmps[2]?.getD undef = .pointer (some ⟨w.heap.size, 0, none⟩) := hb 2
      have cc0 := (Q0.out.below hbel Q0.out.lt).cell 0
      have cc1 := (Q0.out.below hbel Q0.out.lt).cell 1
      refine phi_run (.agg #[.bool false, .slice A n c]) ?_ rfl
      clear hb hdep hold
      go_simp
    · intro x w1 bA hold hb
      refine ⟨fun _ _ hbel hdep => ?_, fun h => absurd h (by decide), fun h => absurd h (by decide)⟩
      have e36 : bA.tmps[36]?.getD undef = .agg #[.bool false, .slice A n c] := (hb 36).trans (hdep 5 (by decide))
      refine phi_call ?_ ((HHP.out w1 hbel).mono fun e w' h => ⟨_, h.1, h.2, rfl⟩)
      clear hb hdep hold
      go_simp
    · intro x w1 bA hold hb
      refine ⟨fun _ _ hbel hdep => ?_, fun h => absurd h (by decide), fun h => absurd h (by decide)⟩
      have e3 : bA.tmps[3]?.getD undef = .pointer (some ⟨w.heap.size + 1, 0, none⟩) := hb 3
      have cc0 := (Q1.out.below hbel Q1.out.lt).cell 0
      have cc1 := (Q1.out.below hbel Q1.out.lt).cell 1
      refine phi_run (.agg #[.bool false, .slice A2 n2 c2]) ?_ rfl
      clear hb hdep hold
      go_simp
    · intro x w1 bA hold hb
      refine ⟨fun _ _ hbel hdep => ?_, fun h => absurd h (by decide), fun h => absurd h (by decide)⟩
      have e38 : bA.tmps[38]?.getD undef = .agg #[.bool false, .slice A2 n2 c2] := (hb 38).trans (hdep 7 (by decide))
      refine phi_call ?_ ((HHQ.out w1 hbel).mono fun e w' h => ⟨_, h.1, h.2, rfl⟩)
      clear hb hdep hold
      go_simp
    · intro x w1 bA hold hb
      refine ⟨fun h => absurd h (by decide), fun h => absurd h (by decide), fun _ hdep => ⟨.int .i64 hi, rfl, ?_, rfl⟩⟩
      have e37 : bA.tmps[37]?.getD undef = .int .i64 hi1 := (hb 37).trans (hdep 6 (by decide) _ rfl)
      have e39 : bA.tmps[39]?.getD undef = .int .i64 hi2 := (hb 39).trans (hdep 8 (by decide) _ rfl)
      have cw := HWH.out
      clear hb hdep hold
      go_simp
    · intro x w1 bA hold hb
      refine ⟨fun _ _ hbel hdep => ?_, fun h => absurd h (by decide), fun h => absurd h (by decide)⟩
      refine phi_make (.pointer (some ⟨w1.heap.size, 0, none⟩)) (w1.alloc (.cells #[.int .i64 0] 3)) ?_ ((Below.refl _ _).alloc (Nat.le_refl _) _) (⟨w1.heap.size, rfl, hbel.size, Arr.new w1 3 [.int .i64 0]⟩)
      clear hb hdep hold
      go_simp
    · intro x w1 bA hold hb
      refine ⟨fun _ h => absurd rfl h, fun _ hbel hdep => ?_, fun h => absurd h (by decide)⟩
      have p5 := hdep 10 (by decide)
      have e5 : bA.tmps[5]?.getD undef = x 10 := hb 5
      have P5 := Lib.hid (show (fun v w => ∃ g, v = .pointer (some ⟨g, 0, none⟩) ∧ w3.heap.size ≤ g ∧ Arr w g 3 [.int .i64 0]) (x 10) w1 from p5)
      clear p5
      have e35 : bA.tmps[35]?.getD undef = .int .i64 lo := (hb 35).trans (hdep 4 (by decide))
      clear hb hdep hold
      obtain ⟨g, e5b, hg, ag⟩ := P5.out
      rw [e5b] at e5
      have c0 := ag.cell 0
      have f0 := ag.frozen 0
      have AG := Lib.hid ag
      have HX5 := Lib.hid e5b
      have HBL := Lib.hid hbel
      clear ag e5b P5 hbel
      refine phl_st (R := fun x W => ∃ g, x 10 = .pointer (some ⟨g, 0, none⟩) ∧ w3.heap.size ≤ g ∧ Arr W g 3 [.int .i64 lo] ∧ Below w3.heap.size w3 W) (w1.setCell ⟨g, 0, none⟩ (.int .i64 lo)) ?_ rfl (fun v => ⟨g, (by simpa [upd] using HX5.out), hg, AG.out.set 0 _, HBL.out.setCell (p := ⟨g, 0, none⟩) hg _⟩) rfl
      go_simp
    · intro x w1 bA hold hb
      refine ⟨fun h => absurd h (by decide), fun h => absurd h (by decide), fun _ hdep => ⟨.int .i64 hi, rfl, ?_, rfl⟩⟩
      have e40 : bA.tmps[40]?.getD undef = .int .i64 hi := (hb 40).trans (hdep 9 (by decide) _ rfl)
      clear hb hdep hold
      go_simp
    intro x w1 hR hall
    have x0e : x 0 = .agg #[.bool false, .slice A n c] := hall 0 _ (by simp) rfl
    have x1e : x 1 = .int .i64 lo1 := hall 1 _ (by simp) rfl
    have x2e : x 2 = .agg #[.bool false, .slice A2 n2 c2] := hall 2 _ (by simp) rfl
    have x3e : x 3 = .int .i64 lo2 := hall 3 _ (by simp) rfl
    have x4e : x 4 = .int .i64 lo := hall 4 _ (by simp) rfl
    have x5e : x 5 = .agg #[.bool false, .slice A n c] := hall 5 _ (by simp) rfl
    have x6e : x 6 = .int .i64 hi1 := hall 6 _ (by simp) rfl
    have x7e : x 7 = .agg #[.bool false, .slice A2 n2 c2] := hall 7 _ (by simp) rfl
    have x8e : x 8 = .int .i64 hi2 := hall 8 _ (by simp) rfl
    have x9e : x 9 = .int .i64 hi := hall 9 _ (by simp) rfl
    have x12e : x 12 = .int .i64 hi := hall 12 _ (by simp) rfl
    simp only [putAll, dstOf, Act.put, List.map_cons, List.map_nil, List.setIfInBounds_toArray, List.set_cons_succ, List.set_cons_zero, Nat.reduceAdd, x0e, x1e, x2e, x3e, x4e, x5e, x6e, x7e, x8e, x9e, x12e]
    clear x0e x1e x2e x3e x4e x5e x6e x7e x8e x9e x12e hall
    obtain ⟨g, hx5, hg, ag, hbl⟩ := hR
    rw [hx5]
    go_wp2_with fail
    go_meet
    exact ⟨g, rfl, rfl, hg, ag, hbl⟩
  case rest =>
    clear HWL HWH HLP HLQ HHP HHQ
    obtain ⟨g, rfl, rfl, hg, ag, hbl⟩ := hcut
    have HQ2 := Lib.hid (Q2.out.below hbl Q2.out.lt)
    have HB4 := Lib.hid (HB3.out.trans (hbl.mono HB3.out.size))
    have HG := Lib.hid (show w.heap.size + 3 ≤ g from by have := HS3.out; omega)
    have q0 := Q0.out.below hbl Q0.out.lt
    have q1 := Q1.out.below hbl Q1.out.lt
    have HQ0 := Lib.hid q0
    have HQ1 := Lib.hid q1
    have HAG := Lib.hid ag
    have y0 := q0.cell 0
    have y1 := q0.cell 1
    have y2 := q1.cell 0
    have y3 := q1.cell 1
    have yg := ag.cell 0
    clear q0 q1 ag hbl hg Q0 Q1 Q2 HB3 HS3
    have HFB := Lib.hid (show ∀ wr : World, Below w.heap.size w wr → Arr wr (w.heap.size + 2) 39 [.bool false, .slice none 0 0] → Arr ((wr.setCell ⟨w.heap.size + 2, 0, none⟩ (.bool true)).setCell ⟨w.heap.size + 2, 1, none⟩ (.slice none 0 0)) (w.heap.size + 2) 39 [.bool true, .slice none 0 0] ∧ Below w.heap.size w ((wr.setCell ⟨w.heap.size + 2, 0, none⟩ (.bool true)).setCell ⟨w.heap.size + 2, 1, none⟩ (.slice none 0 0)) from fun wr hb hq => ⟨(hq.set 0 (.bool true)).set 1 (.slice none 0 0), (hb.setCell (p := ⟨w.heap.size + 2, 0, none⟩) (by show w.heap.size ≤ w.heap.size + 2; omega) (.bool true)).setCell (p := ⟨w.heap.size + 2, 1, none⟩) (by show w.heap.size ≤ w.heap.size + 2; omega) (.slice none 0 0)⟩)
    by_cases c1 : lo < -1048576
    · have HBAD := Lib.hid (show MulP (some p) (some q) none from .inr ⟨rfl, .inr (by obtain ⟨s, hs, t, ht, he⟩ := HEX.out.1; exact ⟨s, hs, t, ht, .inl (by omega)⟩)⟩)
      obtain ⟨hr, hb⟩ := HFB.out _ HB4.out HQ2.out
      have HR := Lib.hid hr
      have HB := Lib.hid hb
      have f0 := HQ2.out.frozen 0
      have f1 := HQ2.out.frozen 1
      have x0 := HQ2.out.cell 0
      have x1 := HQ2.out.cell 1
      clear hr hb y0 y1 y2 y3 HFB
      go_wp2_with fail
      refine bodyPost_ret (v := .agg #[.bool true, .slice none 0 0]) (results_c Tryz.results16 _ _ (w.heap.size + 2) 39 _ _ rfl HR.out Tryz.underlying39 rfl info_poly) rfl ?_
      exact ⟨_, _, rfl, PolyV.big _, HBAD.out, HB.out⟩
    by_cases c2 : hi > 1048576
    · have HBAD := Lib.hid (show MulP (some p) (some q) none from .inr ⟨rfl, .inr (by obtain ⟨s, hs, t, ht, he⟩ := HEX.out.2; exact ⟨s, hs, t, ht, .inr (by omega)⟩)⟩)
      obtain ⟨hr, hb⟩ := HFB.out _ HB4.out HQ2.out
      have HR := Lib.hid hr
      have HB := Lib.hid hb
      have f0 := HQ2.out.frozen 0
      have f1 := HQ2.out.frozen 1
      have x0 := HQ2.out.cell 0
      have x1 := HQ2.out.cell 1
      clear hr hb y0 y1 y2 y3 HFB
      go_wp2_with fail
      refine bodyPost_ret (v := .agg #[.bool true, .slice none 0 0]) (results_c Tryz.results16 _ _ (w.heap.size + 2) 39 _ _ rfl HR.out Tryz.underlying39 rfl info_poly) rfl ?_
      exact ⟨_, _, rfl, PolyV.big _, HBAD.out, HB.out⟩
    have c3 : -1048576 ≤ lo := by omega
    have c4 : hi ≤ 1048576 := by omega
    clear c1 c2
    have HT0 := Lib.hid (show ∀ x : Int, x = x from fun _ => rfl)
    clear HT0
    by_cases hT : wrap64 (64 + wrap64 (4 * (n : Int) * (n2 : Int))) < hi - lo
    · have HSP := Lib.hid (sparse_any (.agg #[.bool false, .slice A n c]) (.agg #[.bool false, .slice A2 n2 c2]) p q wc (HPV.out wc HB4.out) (HQV.out wc HB4.out) HLM.out.1.1 HLM.out.1.2 HLM.out.2.1 HLM.out.2.2 (fun s hs t ht => by have := HIN.out s hs t ht; omega))
      clear HFB
      go_wp2_with fail
      refine HSP.out.mono ?_
      rintro e w5 ⟨v, r, rfl, hv, hr, hb5⟩
      have q5 := HQ2.out.below hb5 HQ2.out.lt
      have HB5 := Lib.hid (HB4.out.trans (hb5.mono HB4.out.size))
      have HV := Lib.hid (fun u1 u2 => hv.box q5 u1 u2)
      have HR := Lib.hid hr
      obtain ⟨b5, A5, n5, c5, rfl, j5, j6⟩ := hv.parts
      clear j5 j6 hv hr y0 y1 y2 y3 yg hb5 HSP hT
      have x0 := q5.cell 0
      have x1 := q5.cell 1
      have f0 := q5.frozen 0
      have f1 := q5.frozen 1
      have hres := Lib.hid ((q5.set 0 (.bool b5)).set 1 (.slice A5 n5 c5))
      clear q5
      go_wp2_with fail
      refine bodyPost_ret (v := .agg #[.bool b5, .slice A5 n5 c5]) (results_c Tryz.results16 _ _ (w.heap.size + 2) 39 _ _ rfl hres.out Tryz.underlying39 rfl info_poly) rfl ?_
      exact ⟨_, r, rfl, HV.out _ _, HR.out, (HB5.out.setCell (p := ⟨w.heap.size + 2, 0, none⟩) (by show w.heap.size ≤ w.heap.size + 2; omega) _).setCell (p := ⟨w.heap.size + 2, 1, none⟩) (by show w.heap.size ≤ w.heap.size + 2; omega) _⟩
    · obtain ⟨N, hN⟩ : ∃ N : Nat, hi - lo + 1 = (N : Int) := ⟨(hi - lo + 1).toNat, by omega⟩
      have hNb : N ≤ 4194305 := by omega
      have hmk := run_make_wide lo N (by omega) wc
      have hW5 : ∀ W, W = ((wc.alloc (.cells (rowOf (wrow (cf []) lo N)) 75)).alloc (.cells #[.slice (some ⟨wc.heap.size, 0, none⟩) N N] 71)) → SumS (wc.heap.size + 1) g wc.heap.size N lo [] W ∧ Arr W w.heap.size 39 [.bool false, .slice A n c] ∧ Arr W (w.heap.size + 1) 39 [.bool false, .slice A2 n2 c2] ∧ Arr W (w.heap.size + 2) 39 [.bool false, .slice none 0 0] ∧ Below wc.heap.size wc W ∧ W.heap.size = wc.heap.size + 2 := by
        intro W hW
        subst hW
        exact ⟨⟨Arr.newAt (wc.alloc _) _ [_] _ (by simp), (HAG.out.alloc _).alloc _, (Arr.new _ _ _).alloc _⟩, (HQ0.out.alloc _).alloc _, (HQ1.out.alloc _).alloc _, (HQ2.out.alloc _).alloc _, ((Below.refl _ _).alloc (Nat.le_refl _) _).alloc (by simp) _, by simp⟩
      clear HFB
      go_upto_region 11 with fail
      generalize ((wc.alloc (.cells (rowOf (wrow (cf []) lo N)) 75)).alloc (.cells #[.slice (some ⟨wc.heap.size, 0, none⟩) N N] 71)) = w5 at hW5 ⊢
      obtain ⟨hj5, q0, q1, q2, hb5, hs5⟩ := hW5 w5 rfl
      have hgw : g < wc.heap.size := HAG.out.lt
      have hwz : w.heap.size + 3 ≤ wc.heap.size := by have := HG.out; omega
      obtain ⟨gb, hgb⟩ : ∃ b, b = wc.heap.size := ⟨_, rfl⟩
      rw [← hgb] at hj5 hs5 hgw hwz ⊢
      have hb05 := HB4.out.trans (hb5.mono HB4.out.size)
      have HIN2 := Lib.hid (show ∀ s ∈ p, ∀ t ∈ q, lo ≤ s.1 + t.1 ∧ s.1 + t.1 < lo + N from fun s hs t ht => by have := HIN.out s hs t ht; omega)
      have HPR := Lib.hid (products_reg2 39 (.pointer (some ⟨gb + 1, 0, none⟩)) (.pointer (some ⟨g, 0, none⟩)) gb w.heap.size p q _ (clo_dense (gb + 1) g gb N w.heap.size lo p q HIN2.out (by omega) (by omega) (by omega) (by omega) (by omega)) (.agg #[.bool false, .slice A n c]) (.agg #[.bool false, .slice A2 n2 c2]) w5 (fun W hb => HPV.out W (hb05.trans hb)) (fun W hb => HQV.out W (hb05.trans hb)) HLM.out.1.1 HLM.out.1.2 HLM.out.2.1 HLM.out.2.2 (by omega) (by omega) ⟨hj5, by omega⟩)
      have y0 := q0.cell 0
      have y1 := q0.cell 1
      have y2 := q1.cell 0
      have y3 := q1.cell 1
      have HQ5 := Lib.hid q2
      have HB5 := Lib.hid hb05
      have HGB := Lib.hid (show g < gb ∧ w.heap.size + 3 ≤ gb ∧ gb + 2 ≤ w5.heap.size from ⟨hgw, hwz, by omega⟩)
      clear hW5 hj5 q0 q1 q2 hb5 hs5 hgw hwz hgb hb05 hmk HAG HQ0 HQ1 HQ2 HB4 yg hT HG
      go_wp2_with fail
      refine HPR.out.mono ?_
      rintro e w6 ⟨rfl, hj6, ho6⟩
      have HJ6 := Lib.hid hj6.1
      have HB6 := Lib.hid (HB5.out.trans ho6.below)
      have HQ6 := Lib.hid (ho6.at_ HQ5.out (by have := HGB.out; omega))
      have HS6 := Lib.hid (show gb + 2 ≤ w6.heap.size from by have := ho6.below.size; have := HGB.out; omega)
      clear HPR hj6 ho6 y0 y1 y2 y3 HQ5 HB5
      have hW7 : ∀ W, W = w6.alloc (.cells #[.bool false, .slice none 0 0] 39) → SumS (gb + 1) g gb N lo (prs p q) W ∧ Arr W (w.heap.size + 2) 39 [.bool false, .slice none 0 0] ∧ Arr W w6.heap.size 39 [.bool false, .slice none 0 0] ∧ Below w.heap.size w W ∧ W.heap.size = w6.heap.size + 1 := by
        intro W hW
        subst hW
        have hb : Below w6.heap.size w6 (w6.alloc (.cells #[.bool false, .slice none 0 0] 39)) := (Below.refl _ _).alloc (Nat.le_refl _) _
        exact ⟨HJ6.out.kp hb, HQ6.out.below hb HQ6.out.lt, Arr.new _ _ [_, _], HB6.out.trans (hb.mono (by have := HS6.out; have := HGB.out; omega)), by simp⟩
      go_upto_region 13 with fail
      generalize (w6.alloc (.cells #[.bool false, .slice none 0 0] 39)) = w7 at hW7 ⊢
      obtain ⟨hj7, qr7, qb7, hb7, hs7⟩ := hW7 w7 rfl
      obtain ⟨rb, hrb⟩ : ∃ r, r = w6.heap.size := ⟨_, rfl⟩
      rw [← hrb] at qb7 hs7 HS6 ⊢
      have HJ7 := Lib.hid hj7
      have HQ7 := Lib.hid qr7
      have HB7 := Lib.hid hb7
      have HS7 := Lib.hid (show gb + 2 ≤ rb ∧ rb < w7.heap.size ∧ w.heap.size + 3 ≤ gb ∧ g < gb from ⟨HS6.out, by omega, HGB.out.2.1, HGB.out.1⟩)
      have HST := Lib.hid (show LSt w.heap.size w7.heap.size rb w7 (.slice none 0 0) [] w7 from ⟨OwnT.nil _ _, qb7, fun _ _ _ => rfl, Below.refl _ _, Nat.le_refl _⟩)
      have HF := Lib.hid (show ∀ e, cf (prs p q) e = cv p q e from cf_prs p q)
      have HBD := Lib.hid (HLM.out.1.1.cvbd HLM.out.1.2 HLM.out.2.1 HLM.out.2.2)
      have HEND := Lib.hid (show (∀ i : Nat, i < N → -1125899906842624 ≤ cv p q (lo + i) ∧ cv p q (lo + i) ≤ 1125899906842624) → MulP (some p) (some q) (some (dense (cv p q) lo N)) from fun h => mul_end (by omega) (by omega) HIN2.out h)
      have HBAD := Lib.hid (show ∀ e, ¬ (-1125899906842624 ≤ cv p q e ∧ cv p q e ≤ 1125899906842624) → MulP (some p) (some q) none from fun e h => mul_bad h)
      obtain ⟨F, hFF⟩ : ∃ f, f = cv p q := ⟨_, rfl⟩
      rw [← hFF] at HF HBD HEND HBAD
      have y0 := hj7.ss.cell 0
      have HLOB := Lib.hid (show -1048576 ≤ lo ∧ lo + N ≤ 1048577 by omega)
      clear hW7 hj7 qr7 qb7 hb7 hs7 hrb hFF HJ6 HQ6 HB6 HS6 HGB HIN HIN2 HEX HLM HPV HQV HN hlen
      go_wp2_with fail
      clear y0
      go_loopg [9, 10, 11, 12, 75] N (fun gk s9 s10 s11 s12 s75 wr => ∃ (k : Nat) (s : Value), k ≤ N ∧ gk = N - k ∧ s75 = .int .i64 (k : Int) ∧ LSt w.heap.size w7.heap.size rb w7 s (dense F lo k) wr ∧ Hid (∀ i : Nat, i < k → -1125899906842624 ≤ F (lo + i) ∧ F (lo + i) ≤ 1125899906842624))
      case atStart => exact ⟨0, _, Nat.zero_le _, rfl, rfl, HST.out, Lib.hid (fun i h => by omega)⟩
      case round =>
        clear HST
        obtain ⟨k, s, hk, rfl, rfl, hst, HK⟩ := hrel
        have h57 := HS7.out
        have hlob := HLOB.out
        by_cases hlt : k < N
        · have z1 : (k : Int) < (N : Int) := by omega
          have hss := hst.arr HJ7.out.ss (by omega) (by omega)
          have hll := hst.arr HJ7.out.ll (by omega) (by omega)
          have hrow := hst.arr HJ7.out.row (by omega) (by omega)
          have rr0 := hrow.cell (k * 2)
          have rr1 := hrow.cell (k * 2 + 1)
          rw [(wrow_get _ lo N k hlt).1, HF.out] at rr0
          rw [(wrow_get _ lo N k hlt).2, HF.out] at rr1
          have hbd := HBD.out (lo + (k : Int))
          have HSM := Lib.hid (fun W => wsmall_any (F (lo + (k : Int))) W (by omega) (by omega))
          have HSN := Lib.hid (show dense F lo (k + 1) = dense F lo k ++ if F (lo + (k : Int)) = 0 then [] else [(lo + (k : Int), F (lo + (k : Int)))] from rfl)
          have HKN2 := Lib.hid (show (-1125899906842624 ≤ F (lo + (k : Int)) ∧ F (lo + (k : Int)) ≤ 1125899906842624) → ∀ i : Nat, i < k + 1 → -1125899906842624 ≤ F (lo + i) ∧ F (lo + i) ≤ 1125899906842624 from fun h i hi => by
            by_cases q : i = k
            · rw [q]; exact h
            · exact HK.out i (by omega))
          have HRL := Lib.hid (show (dense F lo k).length ≤ 100000000 from by have := dense_len F lo k; omega)
          have HLL := Lib.hid hll
          generalize dense F lo k = R at *
          have HST := Lib.hid hst
          have HB := Lib.hid (HB7.out.trans hst.bel)
          have HQ := Lib.hid (hst.arr HQ7.out (by omega) (by omega))
          obtain ⟨Ax, nx, cx, rfl⟩ := hst.own.form3
          have HBX := Lib.hid (HBAD.out (lo + (k : Int)))
          have HCS := Lib.hid (smB_cases (F (lo + (k : Int))))
          obtain ⟨fv, hfv⟩ : ∃ v, v = F (lo + (k : Int)) := ⟨_, rfl⟩
          rw [← hfv] at rr0 rr1 HSM HSN HKN2 HBX HCS
          clear hst hss hll hrow hbd HK hfv
          have hW8 : ∀ W, W = wr.alloc (.cells #[.int .u64 ((hiN (rs fv) : Nat) : Int), .int .u64 ((loN (rs fv) : Nat) : Int)] 75) → Arr W wr.heap.size 75 [.int .u64 ((hiN (rs fv) : Nat) : Int), .int .u64 ((loN (rs fv) : Nat) : Int)] ∧ Below wr.heap.size wr W := by
            intro W hW
            subst hW
            exact ⟨Arr.new _ _ [_, _], (Below.refl _ _).alloc (Nat.le_refl _) _⟩
          go_upto_region 16 with fail
          generalize (wr.alloc (.cells #[.int .u64 ((hiN (rs fv) : Nat) : Int), .int .u64 ((loN (rs fv) : Nat) : Int)] 75)) = w8 at hW8 ⊢
          obtain ⟨qw, hb8⟩ := hW8 w8 rfl
          have hst8 := HST.out.below hb8 (by omega) (by omega)
          have HST8 := Lib.hid hst8
          have HB8 := Lib.hid (HB.out.trans (hb8.mono HB.out.size))
          have HQ8 := Lib.hid (HQ.out.below hb8 HQ.out.lt)
          have HL8 := Lib.hid (HLL.out.below hb8 HLL.out.lt)
          have yw0 := qw.cell 0
          have yw1 := qw.cell 1
          clear hW8 rr0 rr1 hb8 qw hst8 HST HB HQ HLL
          rcases HCS.out with ⟨g1, g2, g3⟩ | ⟨g1, g2⟩
          · have HG3 := Lib.hid g3
            have HK3 := Lib.hid (HKN2.out g3)
            rw [g1, g2] at HSM
            clear g1 g2 HKN2 HBX HCS
            go_wp2_with fail
            refine (HSM.out _).mono ?_
            rintro e w9 ⟨rfl, hb9⟩
            have hst9 := HST8.out.below hb9 (by omega) (by omega)
            have HST9 := Lib.hid hst9
            have q1 := hst9.rr
            have y1 := q1.cell 1
            have yl := (HL8.out.below hb9 HL8.out.lt).cell 0
            clear HSM yw0 yw1 hb9 HST8 HB8 HQ8 HL8
            by_cases h0 : fv = 0
            · have z2 : (fv != 0) = false := by simp [h0]
              have HS2 := Lib.hid (show dense F lo (k + 1) = R by rw [HSN.out, if_pos h0, List.append_nil])
              clear h0 HSN hst9 q1 y1 yl
              go_wp2_with fail
              go_roundg (N - (k + 1))
              case measure => omega
              case rel => exact ⟨k + 1, _, by omega, rfl, by go_num, by rw [HS2.out]; exact HST9.out, HK3⟩
            · have z2 : (fv != 0) = true := by simp [h0]
              have HS2 := Lib.hid (show dense F lo (k + 1) = R ++ [(lo + (k : Int), fv)] by rw [HSN.out, if_neg h0])
              have HUU := Lib.hid (Arr.new w9 68 [.int .i64 (lo + (k : Int)), .int .i64 fv])
              have HSA := Lib.hid (hst9.below ((Below.refl _ _).alloc (Nat.le_refl _) (.cells #[.int .i64 (lo + (k : Int)), .int .i64 fv] 68)) (by omega) (by omega))
              have HSZ := Lib.hid HSA.out.sz
              have HRB := Lib.hid (show w.heap.size ≤ rb ∧ rb < w7.heap.size by omega)
              clear h0 HSN hst9 q1
              go_wp2_with (at_builtin; refine wpList_appT rfl (.tmp 91) (.tmp 97) rfl rfl HSA.out.own (m := (lo + (k : Int), fv)) rfl HUU.out HRL.out HSZ.out ?_; intro v' w1 hown1 hgr1; obtain ⟨q1, h2⟩ := HSA.out.app hown1 hgr1 HRB.out.1 HRB.out.2; obtain ⟨Av, nv, cv_, rfl⟩ := hown1.form3; have HNX := Lib.hid h2; have f1 := q1.frozen 1; have yq := q1.cell 1; clear hown1 hgr1 q1 h2)
              go_roundg (N - (k + 1))
              case measure => omega
              case rel => exact ⟨k + 1, _, by omega, rfl, by go_num, by rw [HS2.out]; exact HNX.out, HK3⟩
          · have HBD2 := Lib.hid (HBX.out g2)
            rw [g1] at HSM
            clear g1 g2 HKN2 HSN HBX HCS
            generalize smN fv = sn at *
            go_wp2_with fail
            refine (HSM.out _).mono ?_
            rintro e w9 ⟨rfl, hb9⟩
            have qr := HQ8.out.below hb9 HQ8.out.lt
            have f0 := qr.frozen 0
            have f1 := qr.frozen 1
            have x0 := qr.cell 0
            have x1 := qr.cell 1
            have HRS := Lib.hid ((qr.set 0 (.bool true)).set 1 (.slice none 0 0))
            have HBE := Lib.hid (((HB8.out.trans (hb9.mono HB8.out.size)).setCell (p := ⟨w.heap.size + 2, 0, none⟩) (by show w.heap.size ≤ w.heap.size + 2; omega) (.bool true)).setCell (p := ⟨w.heap.size + 2, 1, none⟩) (by show w.heap.size ≤ w.heap.size + 2; omega) (.slice none 0 0))
            clear HSM yw0 yw1 hb9 HST8 HB8 HQ8 HL8 qr
            go_wp2_with fail
            refine bodyPost_ret (v := .agg #[.bool true, .slice none 0 0]) (results_c Tryz.results16 _ _ (w.heap.size + 2) 39 _ _ rfl HRS.out Tryz.underlying39 rfl info_poly) rfl ?_
            exact ⟨_, _, rfl, PolyV.big _, HBD2.out, HBE.out⟩
        · have z1 : ¬ (k : Int) < (N : Int) := by omega
          obtain rfl : k = N := by omega
          have HE := Lib.hid (HEND.out HK.out)
          obtain ⟨Ax, cx, rfl⟩ := hst.own.form
          have qr := hst.arr HQ7.out (by omega) (by omega)
          have q1 := hst.rr
          have y0 := q1.cell 0
          have y1 := q1.cell 1
          have f0 := qr.frozen 0
          have f1 := qr.frozen 1
          have x0 := qr.cell 0
          have x1 := qr.cell 1
          have HRS := Lib.hid ((qr.set 0 (.bool false)).set 1 (.slice Ax (dense F lo k).length cx))
          have HPB := Lib.hid ((PolyV.own hst.own).box qr (.bool false) (.slice Ax (dense F lo k).length cx))
          have HBE := Lib.hid (((HB7.out.trans hst.bel).setCell (p := ⟨w.heap.size + 2, 0, none⟩) (by show w.heap.size ≤ w.heap.size + 2; omega) (.bool false)).setCell (p := ⟨w.heap.size + 2, 1, none⟩) (by show w.heap.size ≤ w.heap.size + 2; omega) (.slice Ax (dense F lo k).length cx))
          clear hst qr q1
          go_wp2_with fail
          refine bodyPost_ret (v := .agg #[.bool false, .slice Ax (dense F lo k).length cx]) (results_c Tryz.results16 _ _ (w.heap.size + 2) 39 _ _ rfl HRS.out Tryz.underlying39 rfl info_poly) rfl ?_
          exact ⟨_, _, rfl, HPB.out, HE.out, HBE.out⟩
end Go.Proofs.YtjeklcgfffibpaaGreatDoor

namespace Go.Proofs.YtjeklcgfffibpaaGreatDoor
open Go.RowKit
set_option linter.unusedVariables false

def mulSm (b1 b2 : Bool) (n n2 : Nat) : Option Bool := if b1 = true then some true else if b2 = true then some true else if n = 0 then some false else if n2 = 0 then some false else none
set_option maxHeartbeats 2000000 in
set_option maxRecDepth 100000 in
theorem mul_small (b1 b2 R : Bool) (A A2 : Option Addr) (n c n2 c2 : Nat) (w : World) (h : mulSm b1 b2 n n2 = some R) :
    Calls Tryz.prog 16 #[.agg #[.bool b1, .slice A n c], .agg #[.bool b2, .slice A2 n2 c2]] w fun e w' => e = .returned (.agg #[.bool R, .slice none 0 0]) ∧ Below w.heap.size w w' := by
  have hW : ∀ b1 b2 W, W = (((w.alloc (.cells #[.bool b1, .slice A n c] 39)).alloc (.cells #[.bool b2, .slice A2 n2 c2] 39)).alloc (.cells #[.bool false, .slice none 0 0] 39)) → Arr W w.heap.size 39 [.bool b1, .slice A n c] ∧ Arr W (w.heap.size + 1) 39 [.bool b2, .slice A2 n2 c2] ∧ Arr W (w.heap.size + 2) 39 [.bool false, .slice none 0 0] ∧ Below w.heap.size w W ∧ W.heap.size = w.heap.size + 3 := by
    intro b1 b2 W hW
    subst hW
    exact ⟨((Arr.new _ _ [_, _]).alloc _).alloc _, (Arr.newAt (w.alloc _) _ [_, _] _ (by simp)).alloc _, Arr.newAt ((w.alloc _).alloc _) _ [_, _] _ (by simp), (((Below.refl _ _).alloc (Nat.le_refl _) _).alloc (by simp) _).alloc (by simp <;> omega) _, by simp⟩
  replace hW := hW b1 b2
  have HM := Lib.hid h
  clear h
  have key : ∀ (R : Bool) wr, Below w.heap.size w wr → Arr wr (w.heap.size + 2) 39 [.bool false, .slice none 0 0] → Arr ((wr.setCell ⟨w.heap.size + 2, 0, none⟩ (.bool R)).setCell ⟨w.heap.size + 2, 1, none⟩ (.slice none 0 0)) (w.heap.size + 2) 39 [.bool R, .slice none 0 0] ∧ Below w.heap.size w ((wr.setCell ⟨w.heap.size + 2, 0, none⟩ (.bool R)).setCell ⟨w.heap.size + 2, 1, none⟩ (.slice none 0 0)) := fun R wr hb hq => ⟨(hq.set 0 (.bool R)).set 1 (.slice none 0 0), (hb.setCell (p := ⟨w.heap.size + 2, 0, none⟩) (by show w.heap.size ≤ w.heap.size + 2; omega) (.bool R)).setCell (p := ⟨w.heap.size + 2, 1, none⟩) (by show w.heap.size ≤ w.heap.size + 2; omega) (.slice none 0 0)⟩
  have HKEY := Lib.hid key
  clear key
  go_enter Tryz.func16, Tryz.ntmps16
  go_upto_region 1 with fail
  generalize (((w.alloc (.cells #[.bool b1, .slice A n c] 39)).alloc (.cells #[.bool b2, .slice A2 n2 c2] 39)).alloc (.cells #[.bool false, .slice none 0 0] 39)) = w3 at hW ⊢
  obtain ⟨q0, q1, q2, hb3, hs3⟩ := hW w3 rfl
  have HR := Lib.hid (HKEY.out R w3 hb3 q2)
  have y0 := q0.cell 0
  have y1 := q0.cell 1
  have y2 := q1.cell 0
  have y3 := q1.cell 1
  have x0 := q2.cell 0
  have x1 := q2.cell 1
  have f0 := q2.frozen 0
  have f1 := q2.frozen 1
  clear hW HKEY q0 q1 q2 hb3 hs3
  cases b1 with
  | true =>
    obtain rfl : true = R := by have := HM.out; unfold mulSm at this; simpa using this
    clear HM
    go_wp2_with fail
    refine bodyPost_ret (v := .agg #[.bool true, .slice none 0 0]) (results_c Tryz.results16 _ _ (w.heap.size + 2) 39 _ _ rfl HR.out.1 Tryz.underlying39 rfl info_poly) rfl ?_
    exact ⟨rfl, HR.out.2⟩
  | false =>
    cases b2 with
    | true =>
      obtain rfl : true = R := by have := HM.out; unfold mulSm at this; simpa using this
      clear HM
      go_wp2_with fail
      refine bodyPost_ret (v := .agg #[.bool true, .slice none 0 0]) (results_c Tryz.results16 _ _ (w.heap.size + 2) 39 _ _ rfl HR.out.1 Tryz.underlying39 rfl info_poly) rfl ?_
      exact ⟨rfl, HR.out.2⟩
    | false =>
      by_cases h1 : n = 0
      · obtain rfl : false = R := by have := HM.out; unfold mulSm at this; simpa [h1] using this
        have z1 : ((n : Int) == 0) = true := by simp [h1]
        clear HM h1
        go_wp2_with fail
        refine bodyPost_ret (v := .agg #[.bool false, .slice none 0 0]) (results_c Tryz.results16 _ _ (w.heap.size + 2) 39 _ _ rfl HR.out.1 Tryz.underlying39 rfl info_poly) rfl ?_
        exact ⟨rfl, HR.out.2⟩
      · have z1 : ((n : Int) == 0) = false := by simp; omega
        by_cases h2 : n2 = 0
        · obtain rfl : false = R := by have := HM.out; unfold mulSm at this; simpa [h1, h2] using this
          have z2 : ((n2 : Int) == 0) = true := by simp [h2]
          clear HM h1 h2
          go_wp2_with fail
          refine bodyPost_ret (v := .agg #[.bool false, .slice none 0 0]) (results_c Tryz.results16 _ _ (w.heap.size + 2) 39 _ _ rfl HR.out.1 Tryz.underlying39 rfl info_poly) rfl ?_
          exact ⟨rfl, HR.out.2⟩
        · exfalso
          have := HM.out
          unfold mulSm at this
          simp [h1, h2] at this
theorem Mul_any (vp vq : Value) (p q : Pol) (w : World) (hp : PolyV w vp p) (hq : PolyV w vq q) (okp : okP p) (okq : okP q) :
    Calls Tryz.prog 16 #[vp, vq] w (MulR p q w) := by
  have hp0 := hp
  have hq0 := hq
  obtain ⟨A, c, rfl, _⟩ := hp0
  obtain ⟨A2, c2, rfl, _⟩ := hq0
  cases p with
  | none => exact (mul_small true _ true A A2 0 c _ c2 w (by unfold mulSm; rw [if_pos rfl])).mono fun e w' h => ⟨_, none, h.1, PolyV.big _, mulP_none_left q, h.2⟩
  | some p =>
    cases q with
    | none => exact (mul_small false true true A A2 _ c 0 c2 w (by unfold mulSm; rw [if_neg (by simp), if_pos rfl])).mono fun e w' h => ⟨_, none, h.1, PolyV.big _, mulP_none_right _, h.2⟩
    | some q =>
      by_cases h1 : p.length = 0
      · obtain rfl := List.eq_nil_of_length_eq_zero h1
        exact (mul_small false false false A A2 0 c _ c2 w (by unfold mulSm; rw [if_neg (by simp), if_neg (by simp), if_pos rfl])).mono fun e w' h => ⟨_, some [], h.1, PolyV.zero _, mulP_nil_left q, h.2⟩
      · by_cases h2 : q.length = 0
        · obtain rfl := List.eq_nil_of_length_eq_zero h2
          exact (mul_small false false false A A2 p.length c 0 c2 w (by unfold mulSm; rw [if_neg (by simp), if_neg (by simp), if_neg h1, if_pos rfl])).mono fun e w' h => ⟨_, some [], h.1, PolyV.zero _, mulP_nil_right p, h.2⟩
        · exact Mul_some _ _ p q w hp hq okp.2 okp.1 okq.2 okq.1 (by omega) (by omega)
end Go.Proofs.YtjeklcgfffibpaaGreatDoor
