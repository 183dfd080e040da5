/- bivariate: height, Mul. -/
import Derived.Test.YtbfggncmjdhapaaGreatDoorZBeq
import Derived.Laws.Cover1
namespace Go.Proofs.YtbfggncmjdhapaaGreatDoor
open Go.RowKit Go.Maps
set_option linter.unusedVariables false

/-- the greatest absolute value of a coefficient -/
def hgtB (l : List T2) : Int := l.foldl (fun m t => max (max m t.2) (-t.2)) 0
theorem hgt_snoc (l : List T2) (t : T2) : hgtB (l ++ [t]) = max (max (hgtB l) t.2) (-t.2) := by unfold hgtB; rw [List.foldl_append]; rfl
theorem hgt_bd {l : List T2} (h : ∀ t ∈ l, -1125899906842624 ≤ t.2 ∧ t.2 ≤ 1125899906842624) : ∀ k, 0 ≤ hgtB (l.take k) ∧ hgtB (l.take k) ≤ 1125899906842624 := by
  intro k
  induction k with
  | zero => exact ⟨by simp [hgtB], by simp [hgtB]⟩
  | succ k ih =>
    by_cases hk : k < l.length
    · rw [take_snocB hk, hgt_snoc]
      have := h _ (List.getElem_mem hk)
      omega
    · rw [List.take_of_length_le (by omega)]
      rw [List.take_of_length_le (by omega)] at ih
      exact ih
theorem hgt_go : ∀ (l : List T2) (m : Int), m ≤ l.foldl (fun m t => max (max m t.2) (-t.2)) m ∧ ∀ t ∈ l, t.2 ≤ l.foldl (fun m t => max (max m t.2) (-t.2)) m ∧ -t.2 ≤ l.foldl (fun m t => max (max m t.2) (-t.2)) m
  | [], m => ⟨Int.le_refl _, fun t h => by cases h⟩
  | s :: l, m => by
    obtain ⟨h1, h2⟩ := hgt_go l (max (max m s.2) (-s.2))
    rw [List.foldl_cons]
    refine ⟨by omega, fun t ht => ?_⟩
    rcases List.mem_cons.1 ht with rfl | ht
    · omega
    · exact h2 t ht
theorem hgt_ge {l : List T2} {t : T2} (ht : t ∈ l) : t.2 ≤ hgtB l ∧ -t.2 ≤ hgtB l := (hgt_go l 0).2 t ht
theorem hgt_nn (l : List T2) : 0 ≤ hgtB l := (hgt_go l 0).1
theorem hgt_pos {l : List T2} (k : Can2 l) (h : 0 < l.length) : 0 < hgtB l := by
  have h1 := k.nz l[0] (List.getElem_mem h)
  have h2 := hgt_ge (List.getElem_mem h : l[0] ∈ l)
  omega
theorem hgt_asum (l : List T2) : hgtB l ≤ asum2 l := by
  have key : ∀ (l : List T2) (m : Int), 0 ≤ m → l.foldl (fun m t => max (max m t.2) (-t.2)) m ≤ m + asum2 l := by
    intro l
    induction l with
    | nil => intro m _; simp [asum2]
    | cons t l ih =>
      intro m hm
      rw [List.foldl_cons, asum2]
      have := ih (max (max m t.2) (-t.2)) (by omega)
      omega
  have := key l 0 (Int.le_refl _)
  unfold hgtB
  omega
theorem mul_bd {x y a b : Int} (hx : -a ≤ x ∧ x ≤ a) (hy : -b ≤ y ∧ y ≤ b) : -(a * b) ≤ x * y ∧ x * y ≤ a * b := by
  have h1 : 0 ≤ (a - x) * (b + y) := Int.mul_nonneg (by omega) (by omega)
  have h2 : 0 ≤ (a + x) * (b - y) := Int.mul_nonneg (by omega) (by omega)
  have h3 : 0 ≤ (a - x) * (b - y) := Int.mul_nonneg (by omega) (by omega)
  have h4 : 0 ≤ (a + x) * (b + y) := Int.mul_nonneg (by omega) (by omega)
  rw [Int.sub_mul, Int.mul_add, Int.mul_add] at h1
  rw [Int.add_mul, Int.mul_sub, Int.mul_sub] at h2
  rw [Int.sub_mul, Int.mul_sub, Int.mul_sub] at h3
  rw [Int.add_mul, Int.mul_add, Int.mul_add] at h4
  omega
set_option maxHeartbeats 1000000 in
set_option maxRecDepth 100000 in
theorem height_any (vp : Value) (l : List T2) (w : World) (hp : PolyB w vp (some l)) (hc : ∀ t ∈ l, -1125899906842624 ≤ t.2 ∧ t.2 ≤ 1125899906842624) (hl : l.length ≤ 1000000) :
    Calls Tryz.prog 35 #[vp] w fun e w' => e = .returned (.int .i64 (hgtB l)) ∧ Below w.heap.size w w' := by
  have HP := Lib.hid (fun W (hb : Below w.heap.size w W) => hp.below hb)
  obtain ⟨A, c, rfl, _⟩ := hp
  simp only [Option.isNone_some, Option.getD_some] at HP ⊢
  have HC := Lib.hid hc
  clear hc
  have hW : ∀ W, W = w.alloc (.cells #[.bool false, .slice A l.length c] 27) → Arr W w.heap.size 27 [.bool false, .slice A l.length c] ∧ Below w.heap.size w W := by
    intro W hW
    subst hW
    exact ⟨Arr.new _ _ [_, _], (Below.refl _ _).alloc (Nat.le_refl _) _⟩
  go_enter Tryz.func35, Tryz.ntmps35
  go_upto_region 1 with fail
  generalize w.alloc (.cells #[.bool false, .slice A l.length c] 27) = w3 at hW ⊢
  obtain ⟨q0, hb3⟩ := hW w3 rfl
  have y1 := q0.cell 1
  clear hW q0
  go_wp2_with fail
  go_loopg [3, 9] l.length (fun gk s3 s9 wr => ∃ (i : Nat), i ≤ l.length ∧ gk = l.length - i ∧ s9 = .int .i64 (i : Int) ∧ s3 = .int .i64 (hgtB (l.take i)) ∧ Below w.heap.size w wr)
  case atStart => exact ⟨0, Nat.zero_le _, rfl, rfl, rfl, hb3⟩
  case round =>
    clear hb3 y1
    obtain ⟨i, hi, rfl, rfl, rfl, hbr⟩ := hrel
    by_cases hlt : i < l.length
    · have z1 : (i : Int) < (l.length : Int) := by omega
      obtain ⟨b, o', rfl, _, hc0, hc1, hc2⟩ := (HP.out wr hbr).tm_some.at_ hlt
      have HN := Lib.hid (show hgtB (l.take (i + 1)) = max (max (hgtB (l.take i)) l[i].2) (-l[i].2) by rw [take_snocB hlt, hgt_snoc])
      have hcc := HC.out _ (List.getElem_mem hlt)
      have hm := hgt_bd HC.out i
      generalize hgtB (l.take i) = m at *
      generalize l[i].1.1 = ea at *
      generalize l[i].1.2 = ez at *
      generalize l[i].2 = cc at *
      have hb4 := hbr.alloc hbr.size (.cells #[.int .i64 ea, .int .i64 ez, .int .i64 cc] 65)
      have hmx : ∀ ty (W : World), (Builtin.max_ #[3, 3, 3] ty #[.int .i64 m, .int .i64 cc, .int .i64 (-cc)]).run Tryz.prog W = .ok (.int .i64 (max (max m cc) (-cc))) W := fun ty W => by
        rw [run_max_int3]
        congr 2
        by_cases h1 : cc > m
        · rw [if_pos h1]
          by_cases h2 : -cc > cc
          · rw [if_pos h2]; omega
          · rw [if_neg h2]; omega
        · rw [if_neg h1]
          by_cases h2 : -cc > m
          · rw [if_pos h2]; omega
          · rw [if_neg h2]; omega
      generalize max (max m cc) (-cc) = mx at *
      go_wp2_with fail
      go_roundg (l.length - (i + 1))
      case measure => omega
      case rel => exact ⟨i + 1, by omega, rfl, by go_num, by rw [HN.out], hb4⟩
    · have z1 : ¬ (i : Int) < (l.length : Int) := by omega
      have hkk : l.take i = l := List.take_of_length_le (by omega)
      rw [hkk]
      go_wp2_with fail
      go_ret
      exact ⟨rfl, hbr⟩
/-- what Mul returns, where no product of two coefficients is too large -/
def MulB (p q : PolB) (w : World) (e : Ending) (w' : World) : Prop := ∃ v r, e = .returned v ∧ PolyB w' v r ∧ (match p, q with
  | some l, some m => GthP (cg2 (mulT l m)) r
  | _, _ => r = none) ∧ Below w.heap.size w w'
theorem gth_nil : GthP (fun _ => 0) (some []) := .inl ⟨[], rfl, Can2.nil, Lim2.nil, fun e => rfl⟩
theorem mulT_nil_right (l : List T2) : mulT l [] = [] := by
  induction l with
  | nil => rfl
  | cons s l ih => rw [mulT_cons, ih]; rfl
theorem mulT_take {p q : List T2} {i : Nat} (h : i < p.length) : mulT (p.take (i + 1)) q = mulT (p.take i) q ++ q.map (fun t => (kadd p[i].1 t.1, p[i].2 * t.2)) := by
  rw [take_snocB h, mulT_append, mulT_cons, mulT_nil, List.append_nil]
theorem mulT_len (l m : List T2) : (mulT l m).length = l.length * m.length := by
  induction l with
  | nil => simp [mulT_nil]
  | cons s l ih => rw [mulT_cons, List.length_append, ih, List.length_map, List.length_cons, Nat.add_mul]; omega
set_option maxHeartbeats 4000000 in
set_option maxRecDepth 100000 in
theorem Mul_core (vp vq : Value) (p q : List T2) (w : World) (hp : PolyB w vp (some p)) (hq : PolyB w vq (some q)) (lp : Lim2 p) (kp : Can2 p) (lq : Lim2 q) (kq : Can2 q) (hnp : 0 < p.length) (hnq : 0 < q.length) (hlp : p.length ≤ 1000000) (hlq : q.length ≤ 1000000) (hlen : p.length * q.length ≤ 1000000) (hh : hgtB p * hgtB q ≤ 1125899906842624) :
    Calls Tryz.prog 14 #[vp, vq] w (MulB (some p) (some q) w) := by
  have HP := Lib.hid (fun W (hb : Below w.heap.size w W) => hp.below hb)
  have HQ := Lib.hid (fun W (hb : Below w.heap.size w W) => hq.below hb)
  have HLM := Lib.hid (And.intro lp lq)
  obtain ⟨A, c, rfl, _⟩ := hp
  obtain ⟨A2, c2, rfl, _⟩ := hq
  simp only [Option.isNone_some, Option.getD_some] at HP HQ ⊢
  have HH1 := Lib.hid (fun W (hb : Below w.heap.size w W) => height_any _ p W (HP.out W hb) lp.co hlp)
  have HH2 := Lib.hid (fun W (hb : Below w.heap.size w W) => height_any _ q W (HQ.out W hb) lq.co hlq)
  have g1 := hgt_pos kp hnp
  have g2 := hgt_pos kq hnq
  have g3 := hgt_bd lp.co p.length
  have g4 := hgt_bd lq.co q.length
  rw [List.take_length] at g3 g4
  have HPB := Lib.hid (show ∀ s ∈ p, ∀ t ∈ q, -1125899906842624 ≤ s.2 * t.2 ∧ s.2 * t.2 ≤ 1125899906842624 from fun s hs t ht => by
    have h1 := hgt_ge hs
    have h2 := hgt_ge ht
    have h3 := mul_bd (x := s.2) (y := t.2) (a := hgtB p) (b := hgtB q) ⟨by omega, h1.1⟩ ⟨by omega, h2.1⟩
    omega)
  have HLEN := Lib.hid hlen
  generalize hgtB p = h1 at *
  generalize hgtB q = h2 at *
  have gd : h1 ≤ 1125899906842624 / h2 := (Int.le_ediv_iff_mul_le g2).2 hh
  have gq : Int.tdiv 1125899906842624 h2 = 1125899906842624 / h2 := Int.tdiv_eq_ediv_of_nonneg (by decide)
  obtain ⟨dv, hdv⟩ : ∃ dv, dv = 1125899906842624 / h2 := ⟨_, rfl⟩
  rw [← hdv] at gd gq
  have gdb : 0 ≤ dv ∧ dv ≤ 1125899906842624 := by
    have e1 := Int.ediv_le_self (a := 1125899906842624) h2 (by decide)
    omega
  clear hh hdv
  have hW : ∀ W, W = ((w.alloc (.cells #[.bool false, .slice A p.length c] 27)).alloc (.cells #[.bool false, .slice A2 q.length c2] 27)).alloc (.cells #[.bool false, .slice none 0 0] 27) → Arr W w.heap.size 27 [.bool false, .slice A p.length c] ∧ Arr W (w.heap.size + 1) 27 [.bool false, .slice A2 q.length c2] ∧ Arr W (w.heap.size + 2) 27 [.bool false, .slice none 0 0] ∧ Below w.heap.size w W ∧ W.heap.size = w.heap.size + 3 := by
    intro W hW
    subst hW
    exact ⟨((Arr.new _ _ [_, _]).alloc _).alloc _, (Arr.newAt (w.alloc _) _ [_, _] _ (by simp)).alloc _, Arr.newAt ((w.alloc _).alloc _) _ [_, _] _ (by simp), (((Below.refl _ _).alloc (Nat.le_refl _) _).alloc (by simp) _).alloc (by simp <;> omega) _, by simp⟩
  have zn : ((p.length : Int) == 0) = false := by simp; intro h; rw [h] at hnp; simp at hnp
  have zn2 : ((q.length : Int) == 0) = false := by simp; intro h; rw [h] at hnq; simp at hnq
  have hmm := @run_makeMap Tryz.prog
  clear lp kp lq kq hnp hnq hlen
  go_enter Tryz.func14, Tryz.ntmps14
  go_upto_region 1 with fail
  generalize ((w.alloc (.cells #[.bool false, .slice A p.length c] 27)).alloc (.cells #[.bool false, .slice A2 q.length c2] 27)).alloc (.cells #[.bool false, .slice none 0 0] 27) = w3 at hW ⊢
  obtain ⟨q0, q1, qr, hb3, hs3⟩ := hW w3 rfl
  clear hW
  have y0 := q0.cell 0
  have y1 := q0.cell 1
  have y2 := q1.cell 0
  have y3 := q1.cell 1
  go_upto_region 5 with fail
  have Q0 := Lib.hid q0
  have Q1 := Lib.hid q1
  have QR := Lib.hid qr
  have HB3 := Lib.hid hb3
  have HGZ := Lib.hid (show Int.tdiv 1125899906842624 h2 = dv ∧ (h2 == 0) = false ∧ h2 ≠ 0 from ⟨gq, beq_eq_false_iff_ne.2 (by omega), by omega⟩)
  have HGD := Lib.hid (show decide (h1 > dv) = false ∧ decide (dv < h1) = false from ⟨decide_eq_false (by omega), decide_eq_false (by omega)⟩)
  have HS3 := Lib.hid hs3
  have GB := Lib.hid (And.intro (And.intro g1 g2) gdb)
  clear q0 q1 qr hb3 y0 y1 y2 y3 g1 g2 g3 g4 gq gd gdb zn zn2 hs3
  refine wp_region_phi (by kernel_rfl) (by kernel_rfl) (by kernel_rfl) (by kernel_rfl) (by kernel_rfl) (phiT (fun i => ([some (.agg #[.bool false, .slice A p.length c]), some (.int .i64 h1), some (.agg #[.bool false, .slice A2 q.length c2]), some (.int .i64 h2), some (.int .i64 dv), some (.bool false)] : List (Option Value)).getD i none) (fun i v w => True)) (fun i v w w' h hb => ?_) ⟨?_, ?_, ?_, ?_, ?_, ?_, trivial⟩ ?_
  · unfold phiT at h ⊢
    split
    · next u hu => rw [hu] at h; exact h
    · next hu =>
      rw [hu] at h
      exact True.intro
  · intro x w1 bA hbel hdep hold hb
    have e2 : bA.tmps[2]?.getD undef = .pointer (some ⟨w.heap.size, 0, none⟩) := hb 2
    have cc0 := (Q0.out.below hbel Q0.out.lt).cell 0
    have cc1 := (Q0.out.below hbel Q0.out.lt).cell 1
    refine phi_run (.agg #[.bool false, .slice A p.length c]) ?_ rfl
    clear hb hdep hold
    go_simp
  · intro x w1 bA hbel hdep hold hb
    have e29 : bA.tmps[29]?.getD undef = .agg #[.bool false, .slice A p.length c] := (hb 29).trans (hdep 0 (by decide))
    refine phi_call ?_ ((HH1.out w1 (HB3.out.trans (hbel.mono HB3.out.size))).mono fun e w' h => ⟨_, h.1, h.2, rfl⟩)
    clear hb hdep hold
    go_simp
  · intro x w1 bA hbel hdep hold hb
    have e3 : bA.tmps[3]?.getD undef = .pointer (some ⟨w.heap.size + 1, 0, none⟩) := hb 3
    have cc0 := (Q1.out.below hbel Q1.out.lt).cell 0
    have cc1 := (Q1.out.below hbel Q1.out.lt).cell 1
    refine phi_run (.agg #[.bool false, .slice A2 q.length c2]) ?_ rfl
    clear hb hdep hold
    go_simp
  · intro x w1 bA hbel hdep hold hb
    have e31 : bA.tmps[31]?.getD undef = .agg #[.bool false, .slice A2 q.length c2] := (hb 31).trans (hdep 2 (by decide))
    refine phi_call ?_ ((HH2.out w1 (HB3.out.trans (hbel.mono HB3.out.size))).mono fun e w' h => ⟨_, h.1, h.2, rfl⟩)
    clear hb hdep hold
    go_simp
  · intro x w1 bA hbel hdep hold hb
    have e32 : bA.tmps[32]?.getD undef = .int .i64 h2 := (hb 32).trans (hdep 3 (by decide))
    have zz := HGZ.out
    have zw : IntKind.i64.wrap dv = dv := IntWalk.i64_in _ (by have := GB.out; omega)
    refine phi_run (.int .i64 dv) ?_ rfl
    clear hb hdep hold
    go_simp
  · intro x w1 bA hbel hdep hold hb
    have e30 : bA.tmps[30]?.getD undef = .int .i64 h1 := (hb 30).trans (hdep 1 (by decide))
    have e33 : bA.tmps[33]?.getD undef = .int .i64 dv := (hb 33).trans (hdep 4 (by decide))
    have zz := HGD.out
    refine phi_run (.bool false) ?_ rfl
    clear hb hdep hold
    go_simp
  intro x w1 hbel hall
  have x0e : x 0 = .agg #[.bool false, .slice A p.length c] := hall 0 (by decide)
  have x1e : x 1 = .int .i64 h1 := hall 1 (by decide)
  have x2e : x 2 = .agg #[.bool false, .slice A2 q.length c2] := hall 2 (by decide)
  have x3e : x 3 = .int .i64 h2 := hall 3 (by decide)
  have x4e : x 4 = .int .i64 dv := hall 4 (by decide)
  have x5e : x 5 = .bool false := hall 5 (by decide)
  simp only [putAll, dstOf, Act.put, List.map_cons, List.map_nil, List.setIfInBounds_toArray, List.set_cons_succ, List.set_cons_zero, Nat.reduceAdd, x0e, x1e, x2e, x3e, x4e, x5e]
  clear x0e x1e x2e x3e x4e x5e hall
  have hb1 := HB3.out.trans (hbel.mono HB3.out.size)
  have q0 := Q0.out.below hbel Q0.out.lt
  have q1 := Q1.out.below hbel Q1.out.lt
  have qr := QR.out.below hbel QR.out.lt
  have hW4 : ∀ W, W = w1.alloc (.map #[] 0) → MapB w1.heap.size [] W ∧ Arr W w.heap.size 27 [.bool false, .slice A p.length c] ∧ Arr W (w.heap.size + 1) 27 [.bool false, .slice A2 q.length c2] ∧ Arr W (w.heap.size + 2) 27 [.bool false, .slice none 0 0] ∧ Below w.heap.size w W := by
    intro W hW
    subst hW
    exact ⟨MapB.start w1, q0.alloc _, q1.alloc _, qr.alloc _, hb1.alloc hb1.size _⟩
  have hg1 : w.heap.size + 3 ≤ w1.heap.size := by have := hbel.size; have := HS3.out; omega
  clear Q0 Q1 QR HGZ HGD hbel q0 q1 qr hb1
  go_upto_region 8 with fail
  generalize w1.alloc (.map #[] 0) = w4 at hW4 ⊢
  obtain ⟨hm4, q0, q1, qr, hb4⟩ := hW4 w4 rfl
  obtain ⟨g, hg⟩ : ∃ g, g = w1.heap.size := ⟨_, rfl⟩
  rw [← hg] at hm4 hg1 ⊢
  have y1 := q0.cell 1
  have HST := Lib.hid (show MapB g (mulT (p.take 0) q) w4 ∧ Arr w4 w.heap.size 27 [.bool false, .slice A p.length c] ∧ Arr w4 (w.heap.size + 1) 27 [.bool false, .slice A2 q.length c2] ∧ Arr w4 (w.heap.size + 2) 27 [.bool false, .slice none 0 0] ∧ Below w.heap.size w w4 from ⟨by rw [List.take_zero, mulT_nil]; exact hm4, q0, q1, qr, hb4⟩)
  clear hW4 hm4 q0 q1 qr hb4 hg hmm
  go_wp2_with fail
  clear y1
  go_loopg [40] p.length (fun gk s40 wr => ∃ (i : Nat), i ≤ p.length ∧ gk = p.length - i ∧ s40 = .int .i64 (i : Int) ∧ Hid (MapB g (mulT (p.take i) q) wr ∧ Arr wr w.heap.size 27 [.bool false, .slice A p.length c] ∧ Arr wr (w.heap.size + 1) 27 [.bool false, .slice A2 q.length c2] ∧ Arr wr (w.heap.size + 2) 27 [.bool false, .slice none 0 0] ∧ Below w.heap.size w wr))
  case atStart => exact ⟨0, Nat.zero_le _, rfl, rfl, HST⟩
  case round =>
    clear HST
    obtain ⟨i, hi, rfl, rfl, HR⟩ := hrel
    by_cases hlt : i < p.length
    · have z1 : (i : Int) < (p.length : Int) := by omega
      obtain ⟨b, o', rfl, _, hc0, hc1, hc2⟩ := (HP.out wr HR.out.2.2.2.2).tm_some.at_ hlt
      have HSX := Lib.hid (And.intro (HLM.out.1.ea _ (List.getElem_mem hlt)) (HLM.out.1.ez _ (List.getElem_mem hlt)))
      have HSP := Lib.hid (fun t ht => HPB.out _ (List.getElem_mem hlt) t ht)
      have HMT := Lib.hid (mulT_take (q := q) hlt)
      have HTL := Lib.hid (show ∀ j, j ≤ q.length → ((mulT (p.take i) q).length + ((q.take j).map (fun t => (kadd p[i].1 t.1, p[i].2 * t.2))).length) ≤ 1000000 from fun j hj => by
        rw [mulT_len, List.length_map, List.length_take, List.length_take, Nat.min_eq_left hj, Nat.min_eq_left hi]
        have h3 := HLEN.out
        have h4 : (i + 1) * q.length ≤ p.length * q.length := Nat.mul_le_mul_right _ hlt
        rw [Nat.add_mul] at h4
        omega)
      have HCB := Lib.hid (show ∀ j, Cb (mulT (p.take i) q ++ (q.take j).map (fun t => (kadd p[i].1 t.1, p[i].2 * t.2))) from fun j => Cb.append (fun t ht => by
        unfold mulT at ht
        obtain ⟨s, hs, ht⟩ := List.mem_flatMap.1 ht
        obtain ⟨u, hu, rfl⟩ := List.mem_map.1 ht
        have := HPB.out s (List.mem_of_mem_take hs) u hu
        simp only
        omega) (fun t ht => by
        obtain ⟨u, hu, rfl⟩ := List.mem_map.1 ht
        have := HPB.out _ (List.getElem_mem hlt) u (List.mem_of_mem_take hu)
        simp only
        omega))
      have HEK := Lib.hid (show p[i].1 = (p[i].1.1, p[i].1.2) from rfl)
      generalize hsk : p[i].1 = sk at *
      obtain ⟨sa, sz⟩ := sk
      generalize hsc : p[i].2 = sc at *
      dsimp only at *
      clear hsk hsc HEK
      obtain ⟨wo, rfl⟩ : ∃ wo, wo = wr := ⟨_, rfl⟩
      have hWo : ∀ W, W = wo.alloc (.cells #[.int .i64 sa, .int .i64 sz, .int .i64 sc] 65) → Arr W wo.heap.size 65 [.int .i64 sa, .int .i64 sz, .int .i64 sc] ∧ Below wo.heap.size wo W := by
        intro W hW
        subst hW
        exact ⟨Arr.new _ _ [_, _, _], (Below.refl _ _).alloc (Nat.le_refl _) _⟩
      have x1 := HR.out.2.2.1.cell 1
      go_upto_region 11 with fail
      generalize (wo.alloc (.cells #[.int .i64 sa, .int .i64 sz, .int .i64 sc] 65)) = w5 at hWo ⊢
      obtain ⟨qs, hb5⟩ := hWo w5 rfl
      have HGO := Lib.hid (show g ≠ wo.heap.size ∧ wo.heap.size ≠ w.heap.size + 1 from ⟨by have := HR.out.1.lt; omega, by have := HR.out.2.2.1.lt; omega⟩)
      have HST := Lib.hid (show MapB g (mulT (p.take i) q ++ (q.take 0).map (fun t => (kadd (sa, sz) t.1, sc * t.2))) w5 ∧ Arr w5 w.heap.size 27 [.bool false, .slice (some ⟨b, o', none⟩) p.length c] ∧ Arr w5 (w.heap.size + 1) 27 [.bool false, .slice A2 q.length c2] ∧ Arr w5 (w.heap.size + 2) 27 [.bool false, .slice none 0 0] ∧ Arr w5 wo.heap.size 65 [.int .i64 sa, .int .i64 sz, .int .i64 sc] ∧ Below w.heap.size w w5 from
        ⟨by rw [List.take_zero, List.map_nil, List.append_nil]; exact HR.out.1.below hb5, HR.out.2.1.below hb5 HR.out.2.1.lt, HR.out.2.2.1.below hb5 HR.out.2.2.1.lt, HR.out.2.2.2.1.below hb5 HR.out.2.2.2.1.lt, qs, HR.out.2.2.2.2.trans (hb5.mono HR.out.2.2.2.2.size)⟩)
      have x1 := HST.out.2.2.1.cell 1
      clear hWo hc0 hc1 hc2 HR qs hb5
      go_wp2_with fail
      clear x1
      go_loopg [47] q.length (fun gk s47 wr => ∃ (j : Nat), j ≤ q.length ∧ gk = q.length - j ∧ s47 = .int .i64 (j : Int) ∧ Hid (MapB g (mulT (p.take i) q ++ (q.take j).map (fun t => (kadd (sa, sz) t.1, sc * t.2))) wr ∧ Arr wr w.heap.size 27 [.bool false, .slice (some ⟨b, o', none⟩) p.length c] ∧ Arr wr (w.heap.size + 1) 27 [.bool false, .slice A2 q.length c2] ∧ Arr wr (w.heap.size + 2) 27 [.bool false, .slice none 0 0] ∧ Arr wr wo.heap.size 65 [.int .i64 sa, .int .i64 sz, .int .i64 sc] ∧ Below w.heap.size w wr))
      case atStart => exact ⟨0, Nat.zero_le _, rfl, rfl, HST⟩
      case round =>
        clear HST
        obtain ⟨j, hj, rfl, rfl, HR⟩ := hrel
        by_cases hlj : j < q.length
        · have z2 : (j : Int) < (q.length : Int) := by omega
          obtain ⟨b2, o2, rfl, _, hd0, hd1, hd2⟩ := (HQ.out wr HR.out.2.2.2.2.2).tm_some.at_ hlj
          have HTX := Lib.hid (And.intro (HLM.out.2.ea _ (List.getElem_mem hlj)) (HLM.out.2.ez _ (List.getElem_mem hlj)))
          have HTP := Lib.hid (HSP.out _ (List.getElem_mem hlj))
          have HJT := Lib.hid (take_mapB hlj (fun t => (kadd (sa, sz) t.1, sc * t.2)))
          have HLN0 := Lib.hid (HTL.out j hj)
          have HCD := Lib.hid (HCB.out j)
          generalize htk : q[j].1 = tk at *
          obtain ⟨ta, tz⟩ := tk
          generalize htc : q[j].2 = tc_ at *
          dsimp only at *
          obtain ⟨ea, hea⟩ : ∃ x, x = sa + ta := ⟨_, rfl⟩
          obtain ⟨ez, hez⟩ : ∃ x, x = sz + tz := ⟨_, rfl⟩
          obtain ⟨bc, hbc⟩ : ∃ x, x = sc * tc_ := ⟨_, rfl⟩
          have HKA := Lib.hid (show kadd (sa, sz) (ta, tz) = (ea, ez) by unfold kadd; rw [hea, hez])
          have HRK := Lib.hid (show rkB (ea, ez) from by have := HSX.out; have := HTX.out; exact ⟨by simp only; omega, by simp only; omega⟩)
          have hwa : IntKind.i64.wrap (sa + ta) = ea := by rw [← hea]; exact IntWalk.i64_in _ (by have := HSX.out; have := HTX.out; omega)
          have hwz : IntKind.i64.wrap (sz + tz) = ez := by rw [← hez]; exact IntWalk.i64_in _ (by have := HSX.out; have := HTX.out; omega)
          have hbb : -1125899906842624 ≤ bc ∧ bc ≤ 1125899906842624 := by rw [hbc]; exact HTP.out
          have HBC := Lib.hid (show IntKind.i64.wrap (sc * tc_) = bc from by rw [← hbc]; exact IntWalk.i64_in _ (by omega))
          obtain ⟨done, hdone⟩ : ∃ d, d = mulT (p.take i) q ++ (q.take j).map (fun t => (kadd (sa, sz) t.1, sc * t.2)) := ⟨_, rfl⟩
          have HNX := Lib.hid (show ∀ W, MapB g (done ++ [((ea, ez), bc)]) W → MapB g (mulT (p.take i) q ++ (q.take (j + 1)).map (fun t => (kadd (sa, sz) t.1, sc * t.2))) W from fun W h => by
            rw [HJT.out, HKA.out, ← hbc, ← List.append_assoc, ← hdone]; exact h)
          rw [← hdone] at HCD HR
          have hdl : done.length ≤ 1000000 := by rw [hdone, List.length_append]; exact HLN0.out
          have HHB := Lib.hid (show (-1000000000000000000 ≤ hiS done (ea, ez) ∧ hiS done (ea, ez) ≤ 1000000000000000000) ∧ (-1000000000000000000 ≤ loS done (ea, ez) ∧ loS done (ea, ez) ≤ 1000000000000000000) ∧ (-9223372036854775808 ≤ bc ∧ bc ≤ 9223372036854775807) from by
            have h1 := hiS_bd HCD.out (ea, ez)
            have h2 := loS_bd done (ea, ez)
            refine ⟨⟨by omega, by omega⟩, ⟨by omega, by omega⟩, by omega, by omega⟩)
          have HLN := Lib.hid (show done.length ≤ 1000000000000000 by omega)
          have hz2 : w.heap.size + 3 ≤ wr.heap.size := by have := HR.out.1.lt; omega
          have hWt : ∀ W, W = (wr.alloc (.cells #[.int .i64 ta, .int .i64 tz, .int .i64 tc_] 65)).alloc (.cells #[.int .i64 ea, .int .i64 ez] 70) → Arr W wr.heap.size 65 [.int .i64 ta, .int .i64 tz, .int .i64 tc_] ∧ Arr W (wr.heap.size + 1) 70 [.int .i64 ea, .int .i64 ez] ∧ Below wr.heap.size wr W ∧ W.heap.size = wr.heap.size + 2 := by
            intro W hW
            subst hW
            exact ⟨(Arr.new _ _ [_, _, _]).alloc _, Arr.newAt (wr.alloc _) _ [_, _] _ (by simp), ((Below.refl _ _).alloc (Nat.le_refl _) _).alloc (by simp) _, by simp⟩
          have x0 := HR.out.2.2.2.2.1.cell 0
          have x1 := HR.out.2.2.2.2.1.cell 1
          have HLW := Lib.hid HR.out.2.2.2.2.1.lt
          have hlw := HR.out.2.2.2.2.1.lt
          clear HKA hdone hea hez hbc hbb HCD HJT htk htc HLN0 hdl
          go_upto_region 15 with fail
          generalize (wr.alloc (.cells #[.int .i64 ta, .int .i64 tz, .int .i64 tc_] 65)).alloc (.cells #[.int .i64 ea, .int .i64 ez] 70) = w7 at hWt ⊢
          obtain ⟨qt, qp, hb7, hs7⟩ := hWt w7 rfl
          have HM := Lib.hid (HR.out.1.below hb7)
          have QS := Lib.hid (HR.out.2.2.2.2.1.below hb7 HR.out.2.2.2.2.1.lt)
          have QT := Lib.hid qt
          have QP := Lib.hid qp
          have Q0 := Lib.hid (HR.out.2.1.below hb7 HR.out.2.1.lt)
          have Q1 := Lib.hid (HR.out.2.2.1.below hb7 HR.out.2.2.1.lt)
          have QR := Lib.hid (HR.out.2.2.2.1.below hb7 HR.out.2.2.2.1.lt)
          have HO7 := Lib.hid (HR.out.2.2.2.2.2.trans (hb7.mono HR.out.2.2.2.2.2.size))
          obtain ⟨base, hbase⟩ : ∃ base, base = w.heap.size := ⟨_, rfl⟩
          have HBE := Lib.hid hbase
          have HBS := Lib.hid (show base ≤ w7.heap.size by omega)
          have HBG := Lib.hid (show base ≤ g by omega)
          have HGN := Lib.hid (show w.heap.size ≠ g ∧ w.heap.size + 1 ≠ g ∧ w.heap.size + 2 ≠ g ∧ wo.heap.size ≠ g from ⟨by omega, by omega, by omega, fun e => HGO.out.1 e.symm⟩)
          obtain ⟨Bs, hBs⟩ : ∃ B, B = wo.heap.size := ⟨_, rfl⟩
          obtain ⟨Bt, hBt⟩ : ∃ B, B = wr.heap.size := ⟨_, rfl⟩
          obtain ⟨Bp, hBp⟩ : ∃ B, B = wr.heap.size + 1 := ⟨_, rfl⟩
          have HBB := Lib.hid hBs
          rw [← hBs] at QS ⊢
          rw [← hBt] at QT ⊢
          rw [← hBp] at QP
          rw [show Bt + 1 = Bp by omega]
          clear hd0 hd1 hd2 hb7 hs7 qt qp HR hBs hBt hBp hbase hz2 hWt x0 x1 hwa hwz hlw
          refine wp_region_phis 11 (by kernel_rfl) (by kernel_rfl) (by kernel_rfl) (by kernel_rfl) (by kernel_rfl) rfl (by kernel_rfl) (phiT (fun i => ([some (.map (some g)), some (.agg #[.int .i64 ea, .int .i64 ez]), some (.map (some g)), some (.agg #[.int .i64 ea, .int .i64 ez]), some (.agg #[.int .i64 (hiS done (ea, ez)), .int .i64 (loS done (ea, ez))]), some (.pointer (some ⟨Bs, 2, none⟩)), some (.int .i64 sc), some (.pointer (some ⟨Bt, 2, none⟩)), some (.int .i64 tc_), some (.int .i64 bc), some (.agg #[.int .i64 (hiS done (ea, ez) + bc / 33554432), .int .i64 (loS done (ea, ez) + bc % 33554432)]), some (undef)] : List (Option Value)).getD i none) (fun i v w => True)) (fun i v w w' h hb => ?_) (fun i => false) (fun i v w hi h k hk => ?_) (fun _ W => MapB g (done ++ [((ea, ez), bc)]) W ∧ Oth base [g] none w7 W) ⟨?_, ?_, ?_, ?_, ?_, ?_, ?_, ?_, ?_, ?_, ?_, ?_, trivial⟩ ?_
          · unfold phiT at h ⊢
            split
            · next u hu => rw [hu] at h; exact h
            · next hu =>
              rw [hu] at h
              exact True.intro
          · simp only [Bool.or_eq_true, decide_eq_true_eq, Bool.false_eq_true] at hi
          · intro x w1 bA hbel hdep hdap hold hb
            refine ⟨fun _ => ?_, fun h => absurd h (by decide)⟩
            have e5 : bA.tmps[5]?.getD undef = .map (some g) := hb 5
            refine phf_run (.map (some g)) rfl ?_ rfl
            clear hb hdep hdap hold
            go_simp
          · intro x w1 bA hbel hdep hdap hold hb
            refine ⟨fun _ => ?_, fun h => absurd h (by decide)⟩
            have e10 : bA.tmps[10]?.getD undef = .pointer (some ⟨Bp, 0, none⟩) := hb 10
            have cp0 := (QP.out.below hbel QP.out.lt).cell 0
            have cp1 := (QP.out.below hbel QP.out.lt).cell 1
            refine phf_run (.agg #[.int .i64 ea, .int .i64 ez]) rfl ?_ rfl
            clear hb hdep hdap hold
            go_simp
          · intro x w1 bA hbel hdep hdap hold hb
            refine ⟨fun _ => ?_, fun h => absurd h (by decide)⟩
            have e5 : bA.tmps[5]?.getD undef = .map (some g) := hb 5
            refine phf_run (.map (some g)) rfl ?_ rfl
            clear hb hdep hdap hold
            go_simp
          · intro x w1 bA hbel hdep hdap hold hb
            refine ⟨fun _ => ?_, fun h => absurd h (by decide)⟩
            have e10 : bA.tmps[10]?.getD undef = .pointer (some ⟨Bp, 0, none⟩) := hb 10
            have cp0 := (QP.out.below hbel QP.out.lt).cell 0
            have cp1 := (QP.out.below hbel QP.out.lt).cell 1
            refine phf_run (.agg #[.int .i64 ea, .int .i64 ez]) rfl ?_ rfl
            clear hb hdep hdap hold
            go_simp
          · intro x w1 bA hbel hdep hdap hold hb
            refine ⟨fun _ => ?_, fun h => absurd h (by decide)⟩
            have e64 : bA.tmps[64]?.getD undef = .map (some g) := (hb 64).trans (hdep 2 (by decide))
            have e65 : bA.tmps[65]?.getD undef = .agg #[.int .i64 ea, .int .i64 ez] := (hb 65).trans (hdep 3 (by decide))
            have cl := (HM.out.below hbel).look HRK.out
            refine phf_run (.agg #[.int .i64 (hiS done (ea, ez)), .int .i64 (loS done (ea, ez))]) rfl ?_ rfl
            clear hb hdep hdap hold
            go_simp
          · intro x w1 bA hbel hdep hdap hold hb
            refine ⟨fun _ => ?_, fun h => absurd h (by decide)⟩
            have e7 : bA.tmps[7]?.getD undef = .pointer (some ⟨Bs, 0, none⟩) := hb 7
            refine phf_run (.pointer (some ⟨Bs, 2, none⟩)) rfl ?_ rfl
            clear hb hdep hdap hold
            go_simp
          · intro x w1 bA hbel hdep hdap hold hb
            refine ⟨fun _ => ?_, fun h => absurd h (by decide)⟩
            have e67 : bA.tmps[67]?.getD undef = .pointer (some ⟨Bs, 2, none⟩) := (hb 67).trans (hdep 5 (by decide))
            have ct := (QS.out.below hbel QS.out.lt).cell 2
            refine phf_run (.int .i64 sc) rfl ?_ rfl
            clear hb hdep hdap hold
            go_simp
          · intro x w1 bA hbel hdep hdap hold hb
            refine ⟨fun _ => ?_, fun h => absurd h (by decide)⟩
            have e9 : bA.tmps[9]?.getD undef = .pointer (some ⟨Bt, 0, none⟩) := hb 9
            refine phf_run (.pointer (some ⟨Bt, 2, none⟩)) rfl ?_ rfl
            clear hb hdep hdap hold
            go_simp
          · intro x w1 bA hbel hdep hdap hold hb
            refine ⟨fun _ => ?_, fun h => absurd h (by decide)⟩
            have e69 : bA.tmps[69]?.getD undef = .pointer (some ⟨Bt, 2, none⟩) := (hb 69).trans (hdep 7 (by decide))
            have ct := (QT.out.below hbel QT.out.lt).cell 2
            refine phf_run (.int .i64 tc_) rfl ?_ rfl
            clear hb hdep hdap hold
            go_simp
          · intro x w1 bA hbel hdep hdap hold hb
            refine ⟨fun _ => ?_, fun h => absurd h (by decide)⟩
            have e68 : bA.tmps[68]?.getD undef = .int .i64 sc := (hb 68).trans (hdep 6 (by decide))
            have e70 : bA.tmps[70]?.getD undef = .int .i64 tc_ := (hb 70).trans (hdep 8 (by decide))
            have cw := HBC.out
            refine phf_run (.int .i64 bc) rfl ?_ rfl
            clear hb hdep hdap hold
            go_simp
          · intro x w1 bA hbel hdep hdap hold hb
            refine ⟨fun _ => ?_, fun h => absurd h (by decide)⟩
            have e66 : bA.tmps[66]?.getD undef = .agg #[.int .i64 (hiS done (ea, ez)), .int .i64 (loS done (ea, ez))] := (hb 66).trans (hdep 4 (by decide))
            have e71 : bA.tmps[71]?.getD undef = .int .i64 bc := (hb 71).trans (hdep 9 (by decide))
            refine phf_call ?_ ((splus_any _ _ bc w1 HHB.out.1 HHB.out.2.1 HHB.out.2.2).mono fun e w' h => ⟨_, h.1, h.2, rfl, fun e => Bool.noConfusion e⟩)
            clear hb hdep hdap hold
            go_simp
          · intro x w1 bA hbel hdep hdap hold hb
            refine ⟨fun h => absurd h (by decide), fun _ hall => ?_⟩
            have e62 : bA.tmps[62]?.getD undef = .map (some g) := (hb 62).trans (hdep 0 (by decide))
            have e63 : bA.tmps[63]?.getD undef = .agg #[.int .i64 ea, .int .i64 ez] := (hb 63).trans (hdep 1 (by decide))
            have e72 : bA.tmps[72]?.getD undef = .agg #[.int .i64 (hiS done (ea, ez) + bc / 33554432), .int .i64 (loS done (ea, ez) + bc % 33554432)] := (hb 72).trans (hdep 10 (by decide))
            clear hb hdep hdap hold
            have hs1 := HM.out.below hbel
            obtain ⟨W2, hrun, hm2, ho2⟩ := hs1.store (c := bc) HRK.out HLN.out
            have HM2 := Lib.hid hm2
            have HO2 := Lib.hid (((Oth.refl1 base g w7).grow hbel HBS.out).trans1 (ho2 base HBG.out (Nat.le_trans HBS.out hbel.size)))
            clear hs1 hbel hm2 ho2
            refine phl_store (R := fun W => MapB g (done ++ [((ea, ez), bc)]) W ∧ Oth base [g] none w7 W) W2 ?_ rfl ⟨HM2.out, HO2.out⟩
            go_simp
          intro x w1' hR
          simp only [putAll, dstOf, Act.put, List.map_cons, List.map_nil, List.setIfInBounds_toArray, List.set_cons_succ, List.set_cons_zero, Nat.reduceAdd]
          have HF := Lib.hid (show MapB g (mulT (p.take i) q ++ (q.take (j + 1)).map (fun t => (kadd (sa, sz) t.1, sc * t.2))) w1' ∧ Arr w1' w.heap.size 27 [.bool false, .slice (some ⟨b, o', none⟩) p.length c] ∧ Arr w1' (w.heap.size + 1) 27 [.bool false, .slice (some ⟨b2, o2, none⟩) q.length c2] ∧ Arr w1' (w.heap.size + 2) 27 [.bool false, .slice none 0 0] ∧ Arr w1' wo.heap.size 65 [.int .i64 sa, .int .i64 sz, .int .i64 sc] ∧ Below w.heap.size w w1' from
            ⟨HNX.out _ hR.1, hR.2.at_ Q0.out HGN.out.1, hR.2.at_ Q1.out HGN.out.2.1, hR.2.at_ QR.out HGN.out.2.2.1, by have := hR.2.at_ QS.out (by rw [HBB.out]; exact HGN.out.2.2.2); rwa [HBB.out] at this, by have := hR.2.below; rw [HBE.out] at this; exact HO7.out.trans this⟩)
          clear hR
          have hbe := HBB.out
          subst hbe
          clear HBB
          go_wp2_with fail
          go_roundg (q.length - (j + 1))
          case measure => omega
          case rel => exact ⟨j + 1, by omega, rfl, by go_num, HF⟩
        · have z2 : ¬ (j : Int) < (q.length : Int) := by omega
          have HF := Lib.hid (show MapB g (mulT (p.take (i + 1)) q) wr ∧ Arr wr w.heap.size 27 [.bool false, .slice (some ⟨b, o', none⟩) p.length c] ∧ Arr wr (w.heap.size + 1) 27 [.bool false, .slice A2 q.length c2] ∧ Arr wr (w.heap.size + 2) 27 [.bool false, .slice none 0 0] ∧ Below w.heap.size w wr from by
            have := HR.out
            rw [List.take_of_length_le (by omega : q.length ≤ j), ← HMT.out] at this
            exact ⟨this.1, this.2.1, this.2.2.1, this.2.2.2.1, this.2.2.2.2.2⟩)
          clear HR
          go_wp2_with fail
          go_roundg (p.length - (i + 1))
          case measure => omega
          case rel => exact ⟨i + 1, by omega, rfl, by go_num, HF⟩
    · have z1 : ¬ (i : Int) < (p.length : Int) := by omega
      have HF := Lib.hid (show MapB g (mulT p q) wr ∧ Arr wr (w.heap.size + 2) 27 [.bool false, .slice none 0 0] ∧ Below w.heap.size w wr from by
        have := HR.out
        rw [List.take_of_length_le (by omega)] at this
        exact ⟨this.1, this.2.2.2.1, this.2.2.2.2⟩)
      have HGA := Lib.hid (gather_any g (mulT p q) wr HF.out.1 (fun t ht => by
        unfold mulT at ht
        obtain ⟨s, hs, ht⟩ := List.mem_flatMap.1 ht
        obtain ⟨u, hu, rfl⟩ := List.mem_map.1 ht
        have := HPB.out s hs u hu
        simp only
        omega) (fun t ht => by
        unfold mulT at ht
        obtain ⟨s, hs, ht⟩ := List.mem_flatMap.1 ht
        obtain ⟨u, hu, rfl⟩ := List.mem_map.1 ht
        have := HLM.out.1.ea s hs
        have := HLM.out.1.ez s hs
        have := HLM.out.2.ea u hu
        have := HLM.out.2.ez u hu
        unfold kadd rkB
        simp only
        omega) (by rw [mulT_len]; exact HLEN.out))
      clear HR
      go_wp2_with fail
      refine HGA.out.mono ?_
      rintro e w7 ⟨v, r, rfl, hv, hr, hb7⟩
      have q7 := HF.out.2.1.below hb7 HF.out.2.1.lt
      have hb7' := HF.out.2.2.trans (hb7.mono HF.out.2.2.size)
      have HV := Lib.hid (fun u1 u2 => hv.box q7 u1 u2)
      have HRR := Lib.hid hr
      obtain ⟨b5, A5, n5, c5, rfl, j5, j6⟩ := hv.parts
      clear j5 j6 hv hr HGA hb7
      have x0 := q7.cell 0
      have x1 := q7.cell 1
      have f0 := q7.frozen 0
      have f1 := q7.frozen 1
      have hres := Lib.hid ((q7.set 0 (.bool b5)).set 1 (.slice A5 n5 c5))
      go_wp2_with fail
      refine bodyPost_ret (v := .agg #[.bool b5, .slice A5 n5 c5]) (results_c Tryz.results14 _ _ (w.heap.size + 2) 27 _ _ rfl hres.out Tryz.underlying27 rfl info_polyB) rfl ?_
      exact ⟨_, r, rfl, HV.out _ _, HRR.out, (hb7'.setCell (p := ⟨w.heap.size + 2, 0, none⟩) (by simp) _).setCell (p := ⟨w.heap.size + 2, 1, none⟩) (by simp) _⟩
end Go.Proofs.YtbfggncmjdhapaaGreatDoor
