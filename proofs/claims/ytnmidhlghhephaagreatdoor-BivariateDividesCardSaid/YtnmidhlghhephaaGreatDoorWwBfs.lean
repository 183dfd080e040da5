/- bivariate: height, Mul. -/
/- bivariate: polynomials told by a list of terms. -/
/- unravellaw13.of, small. -/
/- bivariate.Shift. -/
/- Shift of a polynomial told by a list of terms. -/
/- bivariate.Flip. -/
/- Flip of a polynomial told by a list of terms. -/
/- Shift and Flip with numbers; shifts as products. -/
import Derived.Test.YtnmidhlghhephaaGreatDoorWwBeq
import Derived.Laws.Cover1
namespace Go.Proofs.YtnmidhlghhephaaGreatDoor
open Go.RowKit Go.Maps
set_option linter.unusedVariables false
/-- the greatest absolute value of a coefficient -/
def hgtB (l : List T2) : Int := l.foldl (fun m t => max (max m t.2) (-t.2)) 0
theorem hgt_snoc (l : List T2) (t : T2) : hgtB (l ++ [t]) = max (max (hgtB l) t.2) (-t.2) := by unfold hgtB; rw [List.foldl_append]; rfl
theorem hgt_bd {l : List T2} (h : ∀ t ∈ l, -1125899906842624 ≤ t.2 ∧ t.2 ≤ 1125899906842624) : ∀ k, 0 ≤ hgtB (l.take k) ∧ hgtB (l.take k) ≤ 1125899906842624 := by
  intro k
  induction k with
  | zero => exact ⟨by simp [hgtB], by simp [hgtB]⟩
  | succ k ih =>
    by_cases hk : k < l.length
    · rw [take_snocB hk, hgt_snoc]
      have := h _ (List.getElem_mem hk)
      omega
    · rw [List.take_of_length_le (by omega)]
      rw [List.take_of_length_le (by omega)] at ih
      exact ih
theorem hgt_go : ∀ (l : List T2) (m : Int), m ≤ l.foldl (fun m t => max (max m t.2) (-t.2)) m ∧ ∀ t ∈ l, t.2 ≤ l.foldl (fun m t => max (max m t.2) (-t.2)) m ∧ -t.2 ≤ l.foldl (fun m t => max (max m t.2) (-t.2)) m
  | [], m => ⟨Int.le_refl _, fun t h => by cases h⟩
  | s :: l, m => by
    obtain ⟨h1, h2⟩ := hgt_go l (max (max m s.2) (-s.2))
    rw [List.foldl_cons]
    refine ⟨by omega, fun t ht => ?_⟩
    rcases List.mem_cons.1 ht with rfl | ht
    · omega
    · exact h2 t ht
theorem hgt_ge {l : List T2} {t : T2} (ht : t ∈ l) : t.2 ≤ hgtB l ∧ -t.2 ≤ hgtB l := (hgt_go l 0).2 t ht
theorem hgt_nn (l : List T2) : 0 ≤ hgtB l := (hgt_go l 0).1
theorem hgt_pos {l : List T2} (k : Can2 l) (h : 0 < l.length) : 0 < hgtB l := by
  have h1 := k.nz l[0] (List.getElem_mem h)
  have h2 := hgt_ge (List.getElem_mem h : l[0] ∈ l)
  omega
theorem hgt_asum (l : List T2) : hgtB l ≤ asum2 l := by
  have key : ∀ (l : List T2) (m : Int), 0 ≤ m → l.foldl (fun m t => max (max m t.2) (-t.2)) m ≤ m + asum2 l := by
    intro l
    induction l with
    | nil => intro m _; simp [asum2]
    | cons t l ih =>
      intro m hm
      rw [List.foldl_cons, asum2]
      have := ih (max (max m t.2) (-t.2)) (by omega)
      omega
  have := key l 0 (Int.le_refl _)
  unfold hgtB
  omega
theorem mul_bd {x y a b : Int} (hx : -a ≤ x ∧ x ≤ a) (hy : -b ≤ y ∧ y ≤ b) : -(a * b) ≤ x * y ∧ x * y ≤ a * b := by
  have h1 : 0 ≤ (a - x) * (b + y) := Int.mul_nonneg (by omega) (by omega)
  have h2 : 0 ≤ (a + x) * (b - y) := Int.mul_nonneg (by omega) (by omega)
  have h3 : 0 ≤ (a - x) * (b - y) := Int.mul_nonneg (by omega) (by omega)
  have h4 : 0 ≤ (a + x) * (b + y) := Int.mul_nonneg (by omega) (by omega)
  rw [Int.sub_mul, Int.mul_add, Int.mul_add] at h1
  rw [Int.add_mul, Int.mul_sub, Int.mul_sub] at h2
  rw [Int.sub_mul, Int.mul_sub, Int.mul_sub] at h3
  rw [Int.add_mul, Int.mul_add, Int.mul_add] at h4
  omega
set_option maxHeartbeats 1000000 in
set_option maxRecDepth 100000 in
theorem height_any (vp : Value) (l : List T2) (w : World) (hp : PolyB w vp (some l)) (hc : ∀ t ∈ l, -1125899906842624 ≤ t.2 ∧ t.2 ≤ 1125899906842624) (hl : l.length ≤ 1000000) :
    Calls Tryz.prog 37 #[vp] w fun e w' => e = .returned (.int .i64 (hgtB l)) ∧ Below w.heap.size w w' := by
  have HP := Lib.hid (fun W (hb : Below w.heap.size w W) => hp.below hb)
  obtain ⟨A, c, rfl, _⟩ := hp
  simp only [Option.isNone_some, Option.getD_some] at HP ⊢
  have HC := Lib.hid hc
  clear hc
  have hW : ∀ W, W = w.alloc (.cells #[.bool false, .slice A l.length c] 29) → Arr W w.heap.size 29 [.bool false, .slice A l.length c] ∧ Below w.heap.size w W := by
    intro W hW
    subst hW
    exact ⟨Arr.new _ _ [_, _], (Below.refl _ _).alloc (Nat.le_refl _) _⟩
  go_enter Tryz.func37, Tryz.ntmps37
  go_upto_region 1 with fail
  generalize w.alloc (.cells #[.bool false, .slice A l.length c] 29) = w3 at hW ⊢
  obtain ⟨q0, hb3⟩ := hW w3 rfl
  have y1 := q0.cell 1
  clear hW q0
  go_wp2_with fail
  go_loopg [3, 9] l.length (fun gk s3 s9 wr => ∃ (i : Nat), i ≤ l.length ∧ gk = l.length - i ∧ s9 = .int .i64 (i : Int) ∧ s3 = .int .i64 (hgtB (l.take i)) ∧ Below w.heap.size w wr)
  case atStart => exact ⟨0, Nat.zero_le _, rfl, rfl, rfl, hb3⟩
  case round =>
    clear hb3 y1
    obtain ⟨i, hi, rfl, rfl, rfl, hbr⟩ := hrel
    by_cases hlt : i < l.length
    · have z1 : (i : Int) < (l.length : Int) := by omega
      obtain ⟨b, o', rfl, _, hc0, hc1, hc2⟩ := (HP.out wr hbr).tm_some.at_ hlt
      have HN := Lib.hid (show hgtB (l.take (i + 1)) = max (max (hgtB (l.take i)) l[i].2) (-l[i].2) by rw [take_snocB hlt, hgt_snoc])
      have hcc := HC.out _ (List.getElem_mem hlt)
      have hm := hgt_bd HC.out i
      generalize hgtB (l.take i) = m at *
      generalize l[i].1.1 = ea at *
      generalize l[i].1.2 = ez at *
      generalize l[i].2 = cc at *
      have hb4 := hbr.alloc hbr.size (.cells #[.int .i64 ea, .int .i64 ez, .int .i64 cc] 49)
      have hmx : ∀ ty (W : World), (Builtin.max_ #[3, 3, 3] ty #[.int .i64 m, .int .i64 cc, .int .i64 (-cc)]).run Tryz.prog W = .ok (.int .i64 (max (max m cc) (-cc))) W := fun ty W => by
        rw [run_max_int3]
        congr 2
        by_cases h1 : cc > m
        · rw [if_pos h1]
          by_cases h2 : -cc > cc
          · rw [if_pos h2]; omega
          · rw [if_neg h2]; omega
        · rw [if_neg h1]
          by_cases h2 : -cc > m
          · rw [if_pos h2]; omega
          · rw [if_neg h2]; omega
      generalize max (max m cc) (-cc) = mx at *
      go_wp2_with fail
      go_roundg (l.length - (i + 1))
      case measure => omega
      case rel => exact ⟨i + 1, by omega, rfl, by go_num, by rw [HN.out], hb4⟩
    · have z1 : ¬ (i : Int) < (l.length : Int) := by omega
      have hkk : l.take i = l := List.take_of_length_le (by omega)
      rw [hkk]
      go_wp2_with fail
      go_ret
      exact ⟨rfl, hbr⟩
/-- what Mul returns, where no product of two coefficients is too large -/
def MulB (p q : PolB) (w : World) (e : Ending) (w' : World) : Prop := ∃ v r, e = .returned v ∧ PolyB w' v r ∧ (match p, q with
  | some l, some m => GthP (cg2 (mulT l m)) r
  | _, _ => r = none) ∧ Below w.heap.size w w'
theorem mulT_nil_right (l : List T2) : mulT l [] = [] := by
  induction l with
  | nil => rfl
  | cons s l ih => rw [mulT_cons, ih]; rfl
theorem mulT_take {p q : List T2} {i : Nat} (h : i < p.length) : mulT (p.take (i + 1)) q = mulT (p.take i) q ++ q.map (fun t => (kadd p[i].1 t.1, p[i].2 * t.2)) := by
  rw [take_snocB h, mulT_append, mulT_cons, mulT_nil, List.append_nil]
theorem mulT_len (l m : List T2) : (mulT l m).length = l.length * m.length := by
  induction l with
  | nil => simp [mulT_nil]
  | cons s l ih => rw [mulT_cons, List.length_append, ih, List.length_map, List.length_cons, Nat.add_mul]; omega
set_option maxHeartbeats 4000000 in
set_option maxRecDepth 100000 in
theorem Mul_core (vp vq : Value) (p q : List T2) (w : World) (hp : PolyB w vp (some p)) (hq : PolyB w vq (some q)) (lp : Lim2 p) (kp : Can2 p) (lq : Lim2 q) (kq : Can2 q) (hnp : 0 < p.length) (hnq : 0 < q.length) (hlp : p.length ≤ 1000000) (hlq : q.length ≤ 1000000) (hlen : p.length * q.length ≤ 1000000) (hh : hgtB p * hgtB q ≤ 1125899906842624) :
    Calls Tryz.prog 14 #[vp, vq] w (MulB (some p) (some q) w) := by
  have HP := Lib.hid (fun W (hb : Below w.heap.size w W) => hp.below hb)
  have HQ := Lib.hid (fun W (hb : Below w.heap.size w W) => hq.below hb)
  have HLM := Lib.hid (And.intro lp lq)
  obtain ⟨A, c, rfl, _⟩ := hp
  obtain ⟨A2, c2, rfl, _⟩ := hq
  simp only [Option.isNone_some, Option.getD_some] at HP HQ ⊢
  have HH1 := Lib.hid (fun W (hb : Below w.heap.size w W) => height_any _ p W (HP.out W hb) lp.co hlp)
  have HH2 := Lib.hid (fun W (hb : Below w.heap.size w W) => height_any _ q W (HQ.out W hb) lq.co hlq)
  have g1 := hgt_pos kp hnp
  have g2 := hgt_pos kq hnq
  have g3 := hgt_bd lp.co p.length
  have g4 := hgt_bd lq.co q.length
  rw [List.take_length] at g3 g4
  have HPB := Lib.hid (show ∀ s ∈ p, ∀ t ∈ q, -1125899906842624 ≤ s.2 * t.2 ∧ s.2 * t.2 ≤ 1125899906842624 from fun s hs t ht => by
    have h1 := hgt_ge hs
    have h2 := hgt_ge ht
    have h3 := mul_bd (x := s.2) (y := t.2) (a := hgtB p) (b := hgtB q) ⟨by omega, h1.1⟩ ⟨by omega, h2.1⟩
    omega)
  have HLEN := Lib.hid hlen
  generalize hgtB p = h1 at *
  generalize hgtB q = h2 at *
  have gd : h1 ≤ 1125899906842624 / h2 := (Int.le_ediv_iff_mul_le g2).2 hh
  have gq : Int.tdiv 1125899906842624 h2 = 1125899906842624 / h2 := Int.tdiv_eq_ediv_of_nonneg (by decide)
  obtain ⟨dv, hdv⟩ : ∃ dv, dv = 1125899906842624 / h2 := ⟨_, rfl⟩
  rw [← hdv] at gd gq
  have gdb : 0 ≤ dv ∧ dv ≤ 1125899906842624 := by
    have e1 := Int.ediv_le_self (a := 1125899906842624) h2 (by decide)
    omega
  clear hh hdv
  have hW : ∀ W, W = ((w.alloc (.cells #[.bool false, .slice A p.length c] 29)).alloc (.cells #[.bool false, .slice A2 q.length c2] 29)).alloc (.cells #[.bool false, .slice none 0 0] 29) → Arr W w.heap.size 29 [.bool false, .slice A p.length c] ∧ Arr W (w.heap.size + 1) 29 [.bool false, .slice A2 q.length c2] ∧ Arr W (w.heap.size + 2) 29 [.bool false, .slice none 0 0] ∧ Below w.heap.size w W ∧ W.heap.size = w.heap.size + 3 := by
    intro W hW
    subst hW
    exact ⟨((Arr.new _ _ [_, _]).alloc _).alloc _, (Arr.newAt (w.alloc _) _ [_, _] _ (by simp)).alloc _, Arr.newAt ((w.alloc _).alloc _) _ [_, _] _ (by simp), (((Below.refl _ _).alloc (Nat.le_refl _) _).alloc (by simp) _).alloc (by simp <;> omega) _, by simp⟩
  have zn : ((p.length : Int) == 0) = false := by simp; intro h; rw [h] at hnp; simp at hnp
  have zn2 : ((q.length : Int) == 0) = false := by simp; intro h; rw [h] at hnq; simp at hnq
  have hmm := @run_makeMap Tryz.prog
  clear lp kp lq kq hnp hnq hlen
  go_enter Tryz.func14, Tryz.ntmps14
  go_upto_region 1 with fail
  generalize ((w.alloc (.cells #[.bool false, .slice A p.length c] 29)).alloc (.cells #[.bool false, .slice A2 q.length c2] 29)).alloc (.cells #[.bool false, .slice none 0 0] 29) = w3 at hW ⊢
  obtain ⟨q0, q1, qr, hb3, hs3⟩ := hW w3 rfl
  clear hW
  have y0 := q0.cell 0
  have y1 := q0.cell 1
  have y2 := q1.cell 0
  have y3 := q1.cell 1
  go_upto_region 5 with fail
  have Q0 := Lib.hid q0
  have Q1 := Lib.hid q1
  have QR := Lib.hid qr
  have HB3 := Lib.hid hb3
  have HGZ := Lib.hid (show Int.tdiv 1125899906842624 h2 = dv ∧ (h2 == 0) = false ∧ h2 ≠ 0 from ⟨gq, beq_eq_false_iff_ne.2 (by omega), by omega⟩)
  have HGD := Lib.hid (show decide (h1 > dv) = false ∧ decide (dv < h1) = false from ⟨decide_eq_false (by omega), decide_eq_false (by omega)⟩)
  have HS3 := Lib.hid hs3
  have GB := Lib.hid (And.intro (And.intro g1 g2) gdb)
  clear q0 q1 qr hb3 y0 y1 y2 y3 g1 g2 g3 g4 gq gd gdb zn zn2 hs3
  refine wp_region_phi (by kernel_rfl) (by kernel_rfl) (by kernel_rfl) (by kernel_rfl) (by kernel_rfl) (phiT (fun i => ([some (.agg #[.bool false, .slice A p.length c]), some (.int .i64 h1), some (.agg #[.bool false, .slice A2 q.length c2]), some (.int .i64 h2), some (.int .i64 dv), some (.bool false)] : List (Option Value)).getD i none) (fun i v w => True)) (fun i v w w' h hb => ?_) ⟨?_, ?_, ?_, ?_, ?_, ?_, trivial⟩ ?_
  · unfold phiT at h ⊢
    split
    · next u hu => rw [hu] at h; exact h
    · next hu =>
      rw [hu] at h
      exact True.intro
  · intro x w1 bA hbel hdep hold hb
    have e2 : bA.tmps[2]?.getD undef = .pointer (some ⟨w.heap.size, 0, none⟩) := hb 2
    have cc0 := (Q0.out.below hbel Q0.out.lt).cell 0
    have cc1 := (Q0.out.below hbel Q0.out.lt).cell 1
    refine phi_run (.agg #[.bool false, .slice A p.length c]) ?_ rfl
    clear hb hdep hold
    go_simp
  · intro x w1 bA hbel hdep hold hb
    have e29 : bA.tmps[29]?.getD undef = .agg #[.bool false, .slice A p.length c] := (hb 29).trans (hdep 0 (by decide))
    refine phi_call ?_ ((HH1.out w1 (HB3.out.trans (hbel.mono HB3.out.size))).mono fun e w' h => ⟨_, h.1, h.2, rfl⟩)
    clear hb hdep hold
    go_simp
  · intro x w1 bA hbel hdep hold hb
    have e3 : bA.tmps[3]?.getD undef = .pointer (some ⟨w.heap.size + 1, 0, none⟩) := hb 3
    have cc0 := (Q1.out.below hbel Q1.out.lt).cell 0
    have cc1 := (Q1.out.below hbel Q1.out.lt).cell 1
    refine phi_run (.agg #[.bool false, .slice A2 q.length c2]) ?_ rfl
    clear hb hdep hold
    go_simp
  · intro x w1 bA hbel hdep hold hb
    have e31 : bA.tmps[31]?.getD undef = .agg #[.bool false, .slice A2 q.length c2] := (hb 31).trans (hdep 2 (by decide))
    refine phi_call ?_ ((HH2.out w1 (HB3.out.trans (hbel.mono HB3.out.size))).mono fun e w' h => ⟨_, h.1, h.2, rfl⟩)
    clear hb hdep hold
    go_simp
  · intro x w1 bA hbel hdep hold hb
    have e32 : bA.tmps[32]?.getD undef = .int .i64 h2 := (hb 32).trans (hdep 3 (by decide))
    have zz := HGZ.out
    have zw : IntKind.i64.wrap dv = dv := IntWalk.i64_in _ (by have := GB.out; omega)
    refine phi_run (.int .i64 dv) ?_ rfl
    clear hb hdep hold
    go_simp
  · intro x w1 bA hbel hdep hold hb
    have e30 : bA.tmps[30]?.getD undef = .int .i64 h1 := (hb 30).trans (hdep 1 (by decide))
    have e33 : bA.tmps[33]?.getD undef = .int .i64 dv := (hb 33).trans (hdep 4 (by decide))
    have zz := HGD.out
    refine phi_run (.bool false) ?_ rfl
    clear hb hdep hold
    go_simp
  intro x w1 hbel hall
  have x0e : x 0 = .agg #[.bool false, .slice A p.length c] := hall 0 (by decide)
  have x1e : x 1 = .int .i64 h1 := hall 1 (by decide)
  have x2e : x 2 = .agg #[.bool false, .slice A2 q.length c2] := hall 2 (by decide)
  have x3e : x 3 = .int .i64 h2 := hall 3 (by decide)
  have x4e : x 4 = .int .i64 dv := hall 4 (by decide)
  have x5e : x 5 = .bool false := hall 5 (by decide)
  simp only [putAll, dstOf, Act.put, List.map_cons, List.map_nil, List.setIfInBounds_toArray, List.set_cons_succ, List.set_cons_zero, Nat.reduceAdd, x0e, x1e, x2e, x3e, x4e, x5e]
  clear x0e x1e x2e x3e x4e x5e hall
  have hb1 := HB3.out.trans (hbel.mono HB3.out.size)
  have q0 := Q0.out.below hbel Q0.out.lt
  have q1 := Q1.out.below hbel Q1.out.lt
  have qr := QR.out.below hbel QR.out.lt
  have hW4 : ∀ W, W = w1.alloc (.map #[] 0) → MapB w1.heap.size [] W ∧ Arr W w.heap.size 29 [.bool false, .slice A p.length c] ∧ Arr W (w.heap.size + 1) 29 [.bool false, .slice A2 q.length c2] ∧ Arr W (w.heap.size + 2) 29 [.bool false, .slice none 0 0] ∧ Below w.heap.size w W := by
    intro W hW
    subst hW
    exact ⟨MapB.start w1, q0.alloc _, q1.alloc _, qr.alloc _, hb1.alloc hb1.size _⟩
  have hg1 : w.heap.size + 3 ≤ w1.heap.size := by have := hbel.size; have := HS3.out; omega
  clear Q0 Q1 QR HGZ HGD hbel q0 q1 qr hb1
  go_upto_region 8 with fail
  generalize w1.alloc (.map #[] 0) = w4 at hW4 ⊢
  obtain ⟨hm4, q0, q1, qr, hb4⟩ := hW4 w4 rfl
  obtain ⟨g, hg⟩ : ∃ g, g = w1.heap.size := ⟨_, rfl⟩
  rw [← hg] at hm4 hg1 ⊢
  have y1 := q0.cell 1
  have HST := Lib.hid (show MapB g (mulT (p.take 0) q) w4 ∧ Arr w4 w.heap.size 29 [.bool false, .slice A p.length c] ∧ Arr w4 (w.heap.size + 1) 29 [.bool false, .slice A2 q.length c2] ∧ Arr w4 (w.heap.size + 2) 29 [.bool false, .slice none 0 0] ∧ Below w.heap.size w w4 from ⟨by rw [List.take_zero, mulT_nil]; exact hm4, q0, q1, qr, hb4⟩)
  clear hW4 hm4 q0 q1 qr hb4 hg hmm
  go_wp2_with fail
  clear y1
  go_loopg [40] p.length (fun gk s40 wr => ∃ (i : Nat), i ≤ p.length ∧ gk = p.length - i ∧ s40 = .int .i64 (i : Int) ∧ Hid (MapB g (mulT (p.take i) q) wr ∧ Arr wr w.heap.size 29 [.bool false, .slice A p.length c] ∧ Arr wr (w.heap.size + 1) 29 [.bool false, .slice A2 q.length c2] ∧ Arr wr (w.heap.size + 2) 29 [.bool false, .slice none 0 0] ∧ Below w.heap.size w wr))
  case atStart => exact ⟨0, Nat.zero_le _, rfl, rfl, HST⟩
  case round =>
    clear HST
    obtain ⟨i, hi, rfl, rfl, HR⟩ := hrel
    by_cases hlt : i < p.length
    · have z1 : (i : Int) < (p.length : Int) := by omega
      obtain ⟨b, o', rfl, _, hc0, hc1, hc2⟩ := (HP.out wr HR.out.2.2.2.2).tm_some.at_ hlt
      have HSX := Lib.hid (And.intro (HLM.out.1.ea _ (List.getElem_mem hlt)) (HLM.out.1.ez _ (List.getElem_mem hlt)))
      have HSP := Lib.hid (fun t ht => HPB.out _ (List.getElem_mem hlt) t ht)
      have HMT := Lib.hid (mulT_take (q := q) hlt)
      have HTL := Lib.hid (show ∀ j, j ≤ q.length → ((mulT (p.take i) q).length + ((q.take j).map (fun t => (kadd p[i].1 t.1, p[i].2 * t.2))).length) ≤ 1000000 from fun j hj => by
        rw [mulT_len, List.length_map, List.length_take, List.length_take, Nat.min_eq_left hj, Nat.min_eq_left hi]
        have h3 := HLEN.out
        have h4 : (i + 1) * q.length ≤ p.length * q.length := Nat.mul_le_mul_right _ hlt
        rw [Nat.add_mul] at h4
        omega)
      have HCB := Lib.hid (show ∀ j, Cb (mulT (p.take i) q ++ (q.take j).map (fun t => (kadd p[i].1 t.1, p[i].2 * t.2))) from fun j => Cb.append (fun t ht => by
        unfold mulT at ht
        obtain ⟨s, hs, ht⟩ := List.mem_flatMap.1 ht
        obtain ⟨u, hu, rfl⟩ := List.mem_map.1 ht
        have := HPB.out s (List.mem_of_mem_take hs) u hu
        simp only
        omega) (fun t ht => by
        obtain ⟨u, hu, rfl⟩ := List.mem_map.1 ht
        have := HPB.out _ (List.getElem_mem hlt) u (List.mem_of_mem_take hu)
        simp only
        omega))
      have HEK := Lib.hid (show p[i].1 = (p[i].1.1, p[i].1.2) from rfl)
      generalize hsk : p[i].1 = sk at *
      obtain ⟨sa, sz⟩ := sk
      generalize hsc : p[i].2 = sc at *
      dsimp only at *
      clear hsk hsc HEK
      obtain ⟨wo, rfl⟩ : ∃ wo, wo = wr := ⟨_, rfl⟩
      have hWo : ∀ W, W = wo.alloc (.cells #[.int .i64 sa, .int .i64 sz, .int .i64 sc] 49) → Arr W wo.heap.size 49 [.int .i64 sa, .int .i64 sz, .int .i64 sc] ∧ Below wo.heap.size wo W := by
        intro W hW
        subst hW
        exact ⟨Arr.new _ _ [_, _, _], (Below.refl _ _).alloc (Nat.le_refl _) _⟩
      have x1 := HR.out.2.2.1.cell 1
      go_upto_region 11 with fail
      generalize (wo.alloc (.cells #[.int .i64 sa, .int .i64 sz, .int .i64 sc] 49)) = w5 at hWo ⊢
      obtain ⟨qs, hb5⟩ := hWo w5 rfl
      have HGO := Lib.hid (show g ≠ wo.heap.size ∧ wo.heap.size ≠ w.heap.size + 1 from ⟨by have := HR.out.1.lt; omega, by have := HR.out.2.2.1.lt; omega⟩)
      have HST := Lib.hid (show MapB g (mulT (p.take i) q ++ (q.take 0).map (fun t => (kadd (sa, sz) t.1, sc * t.2))) w5 ∧ Arr w5 w.heap.size 29 [.bool false, .slice (some ⟨b, o', none⟩) p.length c] ∧ Arr w5 (w.heap.size + 1) 29 [.bool false, .slice A2 q.length c2] ∧ Arr w5 (w.heap.size + 2) 29 [.bool false, .slice none 0 0] ∧ Arr w5 wo.heap.size 49 [.int .i64 sa, .int .i64 sz, .int .i64 sc] ∧ Below w.heap.size w w5 from
        ⟨by rw [List.take_zero, List.map_nil, List.append_nil]; exact HR.out.1.below hb5, HR.out.2.1.below hb5 HR.out.2.1.lt, HR.out.2.2.1.below hb5 HR.out.2.2.1.lt, HR.out.2.2.2.1.below hb5 HR.out.2.2.2.1.lt, qs, HR.out.2.2.2.2.trans (hb5.mono HR.out.2.2.2.2.size)⟩)
      have x1 := HST.out.2.2.1.cell 1
      clear hWo hc0 hc1 hc2 HR qs hb5
      go_wp2_with fail
      clear x1
      go_loopg [47] q.length (fun gk s47 wr => ∃ (j : Nat), j ≤ q.length ∧ gk = q.length - j ∧ s47 = .int .i64 (j : Int) ∧ Hid (MapB g (mulT (p.take i) q ++ (q.take j).map (fun t => (kadd (sa, sz) t.1, sc * t.2))) wr ∧ Arr wr w.heap.size 29 [.bool false, .slice (some ⟨b, o', none⟩) p.length c] ∧ Arr wr (w.heap.size + 1) 29 [.bool false, .slice A2 q.length c2] ∧ Arr wr (w.heap.size + 2) 29 [.bool false, .slice none 0 0] ∧ Arr wr wo.heap.size 49 [.int .i64 sa, .int .i64 sz, .int .i64 sc] ∧ Below w.heap.size w wr))
      case atStart => exact ⟨0, Nat.zero_le _, rfl, rfl, HST⟩
      case round =>
        clear HST
        obtain ⟨j, hj, rfl, rfl, HR⟩ := hrel
        by_cases hlj : j < q.length
        · have z2 : (j : Int) < (q.length : Int) := by omega
          obtain ⟨b2, o2, rfl, _, hd0, hd1, hd2⟩ := (HQ.out wr HR.out.2.2.2.2.2).tm_some.at_ hlj
          have HTX := Lib.hid (And.intro (HLM.out.2.ea _ (List.getElem_mem hlj)) (HLM.out.2.ez _ (List.getElem_mem hlj)))
          have HTP := Lib.hid (HSP.out _ (List.getElem_mem hlj))
          have HJT := Lib.hid (take_mapB hlj (fun t => (kadd (sa, sz) t.1, sc * t.2)))
          have HLN0 := Lib.hid (HTL.out j hj)
          have HCD := Lib.hid (HCB.out j)
          generalize htk : q[j].1 = tk at *
          obtain ⟨ta, tz⟩ := tk
          generalize htc : q[j].2 = tc_ at *
          dsimp only at *
          obtain ⟨ea, hea⟩ : ∃ x, x = sa + ta := ⟨_, rfl⟩
          obtain ⟨ez, hez⟩ : ∃ x, x = sz + tz := ⟨_, rfl⟩
          obtain ⟨bc, hbc⟩ : ∃ x, x = sc * tc_ := ⟨_, rfl⟩
          have HKA := Lib.hid (show kadd (sa, sz) (ta, tz) = (ea, ez) by unfold kadd; rw [hea, hez])
          have HRK := Lib.hid (show rkB (ea, ez) from by have := HSX.out; have := HTX.out; exact ⟨by simp only; omega, by simp only; omega⟩)
          have hwa : IntKind.i64.wrap (sa + ta) = ea := by rw [← hea]; exact IntWalk.i64_in _ (by have := HSX.out; have := HTX.out; omega)
          have hwz : IntKind.i64.wrap (sz + tz) = ez := by rw [← hez]; exact IntWalk.i64_in _ (by have := HSX.out; have := HTX.out; omega)
          have hbb : -1125899906842624 ≤ bc ∧ bc ≤ 1125899906842624 := by rw [hbc]; exact HTP.out
          have HBC := Lib.hid (show IntKind.i64.wrap (sc * tc_) = bc from by rw [← hbc]; exact IntWalk.i64_in _ (by omega))
          obtain ⟨done, hdone⟩ : ∃ d, d = mulT (p.take i) q ++ (q.take j).map (fun t => (kadd (sa, sz) t.1, sc * t.2)) := ⟨_, rfl⟩
          have HNX := Lib.hid (show ∀ W, MapB g (done ++ [((ea, ez), bc)]) W → MapB g (mulT (p.take i) q ++ (q.take (j + 1)).map (fun t => (kadd (sa, sz) t.1, sc * t.2))) W from fun W h => by
            rw [HJT.out, HKA.out, ← hbc, ← List.append_assoc, ← hdone]; exact h)
          rw [← hdone] at HCD HR
          have hdl : done.length ≤ 1000000 := by rw [hdone, List.length_append]; exact HLN0.out
          have HHB := Lib.hid (show (-1000000000000000000 ≤ hiS done (ea, ez) ∧ hiS done (ea, ez) ≤ 1000000000000000000) ∧ (-1000000000000000000 ≤ loS done (ea, ez) ∧ loS done (ea, ez) ≤ 1000000000000000000) ∧ (-9223372036854775808 ≤ bc ∧ bc ≤ 9223372036854775807) from by
            have h1 := hiS_bd HCD.out (ea, ez)
            have h2 := loS_bd done (ea, ez)
            refine ⟨⟨by omega, by omega⟩, ⟨by omega, by omega⟩, by omega, by omega⟩)
          have HLN := Lib.hid (show done.length ≤ 1000000000000000 by omega)
          have hz2 : w.heap.size + 3 ≤ wr.heap.size := by have := HR.out.1.lt; omega
          have hWt : ∀ W, W = (wr.alloc (.cells #[.int .i64 ta, .int .i64 tz, .int .i64 tc_] 49)).alloc (.cells #[.int .i64 ea, .int .i64 ez] 72) → Arr W wr.heap.size 49 [.int .i64 ta, .int .i64 tz, .int .i64 tc_] ∧ Arr W (wr.heap.size + 1) 72 [.int .i64 ea, .int .i64 ez] ∧ Below wr.heap.size wr W ∧ W.heap.size = wr.heap.size + 2 := by
            intro W hW
            subst hW
            exact ⟨(Arr.new _ _ [_, _, _]).alloc _, Arr.newAt (wr.alloc _) _ [_, _] _ (by simp), ((Below.refl _ _).alloc (Nat.le_refl _) _).alloc (by simp) _, by simp⟩
          have x0 := HR.out.2.2.2.2.1.cell 0
          have x1 := HR.out.2.2.2.2.1.cell 1
          have HLW := Lib.hid HR.out.2.2.2.2.1.lt
          have hlw := HR.out.2.2.2.2.1.lt
          clear HKA hdone hea hez hbc hbb HCD HJT htk htc HLN0 hdl
          go_upto_region 15 with fail
          generalize (wr.alloc (.cells #[.int .i64 ta, .int .i64 tz, .int .i64 tc_] 49)).alloc (.cells #[.int .i64 ea, .int .i64 ez] 72) = w7 at hWt ⊢
          obtain ⟨qt, qp, hb7, hs7⟩ := hWt w7 rfl
          have HM := Lib.hid (HR.out.1.below hb7)
          have QS := Lib.hid (HR.out.2.2.2.2.1.below hb7 HR.out.2.2.2.2.1.lt)
          have QT := Lib.hid qt
          have QP := Lib.hid qp
          have Q0 := Lib.hid (HR.out.2.1.below hb7 HR.out.2.1.lt)
          have Q1 := Lib.hid (HR.out.2.2.1.below hb7 HR.out.2.2.1.lt)
          have QR := Lib.hid (HR.out.2.2.2.1.below hb7 HR.out.2.2.2.1.lt)
          have HO7 := Lib.hid (HR.out.2.2.2.2.2.trans (hb7.mono HR.out.2.2.2.2.2.size))
          obtain ⟨base, hbase⟩ : ∃ base, base = w.heap.size := ⟨_, rfl⟩
          have HBE := Lib.hid hbase
          have HBS := Lib.hid (show base ≤ w7.heap.size by omega)
          have HBG := Lib.hid (show base ≤ g by omega)
          have HGN := Lib.hid (show w.heap.size ≠ g ∧ w.heap.size + 1 ≠ g ∧ w.heap.size + 2 ≠ g ∧ wo.heap.size ≠ g from ⟨by omega, by omega, by omega, fun e => HGO.out.1 e.symm⟩)
          obtain ⟨Bs, hBs⟩ : ∃ B, B = wo.heap.size := ⟨_, rfl⟩
          obtain ⟨Bt, hBt⟩ : ∃ B, B = wr.heap.size := ⟨_, rfl⟩
          obtain ⟨Bp, hBp⟩ : ∃ B, B = wr.heap.size + 1 := ⟨_, rfl⟩
          have HBB := Lib.hid hBs
          rw [← hBs] at QS ⊢
          rw [← hBt] at QT ⊢
          rw [← hBp] at QP
          rw [show Bt + 1 = Bp by omega]
          clear hd0 hd1 hd2 hb7 hs7 qt qp HR hBs hBt hBp hbase hz2 hWt x0 x1 hwa hwz hlw
          refine wp_region_phis 11 (by kernel_rfl) (by kernel_rfl) (by kernel_rfl) (by kernel_rfl) (by kernel_rfl) rfl (by kernel_rfl) (phiT (fun i => ([some (.map (some g)), some (.agg #[.int .i64 ea, .int .i64 ez]), some (.map (some g)), some (.agg #[.int .i64 ea, .int .i64 ez]), some (.agg #[.int .i64 (hiS done (ea, ez)), .int .i64 (loS done (ea, ez))]), some (.pointer (some ⟨Bs, 2, none⟩)), some (.int .i64 sc), some (.pointer (some ⟨Bt, 2, none⟩)), some (.int .i64 tc_), some (.int .i64 bc), some (.agg #[.int .i64 (hiS done (ea, ez) + bc / 33554432), .int .i64 (loS done (ea, ez) + bc % 33554432)]), some (undef)] : List (Option Value)).getD i none) (fun i v w => True)) (fun i v w w' h hb => ?_) (fun i => false) (fun i v w hi h k hk => ?_) (fun _ W => MapB g (done ++ [((ea, ez), bc)]) W ∧ Oth base [g] none w7 W) ⟨?_, ?_, ?_, ?_, ?_, ?_, ?_, ?_, ?_, ?_, ?_, ?_, trivial⟩ ?_
          · unfold phiT at h ⊢
            split
            · next u hu => rw [hu] at h; exact h
            · next hu =>
              rw [hu] at h
              exact True.intro
          · simp only [Bool.or_eq_true, decide_eq_true_eq, Bool.false_eq_true] at hi
          · intro x w1 bA hbel hdep hdap hold hb
            refine ⟨fun _ => ?_, fun h => absurd h (by decide)⟩
            have e5 : bA.tmps[5]?.getD undef = .map (some g) := hb 5
            refine phf_run (.map (some g)) rfl ?_ rfl
            clear hb hdep hdap hold
            go_simp
          · intro x w1 bA hbel hdep hdap hold hb
            refine ⟨fun _ => ?_, fun h => absurd h (by decide)⟩
            have e10 : bA.tmps[10]?.getD undef = .pointer (some ⟨Bp, 0, none⟩) := hb 10
            have cp0 := (QP.out.below hbel QP.out.lt).cell 0
            have cp1 := (QP.out.below hbel QP.out.lt).cell 1
            refine phf_run (.agg #[.int .i64 ea, .int .i64 ez]) rfl ?_ rfl
            clear hb hdep hdap hold
            go_simp
          · intro x w1 bA hbel hdep hdap hold hb
            refine ⟨fun _ => ?_, fun h => absurd h (by decide)⟩
            have e5 : bA.tmps[5]?.getD undef = .map (some g) := hb 5
            refine phf_run (.map (some g)) rfl ?_ rfl
            clear hb hdep hdap hold
            go_simp
          · intro x w1 bA hbel hdep hdap hold hb
            refine ⟨fun _ => ?_, fun h => absurd h (by decide)⟩
            have e10 : bA.tmps[10]?.getD undef = .pointer (some ⟨Bp, 0, none⟩) := hb 10
            have cp0 := (QP.out.below hbel QP.out.lt).cell 0
            have cp1 := (QP.out.below hbel QP.out.lt).cell 1
            refine phf_run (.agg #[.int .i64 ea, .int .i64 ez]) rfl ?_ rfl
            clear hb hdep hdap hold
            go_simp
          · intro x w1 bA hbel hdep hdap hold hb
            refine ⟨fun _ => ?_, fun h => absurd h (by decide)⟩
            have e64 : bA.tmps[64]?.getD undef = .map (some g) := (hb 64).trans (hdep 2 (by decide))
            have e65 : bA.tmps[65]?.getD undef = .agg #[.int .i64 ea, .int .i64 ez] := (hb 65).trans (hdep 3 (by decide))
            have cl := (HM.out.below hbel).look HRK.out
            refine phf_run (.agg #[.int .i64 (hiS done (ea, ez)), .int .i64 (loS done (ea, ez))]) rfl ?_ rfl
            clear hb hdep hdap hold
            go_simp
          · intro x w1 bA hbel hdep hdap hold hb
            refine ⟨fun _ => ?_, fun h => absurd h (by decide)⟩
            have e7 : bA.tmps[7]?.getD undef = .pointer (some ⟨Bs, 0, none⟩) := hb 7
            refine phf_run (.pointer (some ⟨Bs, 2, none⟩)) rfl ?_ rfl
            clear hb hdep hdap hold
            go_simp
          · intro x w1 bA hbel hdep hdap hold hb
            refine ⟨fun _ => ?_, fun h => absurd h (by decide)⟩
            have e67 : bA.tmps[67]?.getD undef = .pointer (some ⟨Bs, 2, none⟩) := (hb 67).trans (hdep 5 (by decide))
            have ct := (QS.out.below hbel QS.out.lt).cell 2
            refine phf_run (.int .i64 sc) rfl ?_ rfl
            clear hb hdep hdap hold
            go_simp
          · intro x w1 bA hbel hdep hdap hold hb
            refine ⟨fun _ => ?_, fun h => absurd h (by decide)⟩
            have e9 : bA.tmps[9]?.getD undef = .pointer (some ⟨Bt, 0, none⟩) := hb 9
            refine phf_run (.pointer (some ⟨Bt, 2, none⟩)) rfl ?_ rfl
            clear hb hdep hdap hold
            go_simp
          · intro x w1 bA hbel hdep hdap hold hb
            refine ⟨fun _ => ?_, fun h => absurd h (by decide)⟩
            have e69 : bA.tmps[69]?.getD undef = .pointer (some ⟨Bt, 2, none⟩) := (hb 69).trans (hdep 7 (by decide))
            have ct := (QT.out.below hbel QT.out.lt).cell 2
            refine phf_run (.int .i64 tc_) rfl ?_ rfl
            clear hb hdep hdap hold
            go_simp
          · intro x w1 bA hbel hdep hdap hold hb
            refine ⟨fun _ => ?_, fun h => absurd h (by decide)⟩
            have e68 : bA.tmps[68]?.getD undef = .int .i64 sc := (hb 68).trans (hdep 6 (by decide))
            have e70 : bA.tmps[70]?.getD undef = .int .i64 tc_ := (hb 70).trans (hdep 8 (by decide))
            have cw := HBC.out
            refine phf_run (.int .i64 bc) rfl ?_ rfl
            clear hb hdep hdap hold
            go_simp
          · intro x w1 bA hbel hdep hdap hold hb
            refine ⟨fun _ => ?_, fun h => absurd h (by decide)⟩
            have e66 : bA.tmps[66]?.getD undef = .agg #[.int .i64 (hiS done (ea, ez)), .int .i64 (loS done (ea, ez))] := (hb 66).trans (hdep 4 (by decide))
            have e71 : bA.tmps[71]?.getD undef = .int .i64 bc := (hb 71).trans (hdep 9 (by decide))
            refine phf_call ?_ ((splus_any _ _ bc w1 HHB.out.1 HHB.out.2.1 HHB.out.2.2).mono fun e w' h => ⟨_, h.1, h.2, rfl, fun e => Bool.noConfusion e⟩)
            clear hb hdep hdap hold
            go_simp
          · intro x w1 bA hbel hdep hdap hold hb
            refine ⟨fun h => absurd h (by decide), fun _ hall => ?_⟩
            have e62 : bA.tmps[62]?.getD undef = .map (some g) := (hb 62).trans (hdep 0 (by decide))
            have e63 : bA.tmps[63]?.getD undef = .agg #[.int .i64 ea, .int .i64 ez] := (hb 63).trans (hdep 1 (by decide))
            have e72 : bA.tmps[72]?.getD undef = .agg #[.int .i64 (hiS done (ea, ez) + bc / 33554432), .int .i64 (loS done (ea, ez) + bc % 33554432)] := (hb 72).trans (hdep 10 (by decide))
            clear hb hdep hdap hold
            have hs1 := HM.out.below hbel
            obtain ⟨W2, hrun, hm2, ho2⟩ := hs1.store (c := bc) HRK.out HLN.out
            have HM2 := Lib.hid hm2
            have HO2 := Lib.hid (((Oth.refl1 base g w7).grow hbel HBS.out).trans1 (ho2 base HBG.out (Nat.le_trans HBS.out hbel.size)))
            clear hs1 hbel hm2 ho2
            refine phl_store (R := fun W => MapB g (done ++ [((ea, ez), bc)]) W ∧ Oth base [g] none w7 W) W2 ?_ rfl ⟨HM2.out, HO2.out⟩
            go_simp
          intro x w1' hR
          simp only [putAll, dstOf, Act.put, List.map_cons, List.map_nil, List.setIfInBounds_toArray, List.set_cons_succ, List.set_cons_zero, Nat.reduceAdd]
          have HF := Lib.hid (show MapB g (mulT (p.take i) q ++ (q.take (j + 1)).map (fun t => (kadd (sa, sz) t.1, sc * t.2))) w1' ∧ Arr w1' w.heap.size 29 [.bool false, .slice (some ⟨b, o', none⟩) p.length c] ∧ Arr w1' (w.heap.size + 1) 29 [.bool false, .slice (some ⟨b2, o2, none⟩) q.length c2] ∧ Arr w1' (w.heap.size + 2) 29 [.bool false, .slice none 0 0] ∧ Arr w1' wo.heap.size 49 [.int .i64 sa, .int .i64 sz, .int .i64 sc] ∧ Below w.heap.size w w1' from
            ⟨HNX.out _ hR.1, hR.2.at_ Q0.out HGN.out.1, hR.2.at_ Q1.out HGN.out.2.1, hR.2.at_ QR.out HGN.out.2.2.1, by have := hR.2.at_ QS.out (by rw [HBB.out]; exact HGN.out.2.2.2); rwa [HBB.out] at this, by have := hR.2.below; rw [HBE.out] at this; exact HO7.out.trans this⟩)
          clear hR
          have hbe := HBB.out
          subst hbe
          clear HBB
          go_wp2_with fail
          go_roundg (q.length - (j + 1))
          case measure => omega
          case rel => exact ⟨j + 1, by omega, rfl, by go_num, HF⟩
        · have z2 : ¬ (j : Int) < (q.length : Int) := by omega
          have HF := Lib.hid (show MapB g (mulT (p.take (i + 1)) q) wr ∧ Arr wr w.heap.size 29 [.bool false, .slice (some ⟨b, o', none⟩) p.length c] ∧ Arr wr (w.heap.size + 1) 29 [.bool false, .slice A2 q.length c2] ∧ Arr wr (w.heap.size + 2) 29 [.bool false, .slice none 0 0] ∧ Below w.heap.size w wr from by
            have := HR.out
            rw [List.take_of_length_le (by omega : q.length ≤ j), ← HMT.out] at this
            exact ⟨this.1, this.2.1, this.2.2.1, this.2.2.2.1, this.2.2.2.2.2⟩)
          clear HR
          go_wp2_with fail
          go_roundg (p.length - (i + 1))
          case measure => omega
          case rel => exact ⟨i + 1, by omega, rfl, by go_num, HF⟩
    · have z1 : ¬ (i : Int) < (p.length : Int) := by omega
      have HF := Lib.hid (show MapB g (mulT p q) wr ∧ Arr wr (w.heap.size + 2) 29 [.bool false, .slice none 0 0] ∧ Below w.heap.size w wr from by
        have := HR.out
        rw [List.take_of_length_le (by omega)] at this
        exact ⟨this.1, this.2.2.2.1, this.2.2.2.2⟩)
      have HGA := Lib.hid (gather_any g (mulT p q) wr HF.out.1 (fun t ht => by
        unfold mulT at ht
        obtain ⟨s, hs, ht⟩ := List.mem_flatMap.1 ht
        obtain ⟨u, hu, rfl⟩ := List.mem_map.1 ht
        have := HPB.out s hs u hu
        simp only
        omega) (fun t ht => by
        unfold mulT at ht
        obtain ⟨s, hs, ht⟩ := List.mem_flatMap.1 ht
        obtain ⟨u, hu, rfl⟩ := List.mem_map.1 ht
        have := HLM.out.1.ea s hs
        have := HLM.out.1.ez s hs
        have := HLM.out.2.ea u hu
        have := HLM.out.2.ez u hu
        unfold kadd rkB
        simp only
        omega) (by rw [mulT_len]; exact HLEN.out))
      clear HR
      go_wp2_with fail
      refine HGA.out.mono ?_
      rintro e w7 ⟨v, r, rfl, hv, hr, hb7⟩
      have q7 := HF.out.2.1.below hb7 HF.out.2.1.lt
      have hb7' := HF.out.2.2.trans (hb7.mono HF.out.2.2.size)
      have HV := Lib.hid (fun u1 u2 => hv.box q7 u1 u2)
      have HRR := Lib.hid hr
      obtain ⟨b5, A5, n5, c5, rfl, j5, j6⟩ := hv.parts
      clear j5 j6 hv hr HGA hb7
      have x0 := q7.cell 0
      have x1 := q7.cell 1
      have f0 := q7.frozen 0
      have f1 := q7.frozen 1
      have hres := Lib.hid ((q7.set 0 (.bool b5)).set 1 (.slice A5 n5 c5))
      go_wp2_with fail
      refine bodyPost_ret (v := .agg #[.bool b5, .slice A5 n5 c5]) (results_c Tryz.results14 _ _ (w.heap.size + 2) 29 _ _ rfl hres.out Tryz.underlying29 rfl info_polyB) rfl ?_
      exact ⟨_, r, rfl, HV.out _ _, HRR.out, (hb7'.setCell (p := ⟨w.heap.size + 2, 0, none⟩) (by simp) _).setCell (p := ⟨w.heap.size + 2, 1, none⟩) (by simp) _⟩
end Go.Proofs.YtnmidhlghhephaaGreatDoor

namespace Go.Proofs.YtnmidhlghhephaaGreatDoor
open Go.RowKit Go.Maps
set_option linter.unusedVariables false
set_option maxHeartbeats 2000000 in
set_option maxRecDepth 100000 in
theorem bmul_zero (A A2 : Option Addr) (n c n2 c2 : Nat) (w : World) (h : n = 0 ∨ n2 = 0) :
    Calls Tryz.prog 14 #[.agg #[.bool false, .slice A n c], .agg #[.bool false, .slice A2 n2 c2]] w fun e w' => e = .returned (.agg #[.bool false, .slice none 0 0]) ∧ Below w.heap.size w w' := by
  have hW : ∀ W, W = (((w.alloc (.cells #[.bool false, .slice A n c] 29)).alloc (.cells #[.bool false, .slice A2 n2 c2] 29)).alloc (.cells #[.bool false, .slice none 0 0] 29)) → Arr W w.heap.size 29 [.bool false, .slice A n c] ∧ Arr W (w.heap.size + 1) 29 [.bool false, .slice A2 n2 c2] ∧ Arr W (w.heap.size + 2) 29 [.bool false, .slice none 0 0] ∧ Below w.heap.size w W ∧ W.heap.size = w.heap.size + 3 := by
    intro W hW
    subst hW
    exact ⟨((Arr.new _ _ [_, _]).alloc _).alloc _, (Arr.newAt (w.alloc _) _ [_, _] _ (by simp)).alloc _, Arr.newAt ((w.alloc _).alloc _) _ [_, _] _ (by simp), (((Below.refl _ _).alloc (Nat.le_refl _) _).alloc (by simp) _).alloc (by simp <;> omega) _, by simp⟩
  go_enter Tryz.func14, Tryz.ntmps14
  go_upto_region 1 with fail
  generalize (((w.alloc (.cells #[.bool false, .slice A n c] 29)).alloc (.cells #[.bool false, .slice A2 n2 c2] 29)).alloc (.cells #[.bool false, .slice none 0 0] 29)) = w3 at hW ⊢
  obtain ⟨q0, q1, q2, hb3, hs3⟩ := hW w3 rfl
  have HR := Lib.hid (show Arr ((w3.setCell ⟨w.heap.size + 2, 0, none⟩ (.bool false)).setCell ⟨w.heap.size + 2, 1, none⟩ (.slice none 0 0)) (w.heap.size + 2) 29 [.bool false, .slice none 0 0] ∧ Below w.heap.size w ((w3.setCell ⟨w.heap.size + 2, 0, none⟩ (.bool false)).setCell ⟨w.heap.size + 2, 1, none⟩ (.slice none 0 0)) from
    ⟨(q2.set 0 (.bool false)).set 1 (.slice none 0 0), (hb3.setCell (p := ⟨w.heap.size + 2, 0, none⟩) (by simp) _).setCell (p := ⟨w.heap.size + 2, 1, none⟩) (by simp) _⟩)
  have y0 := q0.cell 0
  have y1 := q0.cell 1
  have y2 := q1.cell 0
  have y3 := q1.cell 1
  have x0 := q2.cell 0
  have x1 := q2.cell 1
  have f0 := q2.frozen 0
  have f1 := q2.frozen 1
  clear hW q0 q1 q2 hb3 hs3
  by_cases h1 : n = 0
  · have z1 : ((n : Int) == 0) = true := by simp [h1]
    clear h h1
    go_wp2_with fail
    refine bodyPost_ret (v := .agg #[.bool false, .slice none 0 0]) (results_c Tryz.results14 _ _ (w.heap.size + 2) 29 _ _ rfl HR.out.1 Tryz.underlying29 rfl info_polyB) rfl ?_
    exact ⟨rfl, HR.out.2⟩
  · have h2 : n2 = 0 := by rcases h with h | h; exact absurd h h1; exact h
    have z1 : ((n : Int) == 0) = false := by simp; omega
    have z2 : ((n2 : Int) == 0) = true := by simp [h2]
    clear h h1 h2
    go_wp2_with fail
    refine bodyPost_ret (v := .agg #[.bool false, .slice none 0 0]) (results_c Tryz.results14 _ _ (w.heap.size + 2) 29 _ _ rfl HR.out.1 Tryz.underlying29 rfl info_polyB) rfl ?_
    exact ⟨rfl, HR.out.2⟩
/-- a list of terms within bounds -/
structure Bd2 (S N : Nat) (L : List T2) : Prop where
  su : asum2 L ≤ S
  eb : Ebd N L
  ln : L.length ≤ 1000000
theorem Bd2.nil (S N : Nat) : Bd2 S N [] := ⟨Nat.zero_le _, Ebd.nil N, Nat.zero_le _⟩
theorem Bd2.mono {S S' N N' : Nat} {L : List T2} (h : Bd2 S N L) (h1 : S ≤ S') (h2 : N ≤ N') : Bd2 S' N' L := ⟨Nat.le_trans h.su h1, h.eb.mono h2, h.ln⟩
/-- the value v is the polynomial that the terms L sum up to -/
def PL (w : World) (v : Value) (L : List T2) : Prop := ∃ l, PolyB w v (some l) ∧ Can2 l ∧ Lim2 l ∧ ∀ e, cg2 l e = cg2 L e
theorem PL.below {w w' : World} {v : Value} {L : List T2} (h : PL w v L) (hb : Below w.heap.size w w') : PL w' v L := by
  obtain ⟨l, h1, h2⟩ := h
  exact ⟨l, h1.below hb, h2⟩
theorem PL.congr {w : World} {v : Value} {L M : List T2} (h : PL w v L) (he : ∀ e, cg2 L e = cg2 M e) : PL w v M := by
  obtain ⟨l, h1, h2, h3, h4⟩ := h
  exact ⟨l, h1, h2, h3, fun e => (h4 e).trans (he e)⟩
theorem PL.form {w : World} {v : Value} {L : List T2} (h : PL w v L) : ∃ A n c, v = .agg #[.bool false, .slice A n c] := by
  obtain ⟨l, h1, _⟩ := h
  obtain ⟨b, A, n, c, rfl, j, _⟩ := h1.parts
  exact ⟨A, n, c, by rw [j]; rfl⟩
theorem keys_len {l L : List T2} (k : Can2 l) (h : ∀ e, cg2 l e = cg2 L e) : l.length ≤ L.length := by
  have hs : ∀ x ∈ l.map (·.1), x ∈ L.map (·.1) := fun x hx => by
    obtain ⟨t, ht, rfl⟩ := List.mem_map.1 hx
    obtain ⟨s, hs, e⟩ := cg2_ne (l := L) (e := t.1) (by rw [← h]; exact k.ne ht)
    exact List.mem_map.2 ⟨s, hs, e⟩
  have hn : (l.map (·.1)).Nodup := by
    rw [List.nodup_iff_pairwise_ne, List.pairwise_map]
    exact k.srt.nodup
  have := List.Nodup.length_le_of_subset hn hs
  simpa using this
theorem can_bd {l L : List T2} {S N : Nat} (k : Can2 l) (h : ∀ e, cg2 l e = cg2 L e) (hb : Bd2 S N L) : asum2 l ≤ S ∧ Ebd N l ∧ l.length ≤ 1000000 := by
  refine ⟨Nat.le_trans (k.asum h) hb.su, fun t ht => ?_, Nat.le_trans (keys_len k h) hb.ln⟩
  obtain ⟨s, hs, e⟩ := cg2_ne (l := L) (e := t.1) (by rw [← h]; exact k.ne ht)
  have := hb.eb s hs
  rw [e] at this
  exact this
/-- no coefficient is out of bounds -/
theorem gth_fits {L : List T2} {F : K2 → Int} {r : PolB} {S N : Nat} (h : GthP F r) (hF : ∀ e, F e = cg2 L e) (hb : Bd2 S N L) (hS : S ≤ 1125899906842624) (hN : N ≤ 1048576) : ∃ l, r = some l ∧ Can2 l ∧ Lim2 l ∧ ∀ e, cg2 l e = cg2 L e := by
  rcases h with ⟨l, rfl, h1, h2, h3⟩ | ⟨_, e, h1, h2⟩
  · exact ⟨l, rfl, h1, h2, fun e => (h3 e).trans (hF e)⟩
  · exfalso
    rw [hF] at h1 h2
    obtain ⟨s, hs, he⟩ := cg2_ne h1
    have h3 := hb.eb s hs
    rw [he] at h3
    have h4 := cg2_asum L e
    have h5 := hb.su
    exact h2 ⟨⟨by omega, by omega⟩, ⟨by omega, by omega⟩, by omega, by omega⟩
def PLR (L : List T2) (w : World) (e : Ending) (w' : World) : Prop := ∃ v, e = .returned v ∧ Below w.heap.size w w' ∧ PL w' v L
theorem MulPL {S S2 N N2 : Nat} (vp vq : Value) (L M : List T2) (w : World) (hp : PL w vp L) (hq : PL w vq M) (bp : Bd2 S N L) (bq : Bd2 S2 N2 M) (hS : S * S2 ≤ 1125899906842624) (hN : N + N2 ≤ 1048576) (hl : L.length * M.length ≤ 1000000) :
    Calls Tryz.prog 14 #[vp, vq] w (PLR (mulT L M) w) := by
  obtain ⟨l, h1, h2, h3, h4⟩ := hp
  obtain ⟨m, k1, k2, k3, k4⟩ := hq
  have hLM : ∀ e, cg2 (mulT l m) e = cg2 (mulT L M) e := fun e => (mulT_congr_left h4 m e).trans (mulT_congr_right k4 L e)
  obtain ⟨a1, a2, a3⟩ := can_bd h2 h4 bp
  obtain ⟨c1, c2, c3⟩ := can_bd k2 k4 bq
  have hln : l.length * m.length ≤ 1000000 := Nat.le_trans (Nat.mul_le_mul (keys_len h2 h4) (keys_len k2 k4)) hl
  by_cases h0 : l.length = 0 ∨ m.length = 0
  · obtain ⟨b, A, n, c, rfl, j1, j2⟩ := h1.parts
    obtain ⟨b2, A2, n2, c2, rfl, j3, j4⟩ := k1.parts
    simp only [Option.isNone_some, Option.getD_some] at j1 j2 j3 j4
    subst j1 j3
    refine (bmul_zero A A2 n c n2 c2 w (by rcases h0 with h | h; exact .inl (j2.trans h); exact .inr (j4.trans h))).mono ?_
    rintro e w' ⟨rfl, hb⟩
    refine ⟨_, rfl, hb, [], PolyB.zero _, Can2.nil, Lim2.nil, fun e => ?_⟩
    rw [← hLM]
    rcases h0 with h | h
    · rw [List.eq_nil_of_length_eq_zero h, mulT_nil]
    · rw [List.eq_nil_of_length_eq_zero h, mulT_nil_right]
  · have hh : hgtB l * hgtB m ≤ 1125899906842624 := by
      have e1 := hgt_asum l
      have e2 := hgt_asum m
      have e3 := hgt_nn l
      have e4 := hgt_nn m
      have e5 : hgtB l * hgtB m ≤ (S : Int) * (S2 : Int) := Int.mul_le_mul (by omega) (by omega) e4 (by omega)
      have e6 : (S : Int) * (S2 : Int) ≤ 1125899906842624 := by rw [← Int.natCast_mul]; omega
      omega
    refine (Mul_core vp vq l m w h1 k1 h3 h2 k3 k2 (by omega) (by omega) a3 c3 hln hh).mono ?_
    rintro e w' ⟨v, r, rfl, hv, hr, hb⟩
    obtain ⟨r', rfl, r1, r2, r3⟩ := gth_fits (L := mulT L M) (S := S * S2) (N := N + N2) hr hLM ⟨by rw [asum2_mulT]; exact Nat.mul_le_mul bp.su bq.su, bp.eb.mul bq.eb, by rw [mulT_len]; exact hl⟩ hS hN
    exact ⟨v, rfl, hb, r', hv, r1, r2, r3⟩
theorem PL.zero (w : World) : PL w (.agg #[.bool false, .slice none 0 0]) [] := ⟨[], PolyB.zero w, Can2.nil, Lim2.nil, fun e => rfl⟩
end Go.Proofs.YtnmidhlghhephaaGreatDoor

namespace Go.Proofs.YtnmidhlghhephaaGreatDoor
open Go.RowKit Go.Maps
set_option linter.unusedVariables false
/-- r is the sum of the terms, one after the other (big if a partial sum is) -/
inductive OfB : List T2 → PolB → Prop
  | nil : OfB [] (some [])
  | snoc {l : List T2} {p r : PolB} {t : T2} : OfB l p → CombB (fun x y => x + 1 * y) p (trmB t.2 t.1.1 t.1.2) r → OfB (l ++ [t]) r
theorem trm_ok (c a z : Int) : okB2 (trmB c a z) := by
  unfold trmB
  split
  · exact ⟨Can2.nil, Lim2.nil⟩
  · next h0 =>
    split
    · next h =>
      have h1 := of_decide_eq_true h.1
      have h2 := of_decide_eq_true h.2.1
      have h3 := of_decide_eq_true h.2.2
      refine ⟨⟨List.pairwise_singleton _ _, fun t ht => by rw [List.mem_singleton.1 ht]; exact h0⟩, ⟨fun t ht => ?_, fun t ht => ?_, fun t ht => ?_⟩⟩ <;> rw [List.mem_singleton.1 ht] <;> simp only <;> omega
    · trivial
theorem trm_cg {c a z : Int} {l : List T2} (h : trmB c a z = some l) (e : K2) : cg2 l e = cg2 [((a, z), c)] e := by
  unfold trmB at h
  split at h
  · next h0 =>
    injection h with h
    subst h
    rw [cg2_one, h0]
    simp [cg2]
  · split at h
    · injection h with h
      subst h
      rfl
    · cases h
theorem trm_len (c a z : Int) : lenB (trmB c a z) ≤ 1 := by
  unfold trmB lenB
  split
  · simp
  · split <;> simp
theorem GthP.ok {F : K2 → Int} {r : PolB} (h : GthP F r) : okB2 r := by
  rcases h with ⟨l, rfl, h1, h2, _⟩ | ⟨rfl, _⟩
  · exact ⟨h1, h2⟩
  · trivial
theorem CombB.some_inv {f : Int → Int → Int} {p q : PolB} {l : List T2} (h : CombB f p q (some l)) : ∃ lp lq, p = some lp ∧ q = some lq ∧ ∀ e, cg2 l e = f (cg2 lp e) (cg2 lq e) := by
  cases p with
  | none => cases h
  | some lp =>
    cases q with
    | none => cases h
    | some lq =>
      rcases h with ⟨l', e, _, _, h3⟩ | ⟨e, _⟩
      · injection e with e
        subst e
        exact ⟨lp, lq, rfl, rfl, h3⟩
      · cases e
theorem CombB.ok {f : Int → Int → Int} {p q r : PolB} (h : CombB f p q r) : okB2 r := by
  cases p with
  | none => cases h; trivial
  | some lp =>
    cases q with
    | none => cases h; trivial
    | some lq => exact GthP.ok h
theorem OfB.ok {l : List T2} {r : PolB} (h : OfB l r) : okB2 r := by
  cases h with
  | nil => exact ⟨Can2.nil, Lim2.nil⟩
  | snoc _ h => exact h.ok
theorem OfB.cg {l : List T2} {r : PolB} (h : OfB l r) : ∀ m, r = some m → ∀ e, cg2 m e = cg2 l e := by
  induction h with
  | nil => intro m hm e; injection hm with hm; subst hm; rfl
  | snoc h1 h2 ih =>
    intro m hm e
    subst hm
    obtain ⟨lp, lq, rfl, hq, h3⟩ := h2.some_inv
    rw [h3, ih lp rfl, trm_cg hq, cg2_append, Int.one_mul]
theorem OfB.len {l : List T2} {r : PolB} (h : OfB l r) : lenB r ≤ l.length := by
  cases r with
  | none => unfold lenB; simp
  | some m =>
    have h1 := h.ok
    exact keys_len h1.1 (h.cg m rfl)
/-- within bounds it is not big -/
theorem OfB.fits {S N : Nat} {l : List T2} {r : PolB} (h : OfB l r) (hb : Bd2 S N l) (hS : S ≤ 1125899906842624) (hN : N ≤ 1048576) : ∃ m, r = some m := by
  induction h with
  | nil => exact ⟨[], rfl⟩
  | @snoc l p r t h1 h2 ih =>
    have b1 : Bd2 S N l := ⟨by have := hb.su; rw [asum2_append] at this; omega, fun s hs => hb.eb s (List.mem_append_left _ hs), by have := hb.ln; simp at this; omega⟩
    obtain ⟨m, rfl⟩ := ih b1
    have b2 := hb.eb t (by simp)
    have b3 := hb.su
    rw [asum2_append, asum2, asum2] at b3
    have ht : ∃ q, trmB t.2 t.1.1 t.1.2 = some q := by
      unfold trmB
      by_cases h0 : t.2 = 0
      · exact ⟨[], if_pos h0⟩
      · exact ⟨_, by rw [if_neg h0, if_pos ⟨decide_eq_true (by omega), decide_eq_true (by omega), decide_eq_true (by omega)⟩]⟩
    obtain ⟨q, hq⟩ := ht
    rw [hq] at h2
    obtain ⟨l', h3, _⟩ := gth_fits (L := l ++ [t]) (S := S) (N := N) h2 (fun e => by simp only; rw [h1.cg m rfl, trm_cg hq, cg2_append, Int.one_mul]) hb hS hN
    exact ⟨l', h3⟩
theorem OfB.pl {S N : Nat} {l : List T2} {r : PolB} (h : OfB l r) (hb : Bd2 S N l) (hS : S ≤ 1125899906842624) (hN : N ≤ 1048576) {w : World} {v : Value} (hv : PolyB w v r) : PL w v l := by
  obtain ⟨m, rfl⟩ := h.fits hb hS hN
  have := h.ok
  exact ⟨m, hv, this.1, this.2, h.cg m rfl⟩
theorem SlA.tat3 {w : World} {A : Option Addr} {n c k : Nat} {l : List T2} (h : SlA tB w (.slice A n c) l) (hk : k < l.length) : ∃ b o, A = some ⟨b, o, none⟩ ∧ n = l.length ∧ w.cell? ⟨b, o + k * 3, none⟩ = some (.int .i64 l[k].1.1) ∧ w.cell? ⟨b, o + k * 3 + 1, none⟩ = some (.int .i64 l[k].1.2) ∧ w.cell? ⟨b, o + k * 3 + 2, none⟩ = some (.int .i64 l[k].2) := by
  obtain ⟨A', c', hv, _, hx⟩ := h
  injection hv with e1 e2 e3
  subst e1
  have key : ∀ j, j < 3 → ∀ u, (tB l[k])[j]? = some u → ∃ b o, A = some ⟨b, o, none⟩ ∧ w.cell? ⟨b, o + (k * 3 + j), none⟩ = some u := fun j hj u hu => hx (k * 3 + j) u (by rw [tBflat_get l k j hk hj]; exact hu)
  obtain ⟨b, o, hA, h0⟩ := key 0 (by omega) _ rfl
  obtain ⟨b1, o1, hA1, h1⟩ := key 1 (by omega) _ rfl
  obtain ⟨b2, o2, hA2, h2⟩ := key 2 (by omega) _ rfl
  rw [hA] at hA1 hA2
  injection hA1 with hA1
  injection hA1 with e4 e5
  injection hA2 with hA2
  injection hA2 with e6 e7
  subst e4 e5 e6 e7
  exact ⟨b, o, hA, e2, h0, h1, h2⟩
def I64T (l : List T2) : Prop := ∀ t ∈ l, (-9223372036854775808 ≤ t.2 ∧ t.2 ≤ 9223372036854775807) ∧ (-9223372036854775808 ≤ t.1.1 ∧ t.1.1 ≤ 9223372036854775807) ∧ (-9223372036854775808 ≤ t.1.2 ∧ t.1.2 ≤ 9223372036854775807)
def OfR (l : List T2) (w : World) (e : Ending) (w' : World) : Prop := ∃ v r, e = .returned v ∧ PolyB w' v r ∧ OfB l r ∧ Below w.heap.size w w'
set_option maxHeartbeats 4000000 in
set_option maxRecDepth 100000 in
theorem of_any (vl : Value) (l : List T2) (w : World) (hl : SlA tB w vl l) (h64 : I64T l) (hlen : l.length ≤ 100000) :
    Calls Tryz.prog 6 #[vl] w (OfR l w) := by
  have HL := Lib.hid (fun W (hb : Below w.heap.size w W) => hl.below hb)
  obtain ⟨A, c, rfl, _⟩ := hl
  have H64 := Lib.hid h64
  have hW : ∀ W, W = (w.alloc (.cells #[.bool false, .slice none 0 0] 29)).alloc (.cells #[.bool false, .slice none 0 0] 29) → Arr W w.heap.size 29 [.bool false, .slice none 0 0] ∧ Arr W (w.heap.size + 1) 29 [.bool false, .slice none 0 0] ∧ Below w.heap.size w W := by
    intro W hW
    subst hW
    exact ⟨(Arr.new _ _ [_, _]).alloc _, Arr.newAt (w.alloc _) _ [_, _] _ (by simp), ((Below.refl _ _).alloc (Nat.le_refl _) _).alloc (by simp) _⟩
  clear h64
  go_enter Tryz.func6, Tryz.ntmps6
  go_upto_region 2 with fail
  generalize (w.alloc (.cells #[.bool false, .slice none 0 0] 29)).alloc (.cells #[.bool false, .slice none 0 0] 29) = w3 at hW ⊢
  obtain ⟨q0, q1, hb3⟩ := hW w3 rfl
  clear hW
  have HST := Lib.hid (show Arr w3 w.heap.size 29 [.bool false, .slice none 0 0] ∧ Below w.heap.size w w3 ∧ ∃ (b : Bool) (A : Option Addr) (n c : Nat) (r : PolB), Arr w3 (w.heap.size + 1) 29 [.bool b, .slice A n c] ∧ PolyB w3 (.agg #[.bool b, .slice A n c]) r ∧ OfB (l.take 0) r from ⟨q0, hb3, false, none, 0, 0, some [], q1, PolyB.zero _, OfB.nil⟩)
  clear q0 q1 hb3
  go_wp2_with fail
  go_loopg [8] l.length (fun gk s8 wr => ∃ (i : Nat), i ≤ l.length ∧ gk = l.length - i ∧ s8 = .int .i64 (i : Int) ∧ Hid (Arr wr w.heap.size 29 [.bool false, .slice none 0 0] ∧ Below w.heap.size w wr ∧ ∃ (b : Bool) (A : Option Addr) (n c : Nat) (r : PolB), Arr wr (w.heap.size + 1) 29 [.bool b, .slice A n c] ∧ PolyB wr (.agg #[.bool b, .slice A n c]) r ∧ OfB (l.take i) r))
  case atStart => exact ⟨0, Nat.zero_le _, rfl, rfl, HST⟩
  case round =>
    clear HST
    obtain ⟨i, hi, rfl, rfl, HR⟩ := hrel
    obtain ⟨q0, hbr, bp, Ap, np, cp, R, q1, hpv, hof⟩ := HR.out
    by_cases hlt : i < l.length
    · have z1 : (i : Int) < (l.length : Int) := by omega
      obtain ⟨b, o', rfl, _, hc0, hc1, hc2⟩ := (HL.out wr hbr).tat3 hlt
      have HBC := Lib.hid (H64.out _ (List.getElem_mem hlt))
      have HNX := Lib.hid (show ∀ r, CombB (fun x y => x + 1 * y) R (trmB l[i].2 l[i].1.1 l[i].1.2) r → OfB (l.take (i + 1)) r from fun r h => by rw [take_snocB hlt]; exact OfB.snoc hof h)
      have HOK := Lib.hid (show okB2 R ∧ lenB R + lenB (trmB l[i].2 l[i].1.1 l[i].1.2) ≤ 1000000 from ⟨hof.ok, by have h1 := hof.len; have h2 := trm_len l[i].2 l[i].1.1 l[i].1.2; rw [List.length_take] at h1; omega⟩)
      generalize l[i].1.1 = ea at *
      generalize l[i].1.2 = ez at *
      generalize l[i].2 = cc at *
      have hWt : ∀ W, W = wr.alloc (.cells #[.int .i64 ea, .int .i64 ez, .int .i64 cc] 26) → Arr W wr.heap.size 26 [.int .i64 ea, .int .i64 ez, .int .i64 cc] ∧ Below wr.heap.size wr W := by
        intro W hW
        subst hW
        exact ⟨Arr.new _ _ [_, _, _], (Below.refl _ _).alloc (Nat.le_refl _) _⟩
      go_upto_region 5 with fail
      generalize wr.alloc (.cells #[.int .i64 ea, .int .i64 ez, .int .i64 cc] 26) = w5 at hWt ⊢
      obtain ⟨qt, hb5⟩ := hWt w5 rfl
      have QT := Lib.hid qt
      have QP := Lib.hid (q1.below hb5 q1.lt)
      have Q0 := Lib.hid (q0.below hb5 q0.lt)
      have HPV := Lib.hid (hpv.below hb5)
      have HB5 := Lib.hid (hbr.trans (hb5.mono hbr.size))
      obtain ⟨Bt, hBt⟩ : ∃ B, B = wr.heap.size := ⟨_, rfl⟩
      rw [← hBt] at QT ⊢
      clear hc0 hc1 hc2 qt hb5 HR hWt hBt q0 q1 hbr hpv hof
      refine wp_region_phis 9 (by kernel_rfl) (by kernel_rfl) (by kernel_rfl) (by kernel_rfl) (by kernel_rfl) rfl (by kernel_rfl) (phiT (fun i => ([some (.agg #[.bool bp, .slice Ap np cp]), some (.pointer (some ⟨Bt, 2, none⟩)), some (.int .i64 cc), some (.pointer (some ⟨Bt, 0, none⟩)), some (.int .i64 ea), some (.pointer (some ⟨Bt, 1, none⟩)), some (.int .i64 ez), none, none, some (undef)] : List (Option Value)).getD i none) (fun i v w => (if i = 7 then (fun v w => PolyB w v (trmB cc ea ez)) v w else (if i = 8 then (fun v w => ∃ r, PolyB w v r ∧ CombB (fun x y => x + 1 * y) R (trmB cc ea ez) r) v w else True)))) (fun i v w w' h hb => ?_) (fun i => false) (fun i v w hi h k hk => ?_) (fun _ W => ∃ (b : Bool) (A : Option Addr) (n c : Nat) (r : PolB), Arr W (w.heap.size + 1) 29 [.bool b, .slice A n c] ∧ PolyB W (.agg #[.bool b, .slice A n c]) r ∧ CombB (fun x y => x + 1 * y) R (trmB cc ea ez) r ∧ Below (w.heap.size + 1) w5 W) ⟨?_, ?_, ?_, ?_, ?_, ?_, ?_, ?_, ?_, ?_, trivial⟩ ?_
      · unfold phiT at h ⊢
        split
        · next u hu => rw [hu] at h; exact h
        · next hu =>
          rw [hu] at h
          simp only at h ⊢
          by_cases q7 : i = 7
          · rw [if_pos q7] at h ⊢; exact PolyB.below h hb
          · rw [if_neg q7] at h ⊢
            by_cases q8 : i = 8
            · rw [if_pos q8] at h ⊢; exact (by obtain ⟨r, h1, h2⟩ := h; exact ⟨r, h1.below hb, h2⟩)
            · rw [if_neg q8] at h ⊢
              trivial
      · simp only [Bool.or_eq_true, decide_eq_true_eq, Bool.false_eq_true] at hi
      · intro x w1 bA hbel hdep hdap hold hb
        refine ⟨fun _ => ?_, fun h => absurd h (by decide)⟩
        have e3 : bA.tmps[3]?.getD undef = .pointer (some ⟨w.heap.size + 1, 0, none⟩) := hb 3
        have cp0 := (QP.out.below hbel QP.out.lt).cell 0
        have cp1 := (QP.out.below hbel QP.out.lt).cell 1
        refine phf_run (.agg #[.bool bp, .slice Ap np cp]) rfl ?_ rfl
        clear hb hdep hdap hold
        go_simp
      · intro x w1 bA hbel hdep hdap hold hb
        refine ⟨fun _ => ?_, fun h => absurd h (by decide)⟩
        have e5 : bA.tmps[5]?.getD undef = .pointer (some ⟨Bt, 0, none⟩) := hb 5
        refine phf_run (.pointer (some ⟨Bt, 2, none⟩)) rfl ?_ rfl
        clear hb hdep hdap hold
        go_simp
      · intro x w1 bA hbel hdep hdap hold hb
        refine ⟨fun _ => ?_, fun h => absurd h (by decide)⟩
        have e13 : bA.tmps[13]?.getD undef = .pointer (some ⟨Bt, 2, none⟩) := (hb 13).trans (hdep 1 (by decide))
        have ct := (QT.out.below hbel QT.out.lt).cell 2
        refine phf_run (.int .i64 cc) rfl ?_ rfl
        clear hb hdep hdap hold
        go_simp
      · intro x w1 bA hbel hdep hdap hold hb
        refine ⟨fun _ => ?_, fun h => absurd h (by decide)⟩
        have e5 : bA.tmps[5]?.getD undef = .pointer (some ⟨Bt, 0, none⟩) := hb 5
        refine phf_run (.pointer (some ⟨Bt, 0, none⟩)) rfl ?_ rfl
        clear hb hdep hdap hold
        go_simp
      · intro x w1 bA hbel hdep hdap hold hb
        refine ⟨fun _ => ?_, fun h => absurd h (by decide)⟩
        have e15 : bA.tmps[15]?.getD undef = .pointer (some ⟨Bt, 0, none⟩) := (hb 15).trans (hdep 3 (by decide))
        have ct := (QT.out.below hbel QT.out.lt).cell 0
        refine phf_run (.int .i64 ea) rfl ?_ rfl
        clear hb hdep hdap hold
        go_simp
      · intro x w1 bA hbel hdep hdap hold hb
        refine ⟨fun _ => ?_, fun h => absurd h (by decide)⟩
        have e5 : bA.tmps[5]?.getD undef = .pointer (some ⟨Bt, 0, none⟩) := hb 5
        refine phf_run (.pointer (some ⟨Bt, 1, none⟩)) rfl ?_ rfl
        clear hb hdep hdap hold
        go_simp
      · intro x w1 bA hbel hdep hdap hold hb
        refine ⟨fun _ => ?_, fun h => absurd h (by decide)⟩
        have e17 : bA.tmps[17]?.getD undef = .pointer (some ⟨Bt, 1, none⟩) := (hb 17).trans (hdep 5 (by decide))
        have ct := (QT.out.below hbel QT.out.lt).cell 1
        refine phf_run (.int .i64 ez) rfl ?_ rfl
        clear hb hdep hdap hold
        go_simp
      · intro x w1 bA hbel hdep hdap hold hb
        refine ⟨fun _ => ?_, fun h => absurd h (by decide)⟩
        have e14 : bA.tmps[14]?.getD undef = .int .i64 cc := (hb 14).trans (hdep 2 (by decide))
        have e16 : bA.tmps[16]?.getD undef = .int .i64 ea := (hb 16).trans (hdep 4 (by decide))
        have e18 : bA.tmps[18]?.getD undef = .int .i64 ez := (hb 18).trans (hdep 6 (by decide))
        refine phf_call ?_ ((bTerm_any cc ea ez w1 HBC.out.1 HBC.out.2.1 HBC.out.2.2).mono fun e w' h => (by obtain ⟨v, he, hv, hb'⟩ := h; exact ⟨v, he, hb', hv, fun e => Bool.noConfusion e⟩))
        clear hb hdep hdap hold
        go_simp
      · intro x w1 bA hbel hdep hdap hold hb
        refine ⟨fun _ => ?_, fun h => absurd h (by decide)⟩
        have e12 : bA.tmps[12]?.getD undef = .agg #[.bool bp, .slice Ap np cp] := (hb 12).trans (hdep 0 (by decide))
        have p19 := hdep 7 (by decide)
        have e19 : bA.tmps[19]?.getD undef = x 7 := hb 19
        generalize x 7 = x19 at *
        have P19 := Lib.hid (show (fun v w => PolyB w v (trmB cc ea ez)) x19 w1 from p19)
        clear p19
        refine phf_call ?_ ((bAdd_any (.agg #[.bool bp, .slice Ap np cp]) x19 R (trmB cc ea ez) w1 (HPV.out.below hbel) P19.out HOK.out.1 (trm_ok cc ea ez) HOK.out.2).mono fun e w' h => (by obtain ⟨v, r, he, hv, hr, hb'⟩ := h; exact ⟨v, he, hb', ⟨r, hv, hr⟩, fun e => Bool.noConfusion e⟩))
        clear hb hdep hdap hold
        go_simp
      · intro x w1 bA hbel hdep hdap hold hb
        refine ⟨fun h => absurd h (by decide), fun _ hall => ?_⟩
        have e3 : bA.tmps[3]?.getD undef = .pointer (some ⟨w.heap.size + 1, 0, none⟩) := hb 3
        have e20 : bA.tmps[20]?.getD undef = x 8 := hb 20
        have p19 := Lib.hid (show (fun v w => PolyB w v (trmB cc ea ez)) (x 7) w1 from hall 7 (by decide))
        have p20 := Lib.hid (show (fun v w => ∃ r, PolyB w v r ∧ CombB (fun x y => x + 1 * y) R (trmB cc ea ez) r) (x 8) w1 from hall 8 (by decide))
        clear hb hdep hdap hold
        obtain ⟨r, hv, hr⟩ := p20.out
        obtain ⟨bz, Az, nz, cz, e20b, _, _⟩ := hv.parts
        rw [e20b] at e20
        have HPW := Lib.hid (e20b ▸ hv)
        have HRR := Lib.hid hr
        have q5 := QP.out.below hbel QP.out.lt
        have Q5b := Lib.hid q5
        have f0 := q5.frozen 0
        have f1 := q5.frozen 1
        have c0 := q5.cell 0
        have c1 := q5.cell 1
        have HBL := Lib.hid hbel
        clear q5 e20b p20 p19 hv hr hbel
        refine phl_store (R := fun W => ∃ (b : Bool) (A : Option Addr) (n c : Nat) (r : PolB), Arr W (w.heap.size + 1) 29 [.bool b, .slice A n c] ∧ PolyB W (.agg #[.bool b, .slice A n c]) r ∧ CombB (fun x y => x + 1 * y) R (trmB cc ea ez) r ∧ Below (w.heap.size + 1) w5 W) ((w1.setCell ⟨w.heap.size + 1, 0, none⟩ (.bool bz)).setCell ⟨w.heap.size + 1, 1, none⟩ (.slice Az nz cz)) ?_ rfl ⟨bz, Az, nz, cz, r, (Q5b.out.set 0 _).set 1 _, HPW.out.box Q5b.out _ _, HRR.out, ((HBL.out.mono (Nat.le_of_lt QP.out.lt)).setCell (p := ⟨w.heap.size + 1, 0, none⟩) (Nat.le_refl _) _).setCell (p := ⟨w.heap.size + 1, 1, none⟩) (Nat.le_refl _) _⟩
        go_simp
      intro x w1 hR
      simp only [putAll, dstOf, Act.put, List.map_cons, List.map_nil, List.setIfInBounds_toArray, List.set_cons_succ, List.set_cons_zero, Nat.reduceAdd]
      have HF := Lib.hid (show Arr w1 w.heap.size 29 [.bool false, .slice none 0 0] ∧ Below w.heap.size w w1 ∧ ∃ (b : Bool) (A : Option Addr) (n c : Nat) (r : PolB), Arr w1 (w.heap.size + 1) 29 [.bool b, .slice A n c] ∧ PolyB w1 (.agg #[.bool b, .slice A n c]) r ∧ OfB (l.take (i + 1)) r from by
        obtain ⟨b, A, n, c, r, h1, h2, h3, h4⟩ := hR
        exact ⟨Q0.out.below h4 (Nat.lt_succ_self _), HB5.out.trans (h4.mono (Nat.le_succ _)), b, A, n, c, r, h1, h2, HNX.out r h3⟩)
      clear hR
      go_wp2_with fail
      go_roundg (l.length - (i + 1))
      case measure => omega
      case rel => exact ⟨i + 1, by omega, rfl, by go_num, HF⟩
    · have z1 : ¬ (i : Int) < (l.length : Int) := by omega
      have hkk : l.take i = l := List.take_of_length_le (by omega)
      rw [hkk] at hof
      have HOF := Lib.hid hof
      have x0 := q1.cell 0
      have x1 := q1.cell 1
      have r0 := q0.cell 0
      have r1 := q0.cell 1
      have f0 := q0.frozen 0
      have f1 := q0.frozen 1
      have hres := Lib.hid ((q0.set 0 (.bool bp)).set 1 (.slice Ap np cp))
      have HV := Lib.hid (hpv.box q0 (.bool bp) (.slice Ap np cp))
      have HBE := Lib.hid ((hbr.setCell (p := ⟨w.heap.size, 0, none⟩) (Nat.le_refl _) (.bool bp)).setCell (p := ⟨w.heap.size, 1, none⟩) (Nat.le_refl _) (.slice Ap np cp))
      clear HR q0 q1 hbr hpv hof hkk
      go_wp2_with fail
      refine bodyPost_ret (v := .agg #[.bool bp, .slice Ap np cp]) (results_c Tryz.results6 _ _ w.heap.size 29 _ _ rfl hres.out Tryz.underlying29 rfl info_polyB) rfl ?_
      exact ⟨_, R, rfl, HV.out, HOF.out, HBE.out⟩
/-- terms that are small -/
def smT (t : T2) : Bool := decide ((-1000 ≤ t.2 ∧ t.2 ≤ 1000) ∧ (-1000 ≤ t.1.1 ∧ t.1.1 ≤ 1000) ∧ (-1000 ≤ t.1.2 ∧ t.1.2 ≤ 1000))
def smL (l : List T2) : Bool := l.all smT && decide (l.length ≤ 6)
theorem smL_bd {l : List T2} (h : smL l = true) : Bd2 6000 1000 l ∧ l.length ≤ 6 := by
  unfold smL at h
  simp only [Bool.and_eq_true, decide_eq_true_eq, List.all_eq_true] at h
  obtain ⟨h1, h2⟩ := h
  have key : ∀ m : List T2, (∀ t ∈ m, smT t = true) → asum2 m ≤ 1000 * m.length := by
    intro m
    induction m with
    | nil => intro _; simp [asum2]
    | cons t m ih =>
      intro hm
      have e1 := of_decide_eq_true (hm t (List.mem_cons_self ..))
      have e2 := ih fun s hs => hm s (List.mem_cons_of_mem _ hs)
      rw [asum2, List.length_cons]
      omega
  refine ⟨⟨by have := key l h1; omega, fun t ht => ?_, by omega⟩, h2⟩
  have e1 := of_decide_eq_true (h1 t ht)
  omega
set_option maxHeartbeats 4000000 in
set_option maxRecDepth 100000 in
theorem smallL_any (vl : Value) (l : List T2) (w : World) (hl : SlA tB w vl l) (h64 : l.length ≤ 9223372036854775807) :
    Calls Tryz.prog 5 #[vl] w fun e w' => e = .returned (.bool (smL l)) ∧ Below w.heap.size w w' := by
  obtain ⟨V, hV⟩ : ∃ V, V = smL l := ⟨_, rfl⟩
  rw [← hV]
  have HV := Lib.hid hV
  clear hV
  have HL := Lib.hid (fun W (hb : Below w.heap.size w W) => hl.below hb)
  obtain ⟨A, c, rfl, _⟩ := hl
  go_enter Tryz.func5, Tryz.ntmps5
  go_wp2_with fail
  go_loopg [7] l.length (fun gk s7 wr => ∃ (i : Nat), i ≤ l.length ∧ gk = l.length - i ∧ s7 = .int .i64 (i : Int) ∧ Below w.heap.size w wr ∧ Hid (∀ t ∈ l.take i, smT t = true))
  case atStart => exact ⟨0, Nat.zero_le _, rfl, rfl, Below.refl _ _, Lib.hid (fun t h => by simp at h)⟩
  case round =>
    obtain ⟨i, hi, rfl, rfl, hbr, HT⟩ := hrel
    by_cases hlt : i < l.length
    · have z1 : (i : Int) < (l.length : Int) := by omega
      obtain ⟨b, o', rfl, _, hc0, hc1, hc2⟩ := (HL.out wr hbr).tat3 hlt
      have HNX := Lib.hid (show smT l[i] = true → ∀ t ∈ l.take (i + 1), smT t = true from fun h t ht => by
        rw [take_snocB hlt] at ht
        rcases List.mem_append.1 ht with ht | ht
        · exact HT.out t ht
        · rw [List.mem_singleton.1 ht]; exact h)
      have HBD := Lib.hid (show smT l[i] = false → V = false from fun h => by
        rw [HV.out]
        unfold smL
        rw [Bool.and_eq_false_iff]
        refine .inl ?_
        rw [List.all_eq_false]
        exact ⟨_, List.getElem_mem hlt, by rw [h]; simp⟩)
      have HSM := Lib.hid (show smT l[i] = decide ((-1000 ≤ l[i].2 ∧ l[i].2 ≤ 1000) ∧ (-1000 ≤ l[i].1.1 ∧ l[i].1.1 ≤ 1000) ∧ (-1000 ≤ l[i].1.2 ∧ l[i].1.2 ≤ 1000)) from rfl)
      generalize smT l[i] = sm at *
      generalize l[i].1.1 = ea at *
      generalize l[i].1.2 = ez at *
      generalize l[i].2 = cc at *
      have hbn := hbr.alloc hbr.size (.cells #[.int .i64 ea, .int .i64 ez, .int .i64 cc] 26)
      by_cases a1 : cc > 1000
      · have HE := Lib.hid (HBD.out (by rw [HSM.out]; exact decide_eq_false (by omega)))
        go_wp2_with fail
        go_ret
        exact ⟨by rw [HE.out]; rfl, hbn⟩
      have d1 : decide (1000 < cc) = false := decide_eq_false (by omega)
      by_cases a2 : cc < -1000
      · have HE := Lib.hid (HBD.out (by rw [HSM.out]; exact decide_eq_false (by omega)))
        go_wp2_with fail
        go_ret
        exact ⟨by rw [HE.out]; rfl, hbn⟩
      have d2 : decide (cc < -1000) = false := decide_eq_false (by omega)
      by_cases a3 : ea > 1000
      · have HE := Lib.hid (HBD.out (by rw [HSM.out]; exact decide_eq_false (by omega)))
        go_wp2_with fail
        go_ret
        exact ⟨by rw [HE.out]; rfl, hbn⟩
      have d3 : decide (1000 < ea) = false := decide_eq_false (by omega)
      by_cases a4 : ea < -1000
      · have HE := Lib.hid (HBD.out (by rw [HSM.out]; exact decide_eq_false (by omega)))
        go_wp2_with fail
        go_ret
        exact ⟨by rw [HE.out]; rfl, hbn⟩
      have d4 : decide (ea < -1000) = false := decide_eq_false (by omega)
      by_cases a5 : ez > 1000
      · have HE := Lib.hid (HBD.out (by rw [HSM.out]; exact decide_eq_false (by omega)))
        go_wp2_with fail
        go_ret
        exact ⟨by rw [HE.out]; rfl, hbn⟩
      have d5 : decide (1000 < ez) = false := decide_eq_false (by omega)
      by_cases a6 : ez < -1000
      · have HE := Lib.hid (HBD.out (by rw [HSM.out]; exact decide_eq_false (by omega)))
        go_wp2_with fail
        go_ret
        exact ⟨by rw [HE.out]; rfl, hbn⟩
      have d6 : decide (ez < -1000) = false := decide_eq_false (by omega)
      have HF := Lib.hid (HNX.out (by rw [HSM.out]; exact decide_eq_true (by omega)))
      clear HBD HNX HSM
      go_wp2_with fail
      go_roundg (l.length - (i + 1))
      case measure => omega
      case rel => exact ⟨i + 1, by omega, rfl, by go_num, hbn, HF⟩
    · have z1 : ¬ (i : Int) < (l.length : Int) := by omega
      have hkk : l.take i = l := List.take_of_length_le (by omega)
      rw [hkk] at HT
      have HE := Lib.hid (show V = decide (l.length ≤ 6) from by
        rw [HV.out]
        unfold smL
        rw [List.all_eq_true.2 HT.out, Bool.true_and])
      by_cases h6 : l.length ≤ 6
      · have z2 : (l.length : Int) ≤ 6 := by omega
        go_wp2_with fail
        go_ret
        exact ⟨by rw [HE.out, decide_eq_true h6]; rfl, hbr⟩
      · have z2 : ¬ (l.length : Int) ≤ 6 := by omega
        go_wp2_with fail
        go_ret
        exact ⟨by rw [HE.out, decide_eq_false h6]; rfl, hbr⟩
end Go.Proofs.YtnmidhlghhephaaGreatDoor

namespace Go.Proofs.YtnmidhlghhephaaGreatDoor
open Go.RowKit Go.Maps
set_option linter.unusedVariables false
/-- a shifted term -/
def shT (a z : Int) (t : T2) : T2 := ((t.1.1 + a, t.1.2 + z), t.2)
def shOk (a z : Int) (t : T2) : Bool := wiB (t.1.1 + a) 1048576 && wiB (t.1.2 + z) 1048576
/-- what Shift yields -/
def shB (a z : Int) : PolB → PolB
  | none => none
  | some l => if l.all (shOk a z) = true then some (l.map (shT a z)) else none
theorem wiB_in {v l : Int} : wiB v l = true ↔ -l ≤ v ∧ v ≤ l := by unfold wiB; simp
theorem shB_nil (a z : Int) : shB a z (some []) = some [] := rfl
/-- the state of Shift's loop -/
structure HSt (w : World) (s : Value) (R : List T2) (W : World) : Prop where
  own : OwnB (w.heap.size + 2) W s R
  rr : Arr W (w.heap.size + 2 + 1) 29 [.bool false, s]
  res : Arr W (w.heap.size + 1) 29 [.bool false, .slice none 0 0]
  bel : Below w.heap.size w W
section
variable {w W W' : World} {s : Value} {R : List T2}
theorem HSt.below (h : HSt w s R W) (hb : Below W.heap.size W W') : HSt w s R W' :=
  ⟨h.own.below hb, h.rr.below hb h.rr.lt, h.res.below hb h.res.lt, h.bel.trans (hb.mono h.bel.size)⟩
theorem HSt.app (h : HSt w s R W) {s' : Value} {m : T2} (ho : OwnB (w.heap.size + 2) W' s' (R ++ [m])) (hb : Below (w.heap.size + 2) W W') (hk : ∀ k, k < W.heap.size → s.ownBlock ≠ some k → W'.heap[k]? = W.heap[k]?) : Arr W' (w.heap.size + 2 + 1) 29 [.bool false, s] ∧ HSt w s' (R ++ [m]) (W'.setCell ⟨w.heap.size + 2 + 1, 1, none⟩ s') := by
  have a1 := OwnA.apartB h.own h.rr (by decide)
  have a2 := OwnA.apartB h.own h.res (by decide)
  have q1 : Arr W' (w.heap.size + 2 + 1) 29 [.bool false, s] := (hk _ h.rr.lt a1).trans h.rr
  have q2 : Arr W' (w.heap.size + 1) 29 [.bool false, .slice none 0 0] := (hk _ h.res.lt a2).trans h.res
  refine ⟨q1, ho.keepK fun k hk2 => Below.heap_setCell W' ⟨w.heap.size + 2 + 1, 1, none⟩ s' k (fun e => ?_), q1.set 1 _, q2.far (p := ⟨w.heap.size + 2 + 1, 1, none⟩) (show w.heap.size + 1 ≠ w.heap.size + 2 + 1 by omega) _, (h.bel.trans (hb.mono (by omega))).setCell (p := ⟨w.heap.size + 2 + 1, 1, none⟩) (show w.heap.size ≤ w.heap.size + 2 + 1 by omega) _⟩
  rw [e] at hk2
  exact OwnA.apartB ho q1 (by decide) hk2
end
set_option maxHeartbeats 4000000 in
set_option maxRecDepth 100000 in
theorem bShift_any (vp : Value) (p : PolB) (a z : Int) (w : World) (hp : PolyB w vp p) (okp : okB2 p) (hl : lenB p ≤ 1000000) (ha : -2097152 ≤ a ∧ a ≤ 2097152) (hz : -2097152 ≤ z ∧ z ≤ 2097152) :
    Calls Tryz.prog 7 #[vp, .int .i64 a, .int .i64 z] w fun e w' => ∃ v, e = .returned v ∧ PolyB w' v (shB a z p) ∧ Below w.heap.size w w' := by
  obtain ⟨P, hP⟩ : ∃ P, P = shB a z p := ⟨_, rfl⟩
  rw [← hP]
  have HP := Lib.hid hP
  clear hP
  obtain ⟨A, c, rfl, hx⟩ := hp
  have HPT := Lib.hid (fun W (hb : Below w.heap.size w W) => hx.below hb)
  clear hx
  have hW : ∀ W, W = ((w.alloc (.cells #[.bool p.isNone, .slice A (p.getD []).length c] 29)).alloc (.cells #[.bool false, .slice none 0 0] 29)) → Arr W w.heap.size 29 [.bool p.isNone, .slice A (p.getD []).length c] ∧ Arr W (w.heap.size + 1) 29 [.bool false, .slice none 0 0] ∧ Below w.heap.size w W ∧ W.heap.size = w.heap.size + 2 := by
    intro W hW
    subst hW
    exact ⟨(Arr.new _ _ [_, _]).alloc _, Arr.newAt (w.alloc _) _ [_, _] _ (by simp), ((Below.refl _ _).alloc (Nat.le_refl _) _).alloc (by simp) _, by simp⟩
  go_enter Tryz.func7, Tryz.ntmps7
  go_upto_region 1 with fail
  generalize ((w.alloc (.cells #[.bool p.isNone, .slice A (p.getD []).length c] 29)).alloc (.cells #[.bool false, .slice none 0 0] 29)) = w3 at hW ⊢
  obtain ⟨qp, qr, hb3, hs3⟩ := hW w3 rfl
  clear hW
  have y0 := qp.cell 0
  have y1 := qp.cell 1
  cases p with
  | none =>
    have x0 := qr.cell 0
    have x1 := qr.cell 1
    have f0 := qr.frozen 0
    have f1 := qr.frozen 1
    change w3.cell? ⟨w.heap.size, 0, none⟩ = some (.bool true) at y0
    change w3.cell? ⟨w.heap.size, 1, none⟩ = some (.slice A 0 c) at y1
    have hres := Lib.hid ((qr.set 0 (.bool true)).set 1 (.slice A 0 c))
    have HB3 := Lib.hid hb3
    clear hs3 qp qr hb3
    go_wp2_with fail
    refine bodyPost_ret (v := .agg #[.bool true, .slice A 0 c]) (results_c Tryz.results7 _ _ (w.heap.size + 1) 29 _ _ rfl hres.out Tryz.underlying29 rfl info_polyB) rfl ?_
    exact ⟨_, rfl, by rw [HP.out]; exact ⟨A, c, rfl, ⟨A, c, rfl, fun k h => absurd h (Nat.not_lt_zero _)⟩⟩, (HB3.out.setCell (p := ⟨w.heap.size + 1, 0, none⟩) (by simp) _).setCell (p := ⟨w.heap.size + 1, 1, none⟩) (by simp) _⟩
  | some l =>
    have hll : l.length ≤ 1000000 := hl
    have ha1 : (0:Int) ≤ 2097152 := by decide
    have ha2 : (2097152:Int) ≤ 1125899906842624 := by decide
    have HLI := Lib.hid okp.2
    clear okp hl
    change w3.cell? ⟨w.heap.size, 0, none⟩ = some (.bool false) at y0
    change w3.cell? ⟨w.heap.size, 1, none⟩ = some (.slice A l.length c) at y1
    by_cases hl0 : l.length = 0
    · have hnil := List.eq_nil_of_length_eq_zero hl0
      subst hnil
      have x0 := qr.cell 0
      have x1 := qr.cell 1
      have f0 := qr.frozen 0
      have f1 := qr.frozen 1
      change w3.cell? ⟨w.heap.size, 1, none⟩ = some (.slice A 0 c) at y1
      have hres := Lib.hid ((qr.set 0 (.bool false)).set 1 (.slice A 0 c))
      have HB3 := Lib.hid hb3
      clear hs3 qp qr hb3 hl0 hll
      go_wp2_with fail
      refine bodyPost_ret (v := .agg #[.bool false, .slice A 0 c]) (results_c Tryz.results7 _ _ (w.heap.size + 1) 29 _ _ rfl hres.out Tryz.underlying29 rfl info_polyB) rfl ?_
      exact ⟨_, rfl, by rw [HP.out, shB_nil]; exact ⟨A, c, rfl, ⟨A, c, rfl, fun k h => absurd h (Nat.not_lt_zero _)⟩⟩, (HB3.out.setCell (p := ⟨w.heap.size + 1, 0, none⟩) (by simp) _).setCell (p := ⟨w.heap.size + 1, 1, none⟩) (by simp) _⟩
    have z0 : ¬ (l.length : Int) = 0 := by omega
    have z1 : decide ((l.length : Int) = 0) = false := decide_eq_false z0
    have HW1 := Lib.hid (bwithin_any a 2097152 w3 (by omega) (by omega))
    have HW2 := Lib.hid (bwithin_any z 2097152 w3 (by omega) (by omega))
    rw [show wiB a 2097152 = true from wiB_in.2 ha] at HW1
    rw [show wiB z 2097152 = true from wiB_in.2 hz] at HW2
    have HQP := Lib.hid qp
    have HQR := Lib.hid qr
    have HB3 := Lib.hid hb3
    obtain ⟨cs, hmk, hcs⟩ := run_makeB l.length (by omega) w3
    have hst : HSt w (.slice (some ⟨w.heap.size + 2, 0, none⟩) 0 l.length) [] ((w3.alloc (.cells cs 49)).alloc (.cells #[.bool false, .slice (some ⟨w.heap.size + 2, 0, none⟩) 0 l.length] 29)) := by
      have h1 := OwnB.made (w := w3) (base := w.heap.size + 2) (by omega) (by omega) hcs
      rw [hs3] at h1
      exact ⟨h1.alloc _, Arr.newAt (w3.alloc _) _ [_, _] _ (by simp; omega), (qr.alloc _).alloc _, (hb3.alloc hb3.size _).alloc (by simp; omega) _⟩
    have y2 : ((w3.alloc (.cells cs 49)).alloc (.cells #[.bool false, .slice (some ⟨w.heap.size + 2, 0, none⟩) 0 l.length] 29)).cell? ⟨w.heap.size, 1, none⟩ = some (.slice A l.length c) := ((qp.alloc _).alloc _).cell 1
    have HST := Lib.hid hst
    have HY2 := Lib.hid y2
    have HS3 := Lib.hid hs3
    have HMK := Lib.hid hmk
    clear hst y2 qp qr hb3 hmk hcs hs3
    go_wp2_with fail
    refine HW1.out.mono ?_
    rintro e w4 ⟨rfl, rfl⟩
    go_wp2_with fail
    refine HW2.out.mono ?_
    rintro e w4 ⟨rfl, rfl⟩
    clear HW1 HW2 z0 z1
    have hmk := HMK.out
    have hs3 := HS3.out
    rw [hs3] at hmk
    go_upto_region 6 with fail
    have hst := HST.out
    have y2 := HY2.out
    generalize ((w3.alloc (.cells cs 49)).alloc (.cells #[.bool false, .slice (some ⟨w.heap.size + 2, 0, none⟩) 0 l.length] 29)) = w4 at *
    clear hmk cs hs3 y0 y1 HMK HST HY2 HQP HQR
    go_wp2_with fail
    go_loopg [9, 36] l.length (fun gk s9 s36 wr => ∃ (k : Nat) (s : Value), k ≤ l.length ∧ gk = l.length - k ∧ s36 = .int .i64 (k : Int) ∧ HSt w s ((l.take k).map (shT a z)) wr ∧ Hid (∀ t ∈ l.take k, shOk a z t = true))
    case atStart => exact ⟨0, _, Nat.zero_le _, rfl, rfl, hst, Lib.hid (fun t h => by simp at h)⟩
    case round =>
      clear hst y2
      obtain ⟨k, s, hk, rfl, rfl, hst, HT⟩ := hrel
      by_cases hlt : k < l.length
      · have z1 : (k : Int) < (l.length : Int) := by omega
        obtain ⟨b, o, rfl, hnn, y0, y1, y2⟩ := (show TmB wr (.slice A l.length c) l from HPT.out wr hst.bel).at_ hlt
        clear hnn
        have HL := Lib.hid (show (l.take (k + 1)).map (shT a z) = (l.take k).map (shT a z) ++ [shT a z l[k]] by rw [take_snocB hlt, List.map_append]; rfl)
        have hex1 := HLI.out.ea l[k] (List.getElem_mem hlt)
        have hex2 := HLI.out.ez l[k] (List.getElem_mem hlt)
        have hrl : ((l.take k).map (shT a z)).length ≤ 1000000 := by simp; omega
        have HBad := Lib.hid (fun (h : shOk a z l[k] = false) => (show P = none from by
          rw [HP.out]; unfold shB
          refine if_neg fun h2 => ?_
          have := List.all_eq_true.1 h2 l[k] (List.getElem_mem hlt)
          rw [h] at this; cases this))
        have HT2 := Lib.hid (fun (h : shOk a z l[k] = true) => (show ∀ t ∈ l.take (k + 1), shOk a z t = true from fun t ht => by
          rw [take_snocB hlt] at ht
          rcases List.mem_append.1 ht with ht | ht
          · exact HT.out t ht
          · rw [List.mem_singleton.1 ht]; exact h))
        generalize l[k] = t at *
        obtain ⟨⟨t1, t2⟩, t3⟩ := t
        dsimp only at *
        generalize (l.take k).map (shT a z) = R at *
        have HSTa := Lib.hid (hst.below ((Below.refl _ _).alloc (Nat.le_refl _) (.cells #[.int .i64 t1, .int .i64 t2, .int .i64 t3] 49)))
        have HQT := Lib.hid (Arr.new wr 49 [.int .i64 t1, .int .i64 t2, .int .i64 t3])
        obtain ⟨As, csx, rfl⟩ := hst.own.form
        clear hst HT
        go_upto_region 9 with fail
        have hqt : Arr (wr.alloc (.cells #[.int .i64 t1, .int .i64 t2, .int .i64 t3] 49)) wr.heap.size 49 [.int .i64 t1, .int .i64 t2, .int .i64 t3] := HQT.out
        generalize wr.heap.size = g at *
        generalize (wr.alloc (.cells #[.int .i64 t1, .int .i64 t2, .int .i64 t3] 49)) = w5 at *
        have x0 := hqt.cell 0
        have x1 := hqt.cell 1
        have x2 := hqt.cell 2
        clear y0 y1 y2 HQT hqt
        have HB1 := Lib.hid (fun (h : false = wiB (t1 + a) 1048576) => HBad.out (show shOk a z ((t1, t2), t3) = false by unfold shOk; simp only; rw [← h]; rfl))
        have HB2 := Lib.hid (fun (h : false = wiB (t2 + z) 1048576) => HBad.out (show shOk a z ((t1, t2), t3) = false by unfold shOk; simp only; rw [← h, Bool.and_false]))
        have HT3 := Lib.hid (fun (h1 : true = wiB (t1 + a) 1048576) (h2 : true = wiB (t2 + z) 1048576) => HT2.out (show shOk a z ((t1, t2), t3) = true by unfold shOk; simp only; rw [← h1, ← h2]; rfl))
        have HWI1 := Lib.hid (bwithin_any (t1 + a) 1048576 w5 (by decide) (by decide))
        have HWI2 := Lib.hid (bwithin_any (t2 + z) 1048576 w5 (by decide) (by decide))
        have HMV := Lib.hid (show shT a z ((t1, t2), t3) = ((t1 + a, t2 + z), t3) from rfl)
        rw [HMV.out] at HL
        obtain ⟨WB1, hWB1⟩ : ∃ x, x = wiB (t1 + a) 1048576 := ⟨_, rfl⟩
        obtain ⟨WB2, hWB2⟩ : ∃ x, x = wiB (t2 + z) 1048576 := ⟨_, rfl⟩
        rw [← hWB1] at HWI1 HB1 HT3
        rw [← hWB2] at HWI2 HB2 HT3
        clear hWB1 hWB2 HBad HT2 HMV
        cases WB1 with
        | false =>
          have HPN := Lib.hid (HB1.out rfl)
          clear HB1
          have qr := HSTa.out.res
          have r0 := qr.cell 0
          have r1 := qr.cell 1
          have f0 := qr.frozen 0
          have f1 := qr.frozen 1
          have HRS := Lib.hid ((qr.set 0 (.bool true)).set 1 (.slice none 0 0))
          have HBE := Lib.hid ((HSTa.out.bel.setCell (p := ⟨w.heap.size + 1, 0, none⟩) (by simp) (.bool true)).setCell (p := ⟨w.heap.size + 1, 1, none⟩) (by simp) (.slice none 0 0))
          clear qr HT3 HL HB2
          go_wp2_with fail
          refine HWI1.out.mono ?_
          rintro e w6 ⟨rfl, rfl⟩
          go_wp2_with fail
          refine bodyPost_ret (v := .agg #[.bool true, .slice none 0 0]) (results_c Tryz.results7 _ _ (w.heap.size + 1) 29 _ _ rfl HRS.out Tryz.underlying29 rfl info_polyB) rfl ?_
          exact ⟨_, rfl, by rw [HPN.out]; exact PolyB.big _, HBE.out⟩
        | true =>
          clear HB1
          cases WB2 with
          | false =>
            have HPN := Lib.hid (HB2.out rfl)
            have qr := HSTa.out.res
            have r0 := qr.cell 0
            have r1 := qr.cell 1
            have f0 := qr.frozen 0
            have f1 := qr.frozen 1
            have HRS := Lib.hid ((qr.set 0 (.bool true)).set 1 (.slice none 0 0))
            have HBE := Lib.hid ((HSTa.out.bel.setCell (p := ⟨w.heap.size + 1, 0, none⟩) (by simp) (.bool true)).setCell (p := ⟨w.heap.size + 1, 1, none⟩) (by simp) (.slice none 0 0))
            clear qr HT3 HL HB2
            go_wp2_with fail
            refine HWI1.out.mono ?_
            rintro e w6 ⟨rfl, rfl⟩
            go_wp2_with fail
            refine HWI2.out.mono ?_
            rintro e w6 ⟨rfl, rfl⟩
            go_wp2_with fail
            refine bodyPost_ret (v := .agg #[.bool true, .slice none 0 0]) (results_c Tryz.results7 _ _ (w.heap.size + 1) 29 _ _ rfl HRS.out Tryz.underlying29 rfl info_polyB) rfl ?_
            exact ⟨_, rfl, by rw [HPN.out]; exact PolyB.big _, HBE.out⟩
          | true =>
            have HT4 := Lib.hid (HT3.out rfl rfl)
            clear HB2 HT3
            have q1 := HSTa.out.rr
            have v1 := q1.cell 1
            have HSL := Lib.hid (slB_one w5 (t1 + a) (t2 + z) t3)
            have HS7 := Lib.hid (HSTa.out.below ((Below.refl _ _).alloc (Nat.le_refl _) (.cells #[.int .i64 (t1 + a), .int .i64 (t2 + z), .int .i64 t3] 49)))
            have HSZ := Lib.hid (show w.heap.size + 2 ≤ (w5.alloc (.cells #[.int .i64 (t1 + a), .int .i64 (t2 + z), .int .i64 t3] 49)).heap.size by have := HSTa.out.res.lt; simp; omega)
            have HRL := Lib.hid (show R.length + [((t1 + a, t2 + z), t3)].length ≤ 1000000000 by simp; omega)
            obtain ⟨rn, hrn⟩ : ∃ rn, rn = R.length := ⟨_, rfl⟩
            rw [← hrn] at v1 HS7 HSTa
            have HRN := Lib.hid hrn
            clear q1 hrn HSTa
            go_wp2_with fail
            refine HWI1.out.mono ?_
            rintro e w6 ⟨rfl, rfl⟩
            go_wp2_with fail
            refine HWI2.out.mono ?_
            rintro e w6 ⟨rfl, rfl⟩
            go_wp2_with (at_builtin; go_loud (refine wpList_appA rfl elB (.tmp 56) (.tmp 68) 27 27 rfl Tryz.underlying27 Tryz.underlying27 rfl HS7.out.own rfl HSL.out HRL.out HSZ.out ?_); go_loud (intro v' w8 h1 h2 h3 h4; obtain ⟨p1, p2⟩ := HS7.out.app h1 h2 h3; have HN := Lib.hid p2; obtain ⟨Av, cv2, rfl⟩ := h1.form; have f1 := p1.frozen 1; have yq := p1.cell 1; clear h1 h2 h3 h4 p1 p2))
            go_roundg (l.length - (k + 1))
            case measure => omega
            case rel =>
              have hR1 : (R ++ [((t1 + a, t2 + z), t3)]).length = R.length + 1 := by simp
              have h1 := HN.out
              rw [hR1] at h1
              exact ⟨k + 1, _, by omega, rfl, by go_num, by rw [HL.out]; exact h1, HT4⟩
      · have z1 : ¬ (k : Int) < (l.length : Int) := by omega
        have hkk : l.take k = l := List.take_of_length_le (by omega)
        rw [hkk] at hst HT
        have HE := Lib.hid (show P = some (l.map (shT a z)) from by
          rw [HP.out]; unfold shB
          exact if_pos (List.all_eq_true.2 HT.out))
        have HTM := Lib.hid (OwnB.tmB hst.own)
        obtain ⟨Ax, cx, rfl⟩ := hst.own.form
        have hln : (l.map (shT a z)).length = l.length := by simp
        have qr := hst.res
        have q1 := hst.rr
        have y0 := q1.cell 0
        have y1 := q1.cell 1
        have f0 := qr.frozen 0
        have f1 := qr.frozen 1
        have x0 := qr.cell 0
        have x1 := qr.cell 1
        rw [hln] at y1 HTM
        have HRS := Lib.hid ((qr.set 0 (.bool false)).set 1 (.slice Ax l.length cx))
        have HKP := Lib.hid ((Kp.set qr (.bool false)).trans (Kp.set (qr.set 0 (.bool false)) (.slice Ax l.length cx) (i := 1)))
        have HBE := Lib.hid ((hst.bel.setCell (p := ⟨w.heap.size + 1, 0, none⟩) (by simp) (.bool false)).setCell (p := ⟨w.heap.size + 1, 1, none⟩) (by simp) (.slice Ax l.length cx))
        have HLN := Lib.hid hln
        clear hst qr q1 hkk HT hln
        go_wp2_with fail
        refine bodyPost_ret (v := .agg #[.bool false, .slice Ax l.length cx]) (results_c Tryz.results7 _ _ (w.heap.size + 1) 29 _ _ rfl HRS.out Tryz.underlying29 rfl info_polyB) rfl ?_
        refine ⟨_, rfl, ?_, HBE.out⟩
        rw [HE.out]
        have := HTM.out.kp HKP.out (by decide)
        rw [← HLN.out] at this ⊢
        exact PolyB.of_tm this
end Go.Proofs.YtnmidhlghhephaaGreatDoor

namespace Go.Proofs.YtnmidhlghhephaaGreatDoor
open Go.RowKit
set_option linter.unusedVariables false
theorem cg2_sh (a z : Int) (l : List T2) (e : K2) : cg2 (l.map (shT a z)) e = cg2 l (e.1 - a, e.2 - z) := by
  induction l with
  | nil => rfl
  | cons t l ih =>
    rw [List.map_cons, cg2_cons, cg2_cons, ih]
    have h : ((shT a z t).1 = e) = (t.1 = (e.1 - a, e.2 - z)) := by
      obtain ⟨⟨x, y⟩, c⟩ := t
      obtain ⟨e1, e2⟩ := e
      simp only [shT, Prod.mk.injEq, eq_iff_iff]
      omega
    simp only [h]
    rfl
theorem asum2_sh (a z : Int) (l : List T2) : asum2 (l.map (shT a z)) = asum2 l := by
  induction l with
  | nil => rfl
  | cons t l ih => rw [List.map_cons, asum2, asum2, ih]; rfl
theorem Ebd.sh {N K : Nat} {a z : Int} {l : List T2} (h : Ebd N l) (ha : a.natAbs ≤ K) (hz : z.natAbs ≤ K) : Ebd (N + K) (l.map (shT a z)) := fun t ht => by
  obtain ⟨s, hs, rfl⟩ := List.mem_map.1 ht
  have := h s hs
  simp only [shT]
  omega
theorem Can2.sh {l : List T2} (h : Can2 l) (a z : Int) : Can2 (l.map (shT a z)) := by
  refine ⟨?_, fun t ht => ?_⟩
  · have h1 := h.srt
    unfold Srt2 at h1 ⊢
    rw [List.pairwise_map]
    refine h1.imp fun {x y} hxy => ?_
    unfold kb at hxy ⊢
    simp only [shT]
    omega
  · obtain ⟨s, hs, rfl⟩ := List.mem_map.1 ht
    exact h.nz s hs
theorem ShiftPL {S N : Nat} (K : Nat) (vp : Value) (L : List T2) (a z : Int) (w : World) (hp : PL w vp L) (bp : Bd2 S N L) (ha : a.natAbs ≤ K) (hz : z.natAbs ≤ K) (hS : S ≤ 1125899906842624) (hN : N + K ≤ 1048576) :
    Calls Tryz.prog 7 #[vp, .int .i64 a, .int .i64 z] w (PLR (L.map (shT a z)) w) := by
  obtain ⟨l, h1, h2, h3, h4⟩ := hp
  obtain ⟨a1, a2, a3⟩ := can_bd h2 h4 bp
  refine (bShift_any vp (some l) a z w h1 ⟨h2, h3⟩ (by unfold lenB; simpa using a3) (by omega) (by omega)).mono ?_
  rintro e w' ⟨v, rfl, hv, hb⟩
  have e2 := a2.sh ha hz
  have hok : l.all (shOk a z) = true := List.all_eq_true.2 fun t ht => by
    have := e2 (shT a z t) (List.mem_map_of_mem ht)
    simp only [shT] at this
    unfold shOk
    rw [Bool.and_eq_true, wiB_in, wiB_in]
    omega
  rw [shB, if_pos hok] at hv
  refine ⟨v, rfl, hb, _, hv, h2.sh a z, ⟨fun t ht => ?_, fun t ht => ?_, fun t ht => ?_⟩, fun e => by rw [cg2_sh, cg2_sh, h4]⟩
  · obtain ⟨s, hs, rfl⟩ := List.mem_map.1 ht
    exact h3.co s hs
  · have := e2 t ht; omega
  · have := e2 t ht; omega
end Go.Proofs.YtnmidhlghhephaaGreatDoor

namespace Go.Proofs.YtnmidhlghhephaaGreatDoor
open Go.RowKit Go.Maps
set_option linter.unusedVariables false
end Go.Proofs.YtnmidhlghhephaaGreatDoor

namespace Go.Proofs.YtnmidhlghhephaaGreatDoor
open Go.RowKit
set_option linter.unusedVariables false
end Go.Proofs.YtnmidhlghhephaaGreatDoor

namespace Go.Proofs.YtnmidhlghhephaaGreatDoor
open Go.RowKit
set_option linter.unusedVariables false
end Go.Proofs.YtnmidhlghhephaaGreatDoor
