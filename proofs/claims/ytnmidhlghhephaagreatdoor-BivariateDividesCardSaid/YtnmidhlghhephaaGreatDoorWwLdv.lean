/- BivariateDivides returns true. -/
import Derived.Test.YtnmidhlghhephaaGreatDoorWwLbm
namespace Go.Proofs.YtnmidhlghhephaaGreatDoor
open Go.RowKit
set_option linter.unusedVariables false
theorem OfP_z (vc : Value) (w : World) (h : Ints w vc [1, 0, -1]) : Calls Tryz.prog 9 #[.int .i64 (-1), vc] w fun e w' => ∃ v, e = .returned v ∧ PolyV w' v (some [(-1, 1), (1, -1)]) ∧ Below w.heap.size w w' := by
  refine (Of_any (-1) vc [1, 0, -1] w h (by simp) (by decide)).mono ?_
  rintro e w' ⟨v, he, hv, hb⟩
  have h2 : ofP (-1) [1, 0, -1] = some [(-1, 1), (1, -1)] := by decide +kernel
  rw [h2] at hv
  exact ⟨v, he, hv, hb⟩
/-- the bounds of the law's lists -/
def Sml (l : List T2) : Prop := ∀ t ∈ l, -6 ≤ t.1.1 ∧ t.1.1 ≤ 6 ∧ 0 ≤ t.1.2 ∧ t.1.2 ≤ 4
/-- the normal form of the list of terms -/
structure Nf (l c : List T2) : Prop where
  can : Can2 c
  lim : Lim2 c
  eq : ∀ e, cg2 c e = cg2 l e
theorem Nf.uniq {l c d : List T2} (h : Nf l c) (k : Nf l d) : c = d := h.can.ext k.can fun e => (h.eq e).trans (k.eq e).symm
theorem Nf.sml {l c : List T2} (h : Nf l c) (hl : Sml l) : Sml c := fun t ht => by
  obtain ⟨s, hs, e⟩ := cg2_ne (l := l) (e := t.1) (by rw [← h.eq]; exact h.can.ne ht)
  have := hl s hs
  rw [e] at this
  exact this
theorem Nf.shift {l c : List T2} (h : Nf l c) (hl : Sml l) {k : Nat} (hk : k ≤ 3) {d : List T2} (hd : Can2 d) (he : ∀ e, cg2 d e = cg2 (l.map (shT 0 (-(k : Int)))) e) : d = c.map (shT 0 (-(k : Int))) :=
  hd.ext (h.can.sh 0 _) fun e => by rw [he, cg2_sh, cg2_sh, h.eq]
theorem kmx_nn (c : List T2) (h : Sml c) : kmx c = 0 := by
  have : ∀ (l : List T2), (∀ t ∈ l, 0 ≤ t.1.2) → l.foldl (fun k t => max k (-t.1.2)) 0 = (0 : Int) := by
    intro l
    induction l with
    | nil => intro _; rfl
    | cons t l ih =>
      intro h
      rw [List.foldl_cons, show max (0 : Int) (-t.1.2) = 0 by have := h t (List.mem_cons_self ..); omega]
      exact ih fun s hs => h s (List.mem_cons_of_mem _ hs)
  exact this c fun t ht => (h t ht).2.2.1
theorem kmx_sh (c : List T2) (h : Sml c) {k : Nat} (hk : k ≤ 3) : kmx (c.map (shT 0 (-(k : Int)))) ≤ k := by
  have : ∀ (l : List T2) (a : Int), a ≤ k → (∀ t ∈ l, 0 ≤ t.1.2) → (l.map (shT 0 (-(k : Int)))).foldl (fun k t => max k (-t.1.2)) a ≤ (k : Int) := by
    intro l
    induction l with
    | nil => intro a ha _; exact ha
    | cons t l ih =>
      intro a ha h
      rw [List.map_cons, List.foldl_cons]
      refine ih _ ?_ fun s hs => h s (List.mem_cons_of_mem _ hs)
      have := h t (List.mem_cons_self ..)
      simp only [shT]
      omega
  exact this c 0 (by omega) fun t ht => (h t ht).2.2.1
/-- the boxes of p, a, z -/
structure LwS (w : World) (B8 B9 B10 : Nat) (mp ma mz : PM) (d : List T2) (W : World) : Prop where
  a8 : Arr W B8 29 [.bool false, .slice mp.1 mp.2.1 mp.2.2]
  a9 : Arr W B9 34 [.bool false, .slice ma.1 ma.2.1 ma.2.2]
  a10 : Arr W B10 34 [.bool false, .slice mz.1 mz.2.1 mz.2.2]
  vp : PolyB W (.agg #[.bool false, .slice mp.1 mp.2.1 mp.2.2]) (some d)
  va : PolyV W (.agg #[.bool false, .slice ma.1 ma.2.1 ma.2.2]) (some [(3, 1)])
  vz : PolyV W (.agg #[.bool false, .slice mz.1 mz.2.1 mz.2.2]) (some [(-1, 1), (1, -1)])
  bel : Below w.heap.size w W
theorem LwS.below {w W W' : World} {B8 B9 B10 : Nat} {mp ma mz : PM} {d : List T2} (h : LwS w B8 B9 B10 mp ma mz d W) (hb : Below W.heap.size W W') : LwS w B8 B9 B10 mp ma mz d W' :=
  ⟨h.a8.below hb h.a8.lt, h.a9.below hb h.a9.lt, h.a10.below hb h.a10.lt, h.vp.below hb, h.va.below hb, h.vz.below hb, h.bel.trans (hb.mono h.bel.size)⟩
/-- the boxes of z, x, y, power -/
structure Bx4 (w : World) (g10 g11 g13 g15 : Nat) (mz m11 m13 m15 : PM) (TX LY PW : List T1) (W : World) : Prop where
  a10 : Arr W g10 34 [.bool false, .slice mz.1 mz.2.1 mz.2.2]
  a11 : Arr W g11 34 [.bool false, .slice m11.1 m11.2.1 m11.2.2]
  a13 : Arr W g13 34 [.bool false, .slice m13.1 m13.2.1 m13.2.2]
  a15 : Arr W g15 34 [.bool false, .slice m15.1 m15.2.1 m15.2.2]
  q10 : QL W (.agg #[.bool false, .slice mz.1 mz.2.1 mz.2.2]) (zk 1)
  q11 : QL W (.agg #[.bool false, .slice m11.1 m11.2.1 m11.2.2]) TX
  q13 : QL W (.agg #[.bool false, .slice m13.1 m13.2.1 m13.2.2]) LY
  q15 : QL W (.agg #[.bool false, .slice m15.1 m15.2.1 m15.2.2]) PW
  bel : Below w.heap.size w W
  ne : g10 ≠ g15 ∧ g11 ≠ g15 ∧ g13 ≠ g15 ∧ w.heap.size ≤ g15
section
variable {w W W' : World} {g10 g11 g13 g15 : Nat} {mz m11 m13 m15 m' : PM} {TX LY PW PW' : List T1}
theorem Bx4.below (h : Bx4 w g10 g11 g13 g15 mz m11 m13 m15 TX LY PW W) (hb : Below W.heap.size W W') : Bx4 w g10 g11 g13 g15 mz m11 m13 m15 TX LY PW W' :=
  ⟨h.a10.below hb h.a10.lt, h.a11.below hb h.a11.lt, h.a13.below hb h.a13.lt, h.a15.below hb h.a15.lt, h.q10.below hb, h.q11.below hb, h.q13.below hb, h.q15.below hb, h.bel.trans (hb.mono h.bel.size), h.ne⟩
theorem Bx4.put (h : Bx4 w g10 g11 g13 g15 mz m11 m13 m15 TX LY PW W) (hq : QL W (.agg #[.bool false, .slice m'.1 m'.2.1 m'.2.2]) PW') : Bx4 w g10 g11 g13 g15 mz m11 m13 m' TX LY PW' ((W.setCell ⟨g15, 0, none⟩ (.bool false)).setCell ⟨g15, 1, none⟩ (.slice m'.1 m'.2.1 m'.2.2)) := by
  obtain ⟨n1, n2, n3, n4⟩ := h.ne
  exact ⟨(h.a10.far (p := ⟨g15, 0, none⟩) n1 _).far (p := ⟨g15, 1, none⟩) n1 _, (h.a11.far (p := ⟨g15, 0, none⟩) n2 _).far (p := ⟨g15, 1, none⟩) n2 _, (h.a13.far (p := ⟨g15, 0, none⟩) n3 _).far (p := ⟨g15, 1, none⟩) n3 _, (h.a15.set 0 _).set 1 _, h.q10.box h.a15 _ _, h.q11.box h.a15 _ _, h.q13.box h.a15 _ _, hq.box h.a15 _ _, (h.bel.setCell (p := ⟨g15, 0, none⟩) n4 _).setCell (p := ⟨g15, 1, none⟩) n4 _, h.ne⟩
end
set_option maxHeartbeats 1500000 in
set_option maxRecDepth 100000 in
theorem divides_law (v0 : Value) (l : List T2) (dn : Int) (w : World) (h0 : SlA tB w v0 l) (hd : 0 ≤ dn ∧ dn ≤ 255) (l0 : l.length ≤ 9223372036854775807) (i0 : I64T l) (ht : Tb w) :
    Calls Tryz.prog 3 #[v0, .int .u8 dn] w fun e w' => e = .returned (.bool true) ∧ Below w.heap.size w w' := by
  have HA := Lib.hid (awake13 w ht)
  have HS0 := Lib.hid (fun W (hb : Below w.heap.size w W) => smallL_any v0 l W (h0.below hb) l0)
  have HO0 := Lib.hid (fun W (hb : Below w.heap.size w W) (k : l.length ≤ 6) => of_any v0 l W (h0.below hb) i0 (by omega))
  have HL := Lib.hid (fun W (hb : Below w.heap.size w W) => h0.below hb)
  obtain ⟨A, c, rfl, _⟩ := h0
  obtain ⟨S0, hS0⟩ : ∃ S, S = smL l := ⟨_, rfl⟩
  rw [← hS0] at HS0
  have E0 := Lib.hid hS0
  obtain ⟨k, hk⟩ : ∃ k : Nat, (k : Int) = dn % 4 := ⟨(dn % 4).toNat, by omega⟩
  have HK := Lib.hid (show k ≤ 3 by omega)
  have HCV := Lib.hid (show IntKind.i64.wrap dn = dn from IntWalk.i64_in _ (by omega))
  have HTM := Lib.hid (show dn.tmod 4 = (k : Int) by rw [Int.tmod_eq_emod_of_nonneg hd.1, hk])
  have HNG := Lib.hid (show IntKind.i64.wrap (-(k : Int)) = -(k : Int) from IntWalk.i64_in _ (by omega))
  have HWK := Lib.hid (show IntKind.i64.wrap (k : Int) = (k : Int) from IntWalk.i64_in _ (by omega))
  have HNA : Hid (True) := Lib.hid trivial
  clear ht l0 i0 hS0 hk
  go_enter Tryz.func3, Tryz.ntmps3
  go_wp2_with fail
  refine HA.out.mono ?_
  rintro e w1 ⟨rfl, hb1⟩
  have B1 := Lib.hid hb1
  clear hb1 HA
  go_wp2_with fail
  refine (HS0.out w1 B1.out).mono ?_
  rintro e w2 ⟨rfl, hb2⟩
  have B2 := Lib.hid (B1.out.trans (hb2.mono B1.out.size))
  clear hb2 HS0 B1
  cases S0 with
  | false =>
    go_wp2_with fail
    go_ret
    exact ⟨rfl, B2.out⟩
  | true =>
  have D0 := Lib.hid (smL_bd E0.out.symm)
  clear E0
  obtain ⟨n, hn⟩ : ∃ n, n = l.length := ⟨_, rfl⟩
  rw [← hn] at HO0 ⊢
  have hn6 : n ≤ 6 := by have := D0.out.2; omega
  have HN := Lib.hid hn
  clear hn
  go_wp2_with fail
  go_loopg [6, 25] n (fun gk s6 s25 wr => ∃ (i : Nat), i ≤ n ∧ gk = n - i ∧ s25 = .int .i64 (i : Int) ∧ Hid (Below w.heap.size w wr) ∧ Hid (Sml (l.take i)))
  case atStart => exact ⟨0, Nat.zero_le _, rfl, rfl, B2, Lib.hid (fun t h => by simp at h)⟩
  case round =>
    clear B2
    obtain ⟨i, hi, rfl, rfl, HB, HT⟩ := hrel
    by_cases hlt : i < n
    · have z1 : (i : Int) < (n : Int) := by omega
      have hil : i < l.length := by rw [← HN.out]; exact hlt
      obtain ⟨b, o', hA, _, hc0, hc1, hc2⟩ := (HL.out wr HB.out).tat3 hil
      subst hA
      have HNX := Lib.hid (fun (h : -6 ≤ l[i].1.1 ∧ l[i].1.1 ≤ 6 ∧ 0 ≤ l[i].1.2 ∧ l[i].1.2 ≤ 4) => (show Sml (l.take (i + 1)) from fun t ht => by
        rw [take_snocB hil] at ht
        rcases List.mem_append.1 ht with ht | ht
        · exact HT.out t ht
        · rw [List.mem_singleton.1 ht]; exact h))
      generalize l[i].1.1 = ea at *
      generalize l[i].1.2 = ez at *
      generalize l[i].2 = cc at *
      have hbn := HB.out.alloc HB.out.size (.cells #[.int .i64 ea, .int .i64 ez, .int .i64 cc] 26)
      have HBN := Lib.hid hbn
      clear hbn hil
      by_cases a1 : ea < -6
      · have d1 : decide (ea < -6) = true := decide_eq_true a1
        go_wp2_with fail
        go_ret
        exact ⟨rfl, HBN.out⟩
      have d1 : decide (ea < -6) = false := decide_eq_false a1
      by_cases a2 : 6 < ea
      · have d2 : decide (6 < ea) = true := decide_eq_true a2
        go_wp2_with fail
        go_ret
        exact ⟨rfl, HBN.out⟩
      have d2 : decide (6 < ea) = false := decide_eq_false a2
      by_cases a3 : ez < 0
      · have d3 : decide (ez < 0) = true := decide_eq_true a3
        go_wp2_with fail
        go_ret
        exact ⟨rfl, HBN.out⟩
      have d3 : decide (ez < 0) = false := decide_eq_false a3
      by_cases a4 : 4 < ez
      · have d4 : decide (4 < ez) = true := decide_eq_true a4
        go_wp2_with fail
        go_ret
        exact ⟨rfl, HBN.out⟩
      have d4 : decide (4 < ez) = false := decide_eq_false a4
      have HF := Lib.hid (HNX.out (by omega))
      clear HNX a1 a2 a3 a4
      go_wp2_with fail
      go_roundg (n - (i + 1))
      case measure => omega
      case rel => exact ⟨i + 1, by omega, rfl, by go_num, HBN, HF⟩
    · have z1 : ¬ (i : Int) < (n : Int) := by omega
      obtain rfl : i = n := by omega
      have HSM := Lib.hid (show Sml l from by
        have h := HT.out
        rwa [List.take_of_length_le (by have := HN.out; omega)] at h)
      have hcv := HCV.out
      have htm := HTM.out
      have hwk := HWK.out
      clear HT hi
      go_upto_region 12 with fail
      have HOP := Lib.hid (fun W (hb : Below w.heap.size w W) => HO0.out W hb hn6)
      go_wp2_with fail
      refine (HOP.out wr HB.out).mono ?_
      rintro e w4 ⟨x0, r0, rfl, hp0, ho0, hb4⟩
      have hpl := ho0.pl D0.out.1 (by decide) (by decide) hp0
      have HB4 := Lib.hid (HB.out.trans (hb4.mono HB.out.size))
      obtain ⟨cc, hcc0, hcc1, hcc2, hcc3⟩ := id hpl
      have HNF := Lib.hid (show Nf l cc from ⟨hcc1, hcc2, hcc3⟩)
      have HSH := Lib.hid (ShiftPL 3 x0 l 0 (-(k : Int)) w4 hpl D0.out.1 (by decide) (by have := HK.out; omega) (by decide) (by decide))
      clear hp0 ho0 hb4 hpl hcc0 hcc1 hcc2 hcc3 HB
      have hng := HNG.out
      go_wp2_with fail
      refine HSH.out.mono ?_
      rintro e w5 ⟨v5, rfl, hb5, d, hd0, hd1, hd2, hd3⟩
      have hde := HNF.out.shift HSM.out HK.out hd1 hd3
      subst hde
      have HD2 := Lib.hid hd2
      have HB5 := Lib.hid (HB4.out.trans (hb5.mono HB4.out.size))
      obtain ⟨b8, A8, n8, c8, e8, j8, -⟩ := hd0.parts
      obtain rfl : b8 = false := j8
      subst e8
      have HP5 := Lib.hid hd0
      clear HSH HB4 hb5 hd0 hd1 hd2 hd3
      have hW8 : ∀ W, W = w5.alloc (.cells #[.bool false, .slice A8 n8 c8] 29) → Arr W w5.heap.size 29 [.bool false, .slice A8 n8 c8] ∧ PolyB W (.agg #[.bool false, .slice A8 n8 c8]) (some (cc.map (shT 0 (-(k : Int))))) ∧ Below w.heap.size w W := by
        intro W hW
        subst hW
        exact ⟨Arr.new _ _ [_, _], HP5.out.below ((Below.refl _ _).alloc (Nat.le_refl _) _), HB5.out.alloc HB5.out.size _⟩
      go_upto_region 13 with fail
      generalize w5.alloc (.cells #[.bool false, .slice A8 n8 c8] 29) = w6 at hW8 ⊢
      obtain ⟨B8, hB8⟩ : ∃ B, B = w5.heap.size := ⟨_, rfl⟩
      rw [← hB8] at hW8 ⊢
      obtain ⟨a8, p8, hb6⟩ := hW8 w6 rfl
      have HA8 := Lib.hid a8
      have HP8 := Lib.hid p8
      have HB6 := Lib.hid hb6
      clear hW8 a8 p8 hb6 HP5 HB5 hB8
      go_wp2_with fail
      refine (Term_any 1 3 w6 (by decide) (by decide) (by decide) (by decide) (by decide)).mono ?_
      rintro e w7 ⟨v7, rfl, hv7, hb7⟩
      obtain ⟨b9, A9, n9, c9, e9, j9, -⟩ := hv7.parts
      obtain rfl : b9 = false := j9
      subst e9
      have HA8' := Lib.hid (HA8.out.below hb7 HA8.out.lt)
      have HP8' := Lib.hid (HP8.out.below hb7)
      have HB7 := Lib.hid (HB6.out.trans (hb7.mono HB6.out.size))
      have HV7 := Lib.hid hv7
      clear HA8 HP8 HB6 hb7 hv7
      have hW9 : ∀ W, W = w7.alloc (.cells #[.int .i64 1, .int .i64 0, .int .i64 (-1)] 3) → Below w7.heap.size w7 W ∧ Ints W (.slice (some ⟨w7.heap.size, 0, none⟩) 3 3) [1, 0, -1] := by
        intro W hW
        subst hW
        exact ⟨(Below.refl _ _).alloc (Nat.le_refl _) _, Ints.of_arr (xs := [1, 0, -1]) (Arr.new w7 3 [.int .i64 1, .int .i64 0, .int .i64 (-1)])⟩
      have HW9 := Lib.hid hW9
      clear hW9
      go_wp2_with fail
      refine (OfP_z _ _ (HW9.out _ rfl).2).mono ?_
      rintro e w10 ⟨v10, rfl, hv10, hb10⟩
      have hb710 := (HW9.out _ rfl).1.trans (hb10.mono (HW9.out _ rfl).1.size)
      obtain ⟨b10, A10, n10, c10, e10, j10, -⟩ := hv10.parts
      obtain rfl : b10 = false := j10
      subst e10
      have hW : ∀ W, W = ((w10.alloc (.cells #[.bool false, .slice A9 n9 c9] 34)).alloc (.cells #[.bool false, .slice A10 n10 c10] 34)) → LwS w B8 w10.heap.size (w10.heap.size + 1) (A8, n8, c8) (A9, n9, c9) (A10, n10, c10) (cc.map (shT 0 (-(k : Int)))) W := by
        intro W hW
        subst hW
        have hba := ((Below.refl w10.heap.size w10).alloc (Nat.le_refl _) (.cells #[.bool false, .slice A9 n9 c9] 34)).alloc (by simp) (.cells #[.bool false, .slice A10 n10 c10] 34)
        have hb := hb710.trans (hba.mono hb710.size)
        exact ⟨HA8'.out.below hb HA8'.out.lt, (Arr.new _ _ [_, _]).alloc _, Arr.newAt (w10.alloc _) _ [_, _] _ (by simp), HP8'.out.below hb, HV7.out.below hb, hv10.below hba, HB7.out.trans (hb.mono HB7.out.size)⟩
      have HW := Lib.hid hW
      clear hW hb710 hb10 hv10 HW9 HA8' HP8' HV7 HB7
      go_upto_region 14 with fail
      have hlw := HW.out
      obtain ⟨B9, hB9⟩ : ∃ B, B = w10.heap.size := ⟨_, rfl⟩
      obtain ⟨B10, hB10⟩ : ∃ B, B = B9 + 1 := ⟨_, rfl⟩
      rw [← hB9] at hlw ⊢
      rw [← hB10] at hlw ⊢
      generalize ((w10.alloc (.cells #[.bool false, .slice A9 n9 c9] 34)).alloc (.cells #[.bool false, .slice A10 n10 c10] 34)) = w3 at hlw ⊢
      have H3 := Lib.hid (hlw w3 rfl)
      obtain ⟨mp, hmp⟩ : ∃ m : PM, m = (A8, n8, c8) := ⟨_, rfl⟩
      rw [← hmp] at H3
      clear hmp
      clear hlw HW hB9 hB10
      have HKM := Lib.hid (kmx_nn cc (HNF.out.sml HSM.out))
      obtain ⟨TX, hTX⟩ : ∃ T, T = setL (LAu 3 1) (LKz (LZp (zk 1)) 0) cc := ⟨_, rfl⟩
      have HTX := Lib.hid hTX
      have HCB := Lib.hid (can_bd HNF.out.can HNF.out.eq D0.out.1)
      have HOF := Lib.hid (fun W (hb : Below w.heap.size w W) => (show Calls Tryz.prog 6 #[.slice A i c] W fun e w' => ∃ v, e = .returned v ∧ Below W.heap.size W w' ∧ PolyB w' v (some cc) from (HOP.out W hb).mono (by
        rintro e w' ⟨x, r, rfl, hp, ho, hb⟩
        obtain ⟨c', h1, h2, h3, h4⟩ := ho.pl D0.out.1 (by decide) (by decide) hp
        have : c' = cc := Nf.uniq (l := l) ⟨h2, h3, h4⟩ HNF.out
        subst this
        exact ⟨x, rfl, hb, h1⟩)))
      have HSX := Lib.hid (fun (vp va vz : Value) W (h1 : PolyB W vp (some cc)) (h2 : PolyV W va (some [(3, 1)])) (h3 : PolyV W vz (some [(-1, 1), (1, -1)])) => (show Calls Tryz.prog 10 #[vp, va, vz] W fun e w' => ∃ (A : Option Addr) (n c : Nat), e = .returned (.tuple #[.agg #[.bool false, .slice A n c], .int .i64 0]) ∧ QL w' (.agg #[.bool false, .slice A n c]) TX ∧ Below W.heap.size W w' from (SetQ vp va vz cc W h1 h2 h3 HNF.out.lim HNF.out.can (by have := keys_len HNF.out.can HNF.out.eq; have := D0.out.2; omega) (fun t ht => by have := HNF.out.sml HSM.out t ht; omega) (by rw [HKM.out]; decide) (by have := HCB.out.1; omega)).mono (by
        rintro e w' ⟨hb, h⟩
        rw [HKM.out, ← HTX.out] at h
        rcases h with ⟨A, n, c, L, rfl, hq, hL⟩ | ⟨_, hL⟩
        · exact ⟨A, n, c, rfl, hq.congr fun e => by rw [← hL e]; exact (cvF_one _ e).symm, hb⟩
        · exact absurd ⟨TX, fun e => cvF_one _ e⟩ hL)))
      obtain ⟨ma, hma⟩ : ∃ m : PM, m = (A9, n9, c9) := ⟨_, rfl⟩
      obtain ⟨mz, hmz⟩ : ∃ m : PM, m = (A10, n10, c10) := ⟨_, rfl⟩
      rw [← hma, ← hmz] at H3
      clear hma hmz hTX HOP HCB
      obtain ⟨nl, hnl⟩ : ∃ x, x = i := ⟨_, rfl⟩
      subst hnl
      refine wp_region_phim 9 (fun i => decide (i = 7) || decide (i = 10)) (by kernel_rfl) (by kernel_rfl) (by kernel_rfl) (by kernel_rfl) (by kernel_rfl) rfl (by simp) (by kernel_rfl) (fun i => ([some (.slice A nl c), none, some (.agg #[.bool false, .slice ma.1 ma.2.1 ma.2.2]), some (.agg #[.bool false, .slice mz.1 mz.2.1 mz.2.2]), none, none, none, some (.int .i64 0), none, none, some (.int .i64 0)] : List (Option Value)).getD i none) (phiT (fun i => ([some (.slice A nl c), none, some (.agg #[.bool false, .slice ma.1 ma.2.1 ma.2.2]), some (.agg #[.bool false, .slice mz.1 mz.2.1 mz.2.2]), none, none, none, some (.int .i64 0), none, none, some (.int .i64 0)] : List (Option Value)).getD i none) (fun i v w => (if i = 1 then (fun v w => PolyB w v (some cc)) v w else (if i = 4 then (fun v w => ∃ A n c, v = .tuple #[.agg #[.bool false, .slice A n c], .int .i64 0] ∧ QL w (.agg #[.bool false, .slice A n c]) TX) v w else (if i = 5 then (fun v w => ∃ A n c, v = .tuple #[.agg #[.bool false, .slice A n c], .int .i64 0] ∧ QL w (.agg #[.bool false, .slice A n c]) TX) v w else (if i = 6 then (fun v w => ∃ A n c, v = .agg #[.bool false, .slice A n c] ∧ QL w v TX) v w else (if i = 8 then (fun v w => ∃ g, v = .pointer (some ⟨g, 0, none⟩) ∧ w3.heap.size ≤ g ∧ Arr w g 34 [.bool false, .slice none 0 0]) v w else True))))))) (fun i v w w' h hb => ?_) (fun i u v w h he => ?_) (fun x W => ∃ (g : Nat) (A : Option Addr) (n c : Nat), x 8 = .pointer (some ⟨g, 0, none⟩) ∧ w3.heap.size ≤ g ∧ Arr W g 34 [.bool false, .slice A n c] ∧ QL W (.agg #[.bool false, .slice A n c]) TX ∧ Below w3.heap.size w3 W ∧ ∃ u, x 5 = .tuple #[u, .int .i64 0]) (fun x w i v hl h => ?_) ⟨?_, ?_, ?_, ?_, ?_, ?_, ?_, ?_, ?_, ?_, ?_, trivial⟩ ?_
      · unfold phiT at h ⊢
        split
        · next u hu => rw [hu] at h; exact h
        · next hu =>
          rw [hu] at h
          simp only at h ⊢
          by_cases q1 : i = 1
          · rw [if_pos q1] at h ⊢; exact PolyB.below h hb
          · rw [if_neg q1] at h ⊢
            by_cases q4 : i = 4
            · rw [if_pos q4] at h ⊢; exact (by obtain ⟨A, n, c, h1, h2⟩ := h; exact ⟨A, n, c, h1, h2.below hb⟩)
            · rw [if_neg q4] at h ⊢
              by_cases q5 : i = 5
              · rw [if_pos q5] at h ⊢; exact (by obtain ⟨A, n, c, h1, h2⟩ := h; exact ⟨A, n, c, h1, h2.below hb⟩)
              · rw [if_neg q5] at h ⊢
                by_cases q6 : i = 6
                · rw [if_pos q6] at h ⊢; exact (by obtain ⟨A, n, c, h1, h2⟩ := h; exact ⟨A, n, c, h1, h2.below hb⟩)
                · rw [if_neg q6] at h ⊢
                  by_cases q8 : i = 8
                  · rw [if_pos q8] at h ⊢; exact (by obtain ⟨g, h1, h2, h3⟩ := h; exact ⟨g, h1, h2, h3.below hb h3.lt⟩)
                  · rw [if_neg q8] at h ⊢
                    trivial
      · exact phiT_val h he
      · simp only [Bool.or_eq_true, decide_eq_true_eq, Bool.false_eq_true] at hl
        rcases hl with rfl | rfl
        · exact by simpa [upd] using h
        · exact by simpa [upd] using h
      · intro x w1 bA hold hb
        refine ⟨fun _ _ hbel hdep => ?_, fun h => absurd h (by decide), fun h => absurd h (by decide)⟩
        have e0 : bA.tmps[0]?.getD undef = .slice A nl c := hb 0
        refine phi_run (.slice A nl c) ?_ rfl
        clear hb hdep hold
        go_simp
      · intro x w1 bA hold hb
        refine ⟨fun _ _ hbel hdep => ?_, fun h => absurd h (by decide), fun h => absurd h (by decide)⟩
        have e60 : bA.tmps[60]?.getD undef = .slice A nl c := (hb 60).trans (hdep 0 (by decide))
        refine phi_call ?_ ((HOF.out w1 (H3.out.below hbel).bel).mono fun e w' h => (by obtain ⟨v, he, hb', hv⟩ := h; exact ⟨v, he, hb', hv⟩))
        clear hb hdep hold
        go_simp
      · intro x w1 bA hold hb
        refine ⟨fun _ _ hbel hdep => ?_, fun h => absurd h (by decide), fun h => absurd h (by decide)⟩
        have e9 : bA.tmps[9]?.getD undef = .pointer (some ⟨B9, 0, none⟩) := hb 9
        have cc0 := ((H3.out.below hbel).a9).cell 0
        have cc1 := ((H3.out.below hbel).a9).cell 1
        refine phi_run (.agg #[.bool false, .slice ma.1 ma.2.1 ma.2.2]) ?_ rfl
        clear hb hdep hold
        go_simp
      · intro x w1 bA hold hb
        refine ⟨fun _ _ hbel hdep => ?_, fun h => absurd h (by decide), fun h => absurd h (by decide)⟩
        have e10 : bA.tmps[10]?.getD undef = .pointer (some ⟨B10, 0, none⟩) := hb 10
        have cc0 := ((H3.out.below hbel).a10).cell 0
        have cc1 := ((H3.out.below hbel).a10).cell 1
        refine phi_run (.agg #[.bool false, .slice mz.1 mz.2.1 mz.2.2]) ?_ rfl
        clear hb hdep hold
        go_simp
      · intro x w1 bA hold hb
        refine ⟨fun _ _ hbel hdep => ?_, fun h => absurd h (by decide), fun h => absurd h (by decide)⟩
        have p61 := hdep 1 (by decide)
        have e61 : bA.tmps[61]?.getD undef = x 1 := hb 61
        generalize x 1 = x61 at p61 e61
        have P61 := Lib.hid (show (fun v w => PolyB w v (some cc)) x61 w1 from p61)
        clear p61
        have e62 : bA.tmps[62]?.getD undef = .agg #[.bool false, .slice ma.1 ma.2.1 ma.2.2] := (hb 62).trans (hdep 2 (by decide))
        have e63 : bA.tmps[63]?.getD undef = .agg #[.bool false, .slice mz.1 mz.2.1 mz.2.2] := (hb 63).trans (hdep 3 (by decide))
        refine phi_call ?_ ((HSX.out x61 (.agg #[.bool false, .slice ma.1 ma.2.1 ma.2.2]) (.agg #[.bool false, .slice mz.1 mz.2.1 mz.2.2]) w1 P61.out (H3.out.below hbel).va (H3.out.below hbel).vz).mono fun e w' h => (by obtain ⟨A, n, c, he, hq, hb'⟩ := h; exact ⟨_, he, hb', A, n, c, rfl, hq⟩))
        clear hb hdep hold
        go_simp
      · intro x w1 bA hold hb
        refine ⟨fun _ _ hbel hdep => ?_, fun h => absurd h (by decide), fun h => absurd h (by decide)⟩
        have p64 := hdep 4 (by decide)
        have e64 : bA.tmps[64]?.getD undef = x 4 := hb 64
        generalize x 4 = x64 at p64 e64
        have P64 := Lib.hid (show (fun v w => ∃ A n c, v = .tuple #[.agg #[.bool false, .slice A n c], .int .i64 0] ∧ QL w (.agg #[.bool false, .slice A n c]) TX) x64 w1 from p64)
        clear p64
        refine phi_run (x64) ?_ (P64.out)
        clear hb hdep hold
        go_simp
      · intro x w1 bA hold hb
        refine ⟨fun _ _ hbel hdep => ?_, fun h => absurd h (by decide), fun h => absurd h (by decide)⟩
        have p59 := hdep 5 (by decide)
        have e59 : bA.tmps[59]?.getD undef = x 5 := hb 59
        generalize x 5 = x59 at p59 e59
        have P59 := Lib.hid (show (fun v w => ∃ A n c, v = .tuple #[.agg #[.bool false, .slice A n c], .int .i64 0] ∧ QL w (.agg #[.bool false, .slice A n c]) TX) x59 w1 from p59)
        clear p59
        obtain ⟨A59, n59, c59, e59b, hq59⟩ := P59.out
        have HQ59 := Lib.hid hq59
        subst e59b
        refine phi_run (.agg #[.bool false, .slice A59 n59 c59]) ?_ (⟨A59, n59, c59, rfl, HQ59.out⟩)
        clear hb hdep hold
        go_simp
      · intro x w1 bA hold hb
        refine ⟨fun h => absurd h (by decide), fun h => absurd h (by decide), fun _ hdep hlr => ⟨.int .i64 0, rfl, ?_, rfl⟩⟩
        have h59 : ∃ u, x 5 = .tuple #[u, .int .i64 0] := hlr.elim (fun h => by obtain ⟨_, _, _, _, _, _, _, _, _, u, hu⟩ := h; exact ⟨u, hu⟩) (fun h => by obtain ⟨A, n, c, h1, _⟩ := h.2 5 (by decide); exact ⟨_, h1⟩)
        obtain ⟨u, hu⟩ := h59
        have e59 : bA.tmps[59]?.getD undef = .tuple #[u, .int .i64 0] := (hb 59).trans hu
        clear hb hdep hold hlr
        go_simp
      · intro x w1 bA hold hb
        refine ⟨fun _ _ hbel hdep => ?_, fun h => absurd h (by decide), fun h => absurd h (by decide)⟩
        refine phi_make (.pointer (some ⟨w1.heap.size, 0, none⟩)) (w1.alloc (.cells #[.bool false, .slice none 0 0] 34)) ?_ ((Below.refl _ _).alloc (Nat.le_refl _) _) (⟨w1.heap.size, rfl, hbel.size, Arr.new w1 34 [.bool false, .slice none 0 0]⟩)
        clear hb hdep hold
        go_simp
      · intro x w1 bA hold hb
        refine ⟨fun _ h => absurd rfl h, fun _ hbel hdep hall => ?_, fun h => absurd h (by decide)⟩
        have p11 := hdep 8 (by decide)
        have e11 : bA.tmps[11]?.getD undef = x 8 := hb 11
        have P11 := Lib.hid (show (fun v w => ∃ g, v = .pointer (some ⟨g, 0, none⟩) ∧ w3.heap.size ≤ g ∧ Arr w g 34 [.bool false, .slice none 0 0]) (x 8) w1 from p11)
        clear p11
        have p65 := hdep 6 (by decide)
        have e65 : bA.tmps[65]?.getD undef = x 6 := hb 65
        have P65 := Lib.hid (show (fun v w => ∃ A n c, v = .agg #[.bool false, .slice A n c] ∧ QL w v TX) (x 6) w1 from p65)
        clear p65
        clear hb hdep hold
        have HX5 := Lib.hid (show ∃ u, x 5 = .tuple #[u, .int .i64 0] from by obtain ⟨A, n, c, h1, _⟩ := hall 5 (by decide) (by decide) (by decide); exact ⟨_, h1⟩)
        clear hall
        obtain ⟨g, e4b, hg, ag⟩ := P11.out
        obtain ⟨A23, n23, c23, e23b, hq23⟩ := P65.out
        rw [e4b] at e11
        rw [e23b] at e65
        have c0 := ag.cell 0
        have c1 := ag.cell 1
        have f0 := ag.frozen 0
        have f1 := ag.frozen 1
        have AGG := Lib.hid ag
        have HX4 := Lib.hid e4b
        have HBL := Lib.hid hbel
        have HQ23 := Lib.hid (e23b ▸ hq23)
        clear ag e4b e23b hq23 P11 P65 hbel
        refine phl_st (R := fun x W => ∃ (g : Nat) (A : Option Addr) (n c : Nat), x 8 = .pointer (some ⟨g, 0, none⟩) ∧ w3.heap.size ≤ g ∧ Arr W g 34 [.bool false, .slice A n c] ∧ QL W (.agg #[.bool false, .slice A n c]) TX ∧ Below w3.heap.size w3 W ∧ ∃ u, x 5 = .tuple #[u, .int .i64 0]) ((w1.setCell ⟨g, 0, none⟩ (.bool false)).setCell ⟨g, 1, none⟩ (.slice A23 n23 c23)) ?_ rfl (fun v => ⟨g, A23, n23, c23, (by simpa [upd] using HX4.out), hg, (AGG.out.set 0 _).set 1 _, HQ23.out.box AGG.out _ _, (HBL.out.setCell (p := ⟨g, 0, none⟩) hg _).setCell (p := ⟨g, 1, none⟩) hg _, (by simpa [upd] using HX5.out)⟩) rfl
        go_simp
      · intro x w1 bA hold hb
        refine ⟨fun h => absurd h (by decide), fun h => absurd h (by decide), fun _ hdep hlr => ⟨.int .i64 0, rfl, ?_, rfl⟩⟩
        have e66 : bA.tmps[66]?.getD undef = .int .i64 0 := (hb 66).trans (hdep 7 (by decide) _ rfl)
        clear hb hdep hold
        go_simp
      intro x w1 hR hall
      have x0e : x 0 = .slice A nl c := hall 0 _ (by simp) rfl
      have x2e : x 2 = .agg #[.bool false, .slice ma.1 ma.2.1 ma.2.2] := hall 2 _ (by simp) rfl
      have x3e : x 3 = .agg #[.bool false, .slice mz.1 mz.2.1 mz.2.2] := hall 3 _ (by simp) rfl
      have x7e : x 7 = .int .i64 0 := hall 7 _ (by simp) rfl
      have x10e : x 10 = .int .i64 0 := hall 10 _ (by simp) rfl
      simp only [putAll, dstOf, Act.put, List.map_cons, List.map_nil, List.setIfInBounds_toArray, List.set_cons_succ, List.set_cons_zero, Nat.reduceAdd, x0e, x2e, x3e, x7e, x10e]
      clear x0e x2e x3e x7e x10e hall
      obtain ⟨g11, A11, n11, c11, hx8, hg11, a11, q11, hb11, u, hu⟩ := hR
      rw [hx8]
      have H4 := Lib.hid (H3.out.below hb11)
      have HA11 := Lib.hid a11
      have HQ11 := Lib.hid q11
      clear hx8 hg11 a11 q11 hb11 hu H3 HSX HOF
      obtain ⟨K, hK⟩ : ∃ K, K = kmx (cc.map (shT 0 (-(k : Int)))) := ⟨_, rfl⟩
      have HKK := Lib.hid (show 0 ≤ K ∧ K ≤ (k : Int) from by
        rw [hK]
        exact ⟨(kmx_bd _ (fun t ht => by
          obtain ⟨s, hs, rfl⟩ := List.mem_map.1 ht
          have := HNF.out.sml HSM.out s hs
          have := HK.out
          simp only [shT]
          omega)).1, kmx_sh cc (HNF.out.sml HSM.out) HK.out⟩)
      have HGE := Lib.hid (show ∀ t ∈ cc, 0 ≤ t.1.2 - (k : Int) + K from fun t ht => by
        have h := kmx_ge (cc.map (shT 0 (-(k : Int)))) (fun t ht => by
          obtain ⟨s, hs, rfl⟩ := List.mem_map.1 ht
          have := HNF.out.sml HSM.out s hs
          have := HK.out
          simp only [shT]
          omega) _ (List.mem_map_of_mem ht)
        rw [← hK] at h
        simp only [shT] at h
        omega)
      obtain ⟨T, hT⟩ : ∃ T, T = setL (LAu 3 1) (LKz (LZp (zk 1)) K) (cc.map (shT 0 (-(k : Int)))) := ⟨_, rfl⟩
      have HSY := Lib.hid (SetQ (.agg #[.bool false, .slice mp.1 mp.2.1 mp.2.2]) (.agg #[.bool false, .slice ma.1 ma.2.1 ma.2.2]) (.agg #[.bool false, .slice mz.1 mz.2.1 mz.2.2]) (cc.map (shT 0 (-(k : Int)))) w1 H4.out.vp H4.out.va H4.out.vz HD2.out (HNF.out.can.sh 0 _) (by rw [List.length_map]; have := keys_len HNF.out.can HNF.out.eq; have := D0.out.2; omega) (fun t ht => by
          obtain ⟨s, hs, rfl⟩ := List.mem_map.1 ht
          have := HNF.out.sml HSM.out s hs
          have := HK.out
          simp only [shT]
          omega) (by have := HKK.out; have := HK.out; omega) (by rw [asum2_sh]; have := (can_bd HNF.out.can HNF.out.eq D0.out.1).1; omega))
      rw [← hK, ← hT] at HSY
      have HTT := Lib.hid hT
      clear hT hK
      have y0 := H4.out.a8.cell 0
      have y1 := H4.out.a8.cell 1
      have y2 := H4.out.a9.cell 0
      have y3 := H4.out.a9.cell 1
      have y4 := H4.out.a10.cell 0
      have y5 := H4.out.a10.cell 1
      go_wp2_with fail
      refine HSY.out.mono ?_
      rintro e w13 ⟨hb13, hy⟩
      have hyy : ∃ (m13 : PM) (fe : Int) (LY : List T1), e = .returned (.tuple #[.agg #[.bool false, .slice m13.1 m13.2.1 m13.2.2], .int .i64 fe]) ∧ QL w13 (.agg #[.bool false, .slice m13.1 m13.2.1 m13.2.2]) LY ∧ ((fe = 0 ∧ QuL K.toNat T LY) ∨ (fe = 10 ∧ LY = [] ∧ QuN K.toNat T)) := by
        rcases hy with ⟨A', n', c', L, rfl, hq, hL⟩ | ⟨rfl, hN⟩
        · exact ⟨(A', n', c'), 0, L, rfl, hq, .inl ⟨rfl, hL⟩⟩
        · exact ⟨(none, 0, 0), 10, [], rfl, QL.zero _, .inr ⟨rfl, rfl, hN⟩⟩
      clear hy
      obtain ⟨m13, fe, LY, rfl, hq13, hYY⟩ := hyy
      have HY := Lib.hid hYY
      obtain ⟨m11, hm11⟩ : ∃ m : PM, m = (A11, n11, c11) := ⟨_, rfl⟩
      have HA11' := Lib.hid (show Arr w13 g11 34 [.bool false, .slice m11.1 m11.2.1 m11.2.2] ∧ QL w13 (.agg #[.bool false, .slice m11.1 m11.2.1 m11.2.2]) TX from by rw [hm11]; exact ⟨HA11.out.below hb13 HA11.out.lt, HQ11.out.below hb13⟩)
      have H5 := Lib.hid (H4.out.below hb13)
      have HQ13 := Lib.hid hq13
      clear hYY hm11 HA11 HQ11 H4 hb13 hq13 HSY y0 y1 y2 y3 y4 y5
      go_upto_region 16 with fail
      have hW : ∀ W, W = w13.alloc (.cells #[.bool false, .slice m13.1 m13.2.1 m13.2.2] 34) → Below w13.heap.size w13 W ∧ Arr W w13.heap.size 34 [.bool false, .slice m13.1 m13.2.1 m13.2.2] := by
        intro W hW
        subst hW
        exact ⟨(Below.refl _ _).alloc (Nat.le_refl _) _, Arr.new _ _ [_, _]⟩
      generalize w13.alloc (.cells #[.bool false, .slice m13.1 m13.2.1 m13.2.2] 34) = w14 at hW ⊢
      obtain ⟨hb14, a13⟩ := hW w14 rfl
      obtain ⟨g13, hg13⟩ : ∃ g, g = w13.heap.size := ⟨_, rfl⟩
      rw [← hg13] at a13 ⊢
      have H6 := Lib.hid (H5.out.below hb14)
      have HA13 := Lib.hid (And.intro a13 (HQ13.out.below hb14))
      have HA11 := Lib.hid (And.intro (HA11'.out.1.below hb14 HA11'.out.1.lt) (HA11'.out.2.below hb14))
      clear hW hb14 a13 hg13 H5 HQ13 HA11'
      go_wp2_with fail
      refine (TermQ 1 0 w14 (by decide) (by decide) (by decide) (by decide) (by decide)).mono ?_
      rintro e w15 ⟨v15, rfl, hb15, hq15⟩
      obtain ⟨A15, n15, c15, e15⟩ := hq15.form
      subst e15
      have H7 := Lib.hid (H6.out.below hb15)
      have HA13b := Lib.hid (And.intro (HA13.out.1.below hb15 HA13.out.1.lt) (HA13.out.2.below hb15))
      have HA11b := Lib.hid (And.intro (HA11.out.1.below hb15 HA11.out.1.lt) (HA11.out.2.below hb15))
      have HQ15 := Lib.hid hq15
      clear hb15 hq15 H6 HA13 HA11
      have hW : ∀ W, W = w15.alloc (.cells #[.bool false, .slice A15 n15 c15] 34) → Bx4 w B10 g11 g13 w15.heap.size mz m11 m13 (A15, n15, c15) TX LY (powL (zk 1) 0) W := by
        intro W hW
        subst hW
        have hb : Below w15.heap.size w15 (w15.alloc (.cells #[.bool false, .slice A15 n15 c15] 34)) := (Below.refl _ _).alloc (Nat.le_refl _) _
        exact ⟨H7.out.a10.alloc _, HA11b.out.1.alloc _, HA13b.out.1.alloc _, Arr.new _ _ [_, _], ⟨zk 1, H7.out.vz.below hb, zk_can (by decide), zk_lim (by decide), fun e => rfl⟩, HA11b.out.2.below hb, HA13b.out.2.below hb, HQ15.out.below hb, H7.out.bel.trans (hb.mono H7.out.bel.size), Nat.ne_of_lt H7.out.a10.lt, Nat.ne_of_lt HA11b.out.1.lt, Nat.ne_of_lt HA13b.out.1.lt, H7.out.bel.size⟩
      go_upto_region 17 with fail
      generalize w15.alloc (.cells #[.bool false, .slice A15 n15 c15] 34) = w17 at hW ⊢
      obtain ⟨g15, hg15⟩ : ∃ g, g = w15.heap.size := ⟨_, rfl⟩
      rw [← hg15] at hW ⊢
      have HB4 := Lib.hid (hW w17 rfl)
      have hk3 := HK.out
      clear hW hg15 H7 HA13b HA11b HQ15
      go_upto_region 18 with fail
      go_loopg [76] k (fun gk s76 wr => ∃ (j : Nat) (m : PM), j ≤ k ∧ gk = k - j ∧ s76 = .int .i64 (j : Int) ∧ Hid (Bx4 w B10 g11 g13 g15 mz m11 m13 m TX LY (powL (zk 1) j) wr))
      case atStart => exact ⟨0, _, Nat.zero_le _, rfl, rfl, HB4⟩
      case round =>
        clear HB4
        obtain ⟨j, m, hj, rfl, rfl, HX⟩ := hrel
        by_cases hlt2 : j < k
        · have z1 : (j : Int) < (k : Int) := by omega
          have y0 := HX.out.a15.cell 0
          have y1 := HX.out.a15.cell 1
          have y2 := HX.out.a10.cell 0
          have y3 := HX.out.a10.cell 1
          have HMU := Lib.hid (MulQ (N := j) (M := 1) _ _ _ _ wr HX.out.q15 HX.out.q10 (by
            rw [asum1_pz, show asum1 (zk 1) = 2 from rfl]
            exact Nat.le_trans (Nat.mul_le_mul_right 2 (Nat.pow_le_pow_right (by decide) (show j ≤ 3 by omega))) (by decide)) (Eb1_pz j) (fun t ht => by simp [zk] at ht; rcases ht with rfl | rfl <;> decide) (by omega))
          go_wp2_with fail
          refine HMU.out.mono ?_
          rintro e w18 ⟨v18, rfl, hb18, hq18⟩
          obtain ⟨A18, n18, c18, e18⟩ := hq18.form
          subst e18
          have hx := HX.out.below hb18
          have f0 := hx.a15.frozen 0
          have f1 := hx.a15.frozen 1
          have x0 := hx.a15.cell 0
          have x1 := hx.a15.cell 1
          have HNX := Lib.hid (show Bx4 w B10 g11 g13 g15 mz m11 m13 (A18, n18, c18) TX LY (powL (zk 1) (j + 1)) ((w18.setCell ⟨g15, 0, none⟩ (.bool false)).setCell ⟨g15, 1, none⟩ (.slice A18 n18 c18)) from hx.put (m' := (A18, n18, c18)) hq18)
          clear hx hb18 hq18 HMU HX y0 y1 y2 y3
          go_wp2_with fail
          go_roundg (k - (j + 1))
          case measure => omega
          case rel => exact ⟨j + 1, _, by omega, rfl, by go_num, HNX⟩
        · have z1 : ¬ (j : Int) < (k : Int) := by omega
          have hjk : j = k := by omega
          have HPW := Lib.hid (show QL wr (.agg #[.bool false, .slice m.1 m.2.1 m.2.2]) (zk k) from HX.out.q15.congr fun e => by rw [hjk]; exact powL_zk hk3 e)
          have hsm7 : Sm7 cc 0 := fun t ht => by have := HNF.out.sml HSM.out t ht; omega
          have HDQ := Lib.hid (DivQ k hk3 _ _ wr HX.out.q11 HPW.out (by rw [HTX.out]; exact setL_eb hsm7) (by rw [HTX.out]; have := setL_asum cc hsm7; have := (can_bd HNF.out.can HNF.out.eq D0.out.1).1; omega))
          have hup : ∀ e, cf TX e = cvF (cf T) (zk (k - K.toNat)) e := fun e => by
            rw [HTX.out, HTT.out]
            exact setL_up hk3 HKK.out.1 HKK.out.2 cc HGE.out e
          have HUP := Lib.hid (fun (L : List T1) => (show QuL k TX L ↔ QuL K.toNat T L from qu_up hk3 (by have := HKK.out; omega) hup))
          clear hup
          have y0 := HX.out.a15.cell 0
          have y1 := HX.out.a15.cell 1
          have y2 := HX.out.a11.cell 0
          have y3 := HX.out.a11.cell 1
          clear hjk hsm7 HPW
          go_wp2_with fail
          refine HDQ.out.mono ?_
          rintro e w21 ⟨hb21, h21⟩
          have HX2 := Lib.hid (HX.out.below hb21)
          clear HDQ HX hb21 y0 y1 y2 y3
          rcases h21 with ⟨A16, n16, c16, L16, rfl, hq16, hL16⟩ | ⟨rfl, hN16⟩
          · have hq : ∀ e, cf LY e = cf L16 e ∧ fe = 0 := fun e => by
              have h1 := (HUP.out L16).1 hL16
              rcases HY.out with ⟨f0, hL⟩ | ⟨_, _, hN⟩
              · exact ⟨qu_uniq (k := K.toNat) (by have := HKK.out; omega) hL h1 e, f0⟩
              · exact absurd ⟨_, h1⟩ hN
            have hfe : fe = 0 := (hq 0).2
            have HE := Lib.hid (fun W (hb : Below w21.heap.size w21 W) => EqualQ _ _ LY L16 W (HX2.out.q13.below hb) (hq16.below hb) (fun e => (hq e).1))
            have hW : ∀ W, W = w21.alloc (.cells #[.bool false, .slice A16 n16 c16] 34) → Below w21.heap.size w21 W ∧ Arr W w21.heap.size 34 [.bool false, .slice A16 n16 c16] := by
              intro W hW
              subst hW
              exact ⟨(Below.refl _ _).alloc (Nat.le_refl _) _, Arr.new _ _ [_, _]⟩
            go_upto_region 22 with fail
            generalize w21.alloc (.cells #[.bool false, .slice A16 n16 c16] 34) = w23 at hW ⊢
            have HAL := Lib.hid (hW w23 rfl).1
            have a16 := (hW w23 rfl).2
            have HX3 := Lib.hid (HX2.out.below HAL.out)
            have y0 := HX3.out.a13.cell 0
            have y1 := HX3.out.a13.cell 1
            have y2 := a16.cell 0
            have y3 := a16.cell 1
            clear a16
            clear hW
            have zf : (fe == 0) = true := by rw [hfe]; rfl
            have zd : decide (fe = 0) = true := decide_eq_true hfe
            clear hfe hq hq16 hL16 HUP HY
            go_wp2_with fail
            refine (HE.out _ HAL.out).mono ?_
            rintro e w22 ⟨rfl, hb22⟩
            have HBE := Lib.hid (HX3.out.bel.trans (hb22.mono HX3.out.bel.size))
            clear hb22 y0 y1
            go_wp2_with fail
            go_ret
            exact ⟨rfl, HBE.out⟩
          · have hq : LY = [] ∧ fe = 10 := by
              rcases HY.out with ⟨f0, hL⟩ | ⟨f1, h2, _⟩
              · exact absurd ⟨_, (HUP.out LY).2 hL⟩ hN16
              · exact ⟨h2, f1⟩
            obtain ⟨hl0, hfe⟩ := hq
            subst hl0
            have zf : (fe == 10) = true := by rw [hfe]; rfl
            have zd : decide (fe = 10) = true := decide_eq_true hfe
            clear hfe
            have HE := Lib.hid (fun W (hb : Below w21.heap.size w21 W) => EqualQ _ (.agg #[.bool false, .slice none 0 0]) [] [] W (HX2.out.q13.below hb) (QL.zero W) (fun e => rfl))
            have hW : ∀ W, W = w21.alloc (.cells #[.bool false, .slice none 0 0] 34) → Below w21.heap.size w21 W := by
              intro W hW
              subst hW
              exact (Below.refl _ _).alloc (Nat.le_refl _) _
            go_upto_region 22 with fail
            generalize w21.alloc (.cells #[.bool false, .slice none 0 0] 34) = w23 at hW ⊢
            have HAL := Lib.hid (hW w23 rfl)
            have HX3 := Lib.hid (HX2.out.below HAL.out)
            have y0 := HX3.out.a13.cell 0
            have y1 := HX3.out.a13.cell 1
            clear hW
            clear HUP HY hN16
            go_wp2_with fail
            refine (HE.out _ HAL.out).mono ?_
            rintro e w22 ⟨rfl, hb22⟩
            have HBE := Lib.hid (HX3.out.bel.trans (hb22.mono HX3.out.bel.size))
            clear hb22 y0 y1
            go_wp2_with fail
            go_ret
            exact ⟨rfl, HBE.out⟩
end Go.Proofs.YtnmidhlghhephaaGreatDoor
