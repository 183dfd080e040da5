/- laurent.divide at the term 1; Div at the divisor 1; Div of 0. -/
import Derived.Test.YtnmidhlghhephaaGreatDoorWwMua
import Derived.Test.YtnmidhlghhephaaGreatDoorWwEnd
namespace Go.Proofs.YtnmidhlghhephaaGreatDoor
open Go.RowKit
set_option linter.unusedVariables false
theorem elM : ElA Tryz.prog 51 2 tc where
  ex := by
    obtain ⟨i, hi, hz, hs, hb⟩ := info_parts info_term
    exact ⟨i, _, 16, hi, hz, hs, hb, rfl, by omega⟩
  pos := by omega
  len := fun x => rfl
  one := fun x q h => by unfold tc at h; simp at h; rcases h with rfl | rfl <;> rfl
/-- the state of divide -/
structure DvT (w : World) (rb : Nat) (cp cq : List Value) (s : Value) (R : List (Int × Int)) (W : World) : Prop where
  own : OwnA 51 2 tc (w.heap.size + 3) W s R
  rr : Arr W rb 34 [.bool false, s]
  pp : Arr W w.heap.size 34 cp
  qq : Arr W (w.heap.size + 1) 51 cq
  res : Arr W (w.heap.size + 2) 34 [.bool false, .slice none 0 0]
  bel : Below w.heap.size w W
  hrb : w.heap.size + 3 ≤ rb
section
variable {w : World} {rb : Nat} {cp cq : List Value} {s s' : Value} {R : List (Int × Int)} {m : Int × Int} {W W' : World}
theorem DvT.below (h : DvT w rb cp cq s R W) (hb : Below W.heap.size W W') : DvT w rb cp cq s R W' :=
  ⟨h.own.below hb, h.rr.below hb h.rr.lt, h.pp.below hb h.pp.lt, h.qq.below hb h.qq.lt, h.res.below hb h.res.lt, h.bel.trans (hb.mono h.bel.size), h.hrb⟩
theorem DvT.nrr (h : DvT w rb cp cq s R W) : s.ownBlock ≠ some rb := OwnT.apart (base := w.heap.size + 3) h.own h.rr (by decide)
theorem DvT.app (h : DvT w rb cp cq s R W) (ho : OwnA 51 2 tc (w.heap.size + 3) W' s' (R ++ [m])) (hk : Kpt (w.heap.size + 3) W W' s s') : DvT w rb cp cq s' (R ++ [m]) (W'.setCell ⟨rb, 1, none⟩ s') := by
  have h1 := h.hrb
  have n1 := h.nrr
  have n2 : ∀ k, k < w.heap.size + 3 → s.ownBlock ≠ some k := fun k hk e => by have := h.own.block k e; omega
  have rr := hk.arr h.rr n1
  refine ⟨ho.keepK fun k hk' => Below.heap_setCell _ _ _ _ (fun e => ?_), rr.set 1 s', (hk.arr h.pp (n2 _ (by omega))).far (p := ⟨rb, 1, none⟩) (show w.heap.size ≠ rb by omega) _, (hk.arr h.qq (n2 _ (by omega))).far (p := ⟨rb, 1, none⟩) (show w.heap.size + 1 ≠ rb by omega) _, (hk.arr h.res (n2 _ (by omega))).far (p := ⟨rb, 1, none⟩) (show w.heap.size + 2 ≠ rb by omega) _, (h.bel.trans (hk.bel.mono (by omega))).setCell (p := ⟨rb, 1, none⟩) (show w.heap.size ≤ rb by omega) _, h1⟩
  have e2 : k = rb := e
  rw [e2] at hk'
  exact OwnT.apart (base := w.heap.size + 3) ho rr (by decide) hk'
end
set_option maxHeartbeats 2000000 in
set_option maxRecDepth 100000 in
theorem divide_one (vp : Value) (p : List (Int × Int)) (w : World) (hp : PolyV w vp (some p)) (lp : Lim p) (kp : Can p) (hnp : 0 < p.length) :
    Calls Tryz.prog 31 #[vp, .agg #[.int .i64 0, .int .i64 1]] w fun e w' => ∃ v, e = .returned (.tuple #[v, .int .i64 0]) ∧ Below w.heap.size w w' ∧ PolyV w' v (some p) := by
  have HPV := Lib.hid (fun W (hb : Below w.heap.size w W) => hp.below hb)
  have HLM := Lib.hid (And.intro lp kp)
  have hp2 := hp
  obtain ⟨A, c, rfl, hp3⟩ := hp2
  simp only [Option.isNone_some, Option.getD_some] at HPV hp3 ⊢
  obtain ⟨pb, po, hA, _⟩ := hp3.at_ (k := 0) hnp
  subst hA
  have HPC := Lib.hid (fun W (hb : Below w.heap.size w W) (k : Nat) (hk : k < p.length) => (hp3.below hb).cells hk)
  clear hp3
  have hlen := lp.len kp
  obtain ⟨n, hn⟩ : ∃ n, n = p.length := ⟨_, rfl⟩
  rw [← hn] at HPV hlen hnp ⊢
  have HN := Lib.hid hn
  have hW : ∀ W, W = (((w.alloc (.cells #[.bool false, .slice (some ⟨pb, po, none⟩) n c] 34)).alloc (.cells #[.int .i64 0, .int .i64 1] 51)).alloc (.cells #[.bool false, .slice none 0 0] 34)) → Arr W w.heap.size 34 [.bool false, .slice (some ⟨pb, po, none⟩) n c] ∧ Arr W (w.heap.size + 1) 51 [.int .i64 0, .int .i64 1] ∧ Arr W (w.heap.size + 2) 34 [.bool false, .slice none 0 0] ∧ Below w.heap.size w W ∧ W.heap.size = w.heap.size + 3 := by
    intro W hW
    subst hW
    exact ⟨((Arr.new _ _ [_, _]).alloc _).alloc _, (Arr.newAt (w.alloc _) _ [_, _] _ (by simp)).alloc _, Arr.newAt ((w.alloc _).alloc _) _ [_, _] _ (by simp), (((Below.refl _ _).alloc (Nat.le_refl _) _).alloc (by simp) _).alloc (by simp <;> omega) _, by simp⟩
  clear hp lp kp hn
  go_enter Tryz.func31, Tryz.ntmps31
  go_upto_region 1 with fail
  generalize (((w.alloc (.cells #[.bool false, .slice (some ⟨pb, po, none⟩) n c] 34)).alloc (.cells #[.int .i64 0, .int .i64 1] 51)).alloc (.cells #[.bool false, .slice none 0 0] 34)) = w3 at hW ⊢
  obtain ⟨q0, q1, q2, hb3, hs3⟩ := hW w3 rfl
  clear hW
  have y0 := q0.cell 0
  have y1 := q0.cell 1
  obtain ⟨cs0, hmk, hcs⟩ := run_make_terms n (by omega) w3
  have HS3 := Lib.hid hs3
  clear hs3
  go_upto_region 2 with fail
  have hs3 := HS3.out
  have hW : ∀ W, W = ((w3.alloc (.cells cs0 51)).alloc (.cells #[.bool false, .slice (some ⟨w3.heap.size, 0, none⟩) 0 n] 34)) → DvT w (w3.heap.size + 1) [.bool false, .slice (some ⟨pb, po, none⟩) n c] [.int .i64 0, .int .i64 1] (.slice (some ⟨w3.heap.size, 0, none⟩) 0 n) [] W := by
    intro W hW
    subst hW
    have h1 : OwnT (w.heap.size + 3) (w3.alloc (.cells cs0 51)) (.slice (some ⟨w3.heap.size, 0, none⟩) 0 n) [] := ⟨rfl, .inr ⟨w3.heap.size, n, cs0, rfl, by omega, heap_alloc_new w3 _, Nat.zero_le _, by unfold maxLen; omega, hcs, rfl⟩⟩
    exact ⟨h1.below ((Below.refl _ _).alloc (Nat.le_refl _) _), Arr.newAt (w3.alloc _) _ [_, _] _ (by simp), (q0.alloc _).alloc _, (q1.alloc _).alloc _, (q2.alloc _).alloc _, (hb3.alloc (by omega) _).alloc (by simp; omega) _, by omega⟩
  generalize ((w3.alloc (.cells cs0 51)).alloc (.cells #[.bool false, .slice (some ⟨w3.heap.size, 0, none⟩) 0 n] 34)) = w5 at hW ⊢
  have HST0 := Lib.hid (hW w5 rfl)
  clear hs3
  obtain ⟨rb, hrb⟩ : ∃ r, r = w3.heap.size + 1 := ⟨_, rfl⟩
  obtain ⟨s0, hs0⟩ : ∃ s, s = Value.slice (some ⟨w3.heap.size, 0, none⟩) 0 n := ⟨_, rfl⟩
  rw [← hrb, ← hs0] at HST0
  rw [← hrb]
  have y0 := HST0.out.pp.cell 0
  have y1 := HST0.out.pp.cell 1
  clear HS3 hW hrb hs0 q0 q1 q2 hb3 hmk hcs
  go_upto_region 3 with fail
  go_loopg [8, 9, 18] n (fun gk s8 s9 s18 wr => ∃ (k : Nat) (s : Value), k ≤ n ∧ gk = n - k ∧ s18 = .int .i64 (k : Int) ∧ DvT w rb [.bool false, .slice (some ⟨pb, po, none⟩) n c] [.int .i64 0, .int .i64 1] s (p.take k) wr)
  case atStart => exact ⟨0, s0, Nat.zero_le _, rfl, rfl, by rw [List.take_zero]; exact HST0.out⟩
  case round =>
    clear HST0 y0 y1
    obtain ⟨k, s, hk, rfl, rfl, hst⟩ := hrel
    by_cases hlt : k < n
    · have z1 : (k : Int) < (n : Int) := by omega
      have hkp : k < p.length := by rw [← HN.out]; exact hlt
      obtain ⟨c0, c1⟩ := HPC.out wr hst.bel k hkp
      obtain ⟨te, hte⟩ : ∃ x, x = p[k].1 := ⟨_, rfl⟩
      obtain ⟨tcc, htc⟩ : ∃ x, x = p[k].2 := ⟨_, rfl⟩
      have hex := HLM.out.1.ex p[k] (List.getElem_mem hkp)
      have hco := HLM.out.1.co p[k] (List.getElem_mem hkp)
      rw [← hte] at hex c0
      rw [← htc] at hco c1
      have HTK := Lib.hid (show p.take (k + 1) = p.take k ++ [(te, tcc)] from by rw [hte, htc]; exact List.take_succ_eq_append_getElem hkp)
      have HQO := Lib.hid (show tcc.tdiv 1 = tcc from Int.tdiv_one _)
      have HQW := Lib.hid (show IntKind.i64.wrap tcc = tcc from IntWalk.i64_in _ (by omega))
      have hmo : tcc.tmod 1 = 0 := Int.tmod_one _
      have hws : IntKind.i64.wrap (te - 0) = te := by rw [Int.sub_zero]; exact IntWalk.i64_in _ (by omega)
      have hwi : wiB te 1048576 = true := decide_eq_true (by omega)
      have HWI := Lib.hid (fun W => within_any te 1048576 W (by decide) (by decide))
      rw [hwi] at HWI
      have HS0 := Lib.hid hst
      have HRL := Lib.hid (show (p.take k).length ≤ 10000000 from by rw [List.length_take]; omega)
      obtain ⟨As, cs, hs⟩ := hst.own.form
      subst hs
      have hX9 : ∀ W, W = wr.alloc (.cells #[.int .i64 te, .int .i64 tcc] 51) → Arr W wr.heap.size 51 [.int .i64 te, .int .i64 tcc] ∧ DvT w rb [.bool false, .slice (some ⟨pb, po, none⟩) n c] [.int .i64 0, .int .i64 1] (.slice As (p.take k).length cs) (p.take k) W := by
        intro W hW
        subst hW
        exact ⟨Arr.new wr _ [_, _], HS0.out.below ((Below.refl _ _).alloc (Nat.le_refl _) _)⟩
      clear hst hkp hte htc
      go_upto_region 5 with fail
      generalize wr.alloc (.cells #[.int .i64 te, .int .i64 tcc] 51) = w9 at hX9 ⊢
      obtain ⟨qt, hd9⟩ := hX9 w9 rfl
      generalize wr.heap.size = tb at qt ⊢
      have QT := Lib.hid qt
      have x0 := qt.cell 0
      have x1 := qt.cell 1
      have u0 := hd9.qq.cell 0
      have u1 := hd9.qq.cell 1
      have HST := Lib.hid hd9
      clear hX9 qt hd9 HS0 z1 c0 c1
      go_wp2_with fail
      refine (HWI.out _).mono ?_
      rintro e w10 ⟨rfl, rfl⟩
      have HNE := Lib.hid HST.out.nrr
      have HSZ := Lib.hid (show w.heap.size + 3 ≤ w9.heap.size from by have := HST.out.rr.lt; have := HST.out.hrb; omega)
      generalize p.take k = R at *
      clear HWI hwi
      go_upto_region 8 with fail
      clear x0 x1 u0 u1 hws hmo
      refine wp_region_factsU (by kernel_rfl) (by kernel_rfl) (by kernel_rfl) (by kernel_rfl) (by kernel_rfl) (ApS 51 2 tc (w.heap.size + 3) w9 (fun i => ([some (.pointer (some ⟨rb, 1, none⟩)), some (.slice As R.length cs), some (.int .i64 (te)), some (.pointer (some ⟨tb, 1, none⟩)), some (.int .i64 (tcc)), some (.pointer (some ⟨w.heap.size + 1, 1, none⟩)), some (.int .i64 (1)), some (.int .i64 (tcc)), some (.agg #[.int .i64 te, .int .i64 tcc]), none, none, some (.pointer (some ⟨rb, 1, none⟩)), none] : List (Option Value)).getD i none) 9 10 12 (.slice As R.length cs) (⟨rb, 1, none⟩) (R) ([(te, tcc)])) (fun x => ApS.start) ⟨?_, ?_, ?_, ?_, ?_, ?_, ?_, ?_, ?_, ?_, ?_, ?_, ?_, trivial⟩ ?_
      · intro D x w1 bA hI hD hdep hcl hb
        have e6 : bA.tmps[6]?.getD undef = .pointer (some ⟨rb, 0, none⟩) := hb 6
        refine wp_of_run (.pointer (some ⟨rb, 1, none⟩)) (w' := w1) ?_ (hI.val rfl (by decide) (by decide) (by decide))
        clear hb hI hdep hcl
        go_simp
      · intro D x w1 bA hI hD hdep hcl hb
        have hq10 : D 10 = false := by cases h : D 10 with | false => rfl | true => (have := hcl 10 h 1 (by decide); rw [hD] at this; cases this)
        have hqf : D 12 = false := by cases h : D 12 with | false => rfl | true => (have := hcl 12 h 10 (by decide); rw [hq10] at this; cases this)
        have hpre := hI.pre hq10 hqf
        have e39 : bA.tmps[39]?.getD undef = .pointer (some ⟨rb, 1, none⟩) := (hb 39).trans (hI.kn 0 _ rfl (hdep 0 (by decide)))
        have yt0 := (HST.out.below hpre).rr.cell 0
        have yt1 := (HST.out.below hpre).rr.cell 1
        refine wp_of_run (.slice As R.length cs) (w' := w1) ?_ (hI.val rfl (by decide) (by decide) (by decide))
        clear hb hI hdep hcl
        go_simp
      · intro D x w1 bA hI hD hdep hcl hb
        have e9 : bA.tmps[9]?.getD undef = .int .i64 (te) := hb 9
        refine wp_of_run (.int .i64 (te)) (w' := w1) ?_ (hI.val rfl (by decide) (by decide) (by decide))
        clear hb hI hdep hcl
        go_simp
      · intro D x w1 bA hI hD hdep hcl hb
        have e8 : bA.tmps[8]?.getD undef = .pointer (some ⟨tb, 0, none⟩) := hb 8
        refine wp_of_run (.pointer (some ⟨tb, 1, none⟩)) (w' := w1) ?_ (hI.val rfl (by decide) (by decide) (by decide))
        clear hb hI hdep hcl
        go_simp
      · intro D x w1 bA hI hD hdep hcl hb
        have hq7 : D 7 = false := by cases h : D 7 with | false => rfl | true => (have := hcl 7 h 4 (by decide); rw [hD] at this; cases this)
        have hq8 : D 8 = false := by cases h : D 8 with | false => rfl | true => (have := hcl 8 h 7 (by decide); rw [hq7] at this; cases this)
        have hq9 : D 9 = false := by cases h : D 9 with | false => rfl | true => (have := hcl 9 h 8 (by decide); rw [hq8] at this; cases this)
        have hq10 : D 10 = false := by cases h : D 10 with | false => rfl | true => (have := hcl 10 h 9 (by decide); rw [hq9] at this; cases this)
        have hqf : D 12 = false := by cases h : D 12 with | false => rfl | true => (have := hcl 12 h 10 (by decide); rw [hq10] at this; cases this)
        have hpre := hI.pre hq10 hqf
        have e42 : bA.tmps[42]?.getD undef = .pointer (some ⟨tb, 1, none⟩) := (hb 42).trans (hI.kn 3 _ rfl (hdep 3 (by decide)))
        have yt0 := (QT.out.below hpre QT.out.lt).cell 0
        have yt1 := (QT.out.below hpre QT.out.lt).cell 1
        refine wp_of_run (.int .i64 (tcc)) (w' := w1) ?_ (hI.val rfl (by decide) (by decide) (by decide))
        clear hb hI hdep hcl
        go_simp
      · intro D x w1 bA hI hD hdep hcl hb
        have e3 : bA.tmps[3]?.getD undef = .pointer (some ⟨w.heap.size + 1, 0, none⟩) := hb 3
        refine wp_of_run (.pointer (some ⟨w.heap.size + 1, 1, none⟩)) (w' := w1) ?_ (hI.val rfl (by decide) (by decide) (by decide))
        clear hb hI hdep hcl
        go_simp
      · intro D x w1 bA hI hD hdep hcl hb
        have hq7 : D 7 = false := by cases h : D 7 with | false => rfl | true => (have := hcl 7 h 6 (by decide); rw [hD] at this; cases this)
        have hq8 : D 8 = false := by cases h : D 8 with | false => rfl | true => (have := hcl 8 h 7 (by decide); rw [hq7] at this; cases this)
        have hq9 : D 9 = false := by cases h : D 9 with | false => rfl | true => (have := hcl 9 h 8 (by decide); rw [hq8] at this; cases this)
        have hq10 : D 10 = false := by cases h : D 10 with | false => rfl | true => (have := hcl 10 h 9 (by decide); rw [hq9] at this; cases this)
        have hqf : D 12 = false := by cases h : D 12 with | false => rfl | true => (have := hcl 12 h 10 (by decide); rw [hq10] at this; cases this)
        have hpre := hI.pre hq10 hqf
        have e44 : bA.tmps[44]?.getD undef = .pointer (some ⟨w.heap.size + 1, 1, none⟩) := (hb 44).trans (hI.kn 5 _ rfl (hdep 5 (by decide)))
        have yt0 := (HST.out.below hpre).qq.cell 0
        have yt1 := (HST.out.below hpre).qq.cell 1
        refine wp_of_run (.int .i64 (1)) (w' := w1) ?_ (hI.val rfl (by decide) (by decide) (by decide))
        clear hb hI hdep hcl
        go_simp
      · intro D x w1 bA hI hD hdep hcl hb
        have e43 : bA.tmps[43]?.getD undef = .int .i64 (tcc) := (hb 43).trans (hI.kn 4 _ rfl (hdep 4 (by decide)))
        have e45 : bA.tmps[45]?.getD undef = .int .i64 (1) := (hb 45).trans (hI.kn 6 _ rfl (hdep 6 (by decide)))
        have cw := HQO.out
        have cw2 := HQW.out
        refine wp_of_run (.int .i64 (tcc)) (w' := w1) ?_ (hI.val rfl (by decide) (by decide) (by decide))
        clear hb hI hdep hcl
        go_simp
      · intro D x w1 bA hI hD hdep hcl hb
        have e41 : bA.tmps[41]?.getD undef = .int .i64 (te) := (hb 41).trans (hI.kn 2 _ rfl (hdep 2 (by decide)))
        have e46 : bA.tmps[46]?.getD undef = .int .i64 (tcc) := (hb 46).trans (hI.kn 7 _ rfl (hdep 7 (by decide)))
        refine wp_of_run (.agg #[.int .i64 te, .int .i64 tcc]) (w' := w1) ?_ (hI.val rfl (by decide) (by decide) (by decide))
        clear hb hI hdep hcl
        go_simp
      · intro D x w1 bA hI hD hdep hcl hb
        have hq10 : D 10 = false := by cases h : D 10 with | false => rfl | true => (have := hcl 10 h 9 (by decide); rw [hD] at this; cases this)
        have hqf : D 12 = false := by cases h : D 12 with | false => rfl | true => (have := hcl 12 h 10 (by decide); rw [hq10] at this; cases this)
        have e47 : bA.tmps[47]?.getD undef = .agg #[.int .i64 te, .int .i64 tcc] := (hb 47).trans (hI.kn 8 _ rfl (hdep 8 (by decide)))
        refine wp_of_run (.slice (some ⟨w1.heap.size, 0, none⟩) 1 1) (w' := w1.alloc (.cells #[.int .i64 te, .int .i64 tcc] 51)) ?_ (hI.call rfl (by decide) (by decide) hq10 hqf ((Below.refl _ _).alloc (Nat.le_refl _) _) (OwnA.lit (xs := [(te, tcc)]) (fun y _ => elM.len y) (Nat.le_refl _) (by simp) (by simp)))
        clear hb hI hdep hcl
        go_simp
      · intro D x w1 bA hI hD hdep hcl hb
        have hqf : D 12 = false := by cases h : D 12 with | false => rfl | true => (have := hcl 12 h 10 (by decide); rw [hD] at this; cases this)
        have e40 : bA.tmps[40]?.getD undef = .slice As R.length cs := (hb 40).trans (hI.kn 1 _ rfl (hdep 1 (by decide)))
        have e48 : bA.tmps[48]?.getD undef = x 9 := hb 48
        exact hI.app elM (.tmp 40) (.tmp 48) 32 32 rfl Tryz.underlying32 Tryz.underlying32 rfl (by decide) (by decide) (hdep 9 (by decide)) hD hqf (by simpa [Act.eval] using e40) (by simpa [Act.eval] using e48) (HST.out.own) (HSZ.out) (by have := HRL.out; simp; omega)
      · intro D x w1 bA hI hD hdep hcl hb
        have e6 : bA.tmps[6]?.getD undef = .pointer (some ⟨rb, 0, none⟩) := hb 6
        refine wp_of_run (.pointer (some ⟨rb, 1, none⟩)) (w' := w1) ?_ (hI.val rfl (by decide) (by decide) (by decide))
        clear hb hI hdep hcl
        go_simp
      · intro D x w1 bA hI hD hdep hcl hb
        have hda : D 10 = true := hdep 10 (by decide)
        have e50 : bA.tmps[50]?.getD undef = .pointer (some ⟨rb, 1, none⟩) := (hb 50).trans (hI.kn 11 _ rfl (hdep 11 (by decide)))
        have e49 : bA.tmps[49]?.getD undef = x 10 := hb 49
        have hst := hI.store rfl hda hD undef
        obtain ⟨hm1, hm2⟩ := hI.mid hda hD
        have qarr := hm2.arr (HST.out.rr) (HNE.out)
        have qy := qarr.cell 1
        have qf := qarr.frozen 1
        obtain ⟨AF, cF, eF⟩ := hm1.form
        generalize x 10 = xA at *
        subst eF
        refine wp_of_skip ?_ hst
        clear hb hI hdep hcl hst hm1 hm2 qarr
        go_simp
      intro D x w1 hI hall
      obtain ⟨wS, vS, hwS, hownS, hkptS⟩ := hI.fin (hall 12 (by simp))
      have x0e : x 0 = .pointer (some ⟨rb, 1, none⟩) := hI.kn 0 _ rfl (hall 0 (by simp))
      have x1e : x 1 = .slice As R.length cs := hI.kn 1 _ rfl (hall 1 (by simp))
      have x2e : x 2 = .int .i64 (te) := hI.kn 2 _ rfl (hall 2 (by simp))
      have x3e : x 3 = .pointer (some ⟨tb, 1, none⟩) := hI.kn 3 _ rfl (hall 3 (by simp))
      have x4e : x 4 = .int .i64 (tcc) := hI.kn 4 _ rfl (hall 4 (by simp))
      have x5e : x 5 = .pointer (some ⟨w.heap.size + 1, 1, none⟩) := hI.kn 5 _ rfl (hall 5 (by simp))
      have x6e : x 6 = .int .i64 (1) := hI.kn 6 _ rfl (hall 6 (by simp))
      have x7e : x 7 = .int .i64 (tcc) := hI.kn 7 _ rfl (hall 7 (by simp))
      have x8e : x 8 = .agg #[.int .i64 te, .int .i64 tcc] := hI.kn 8 _ rfl (hall 8 (by simp))
      have x11e : x 11 = .pointer (some ⟨rb, 1, none⟩) := hI.kn 11 _ rfl (hall 11 (by simp))
      simp only [putAll, dstOf, Act.put, List.map_cons, List.map_nil, List.setIfInBounds_toArray, List.set_cons_succ, List.set_cons_zero, Nat.reduceAdd, x0e, x1e, x2e, x3e, x4e, x5e, x6e, x7e, x8e, x11e]
      clear x0e x1e x2e x3e x4e x5e x6e x7e x8e x11e hI hall
      generalize x 10 = xA, x 9 = xC
      have HN4 := Lib.hid (show DvT w rb [.bool false, .slice (some ⟨pb, po, none⟩) n c] [.int .i64 0, .int .i64 1] vS (R ++ [(te, tcc)]) w1 from by rw [hwS]; exact HST.out.app hownS hkptS)
      clear hwS hownS hkptS
      go_wp2_with fail
      go_roundg (n - (k + 1))
      case measure => omega
      case rel => exact ⟨k + 1, _, by omega, rfl, by go_num, by rw [HTK.out]; exact HN4.out⟩
    · have z1 : ¬ (k : Int) < (n : Int) := by omega
      obtain rfl : k = n := by omega
      have htk : p.take k = p := by rw [HN.out]; exact List.take_length
      rw [htk] at hst
      obtain ⟨Ax, cx, hs⟩ := hst.own.form
      subst hs
      have qr := hst.res
      have q1 := hst.rr
      have y0 := q1.cell 0
      have y1 := q1.cell 1
      have f0 := qr.frozen 0
      have f1 := qr.frozen 1
      have x0 := qr.cell 0
      have x1 := qr.cell 1
      have HRS := Lib.hid ((qr.set 0 (.bool false)).set 1 (.slice Ax p.length cx))
      have HPB := Lib.hid ((PolyV.own (base := w.heap.size + 3) hst.own).box qr (.bool false) (.slice Ax p.length cx))
      have HBE := Lib.hid ((hst.bel.setCell (p := ⟨w.heap.size + 2, 0, none⟩) (by show w.heap.size ≤ w.heap.size + 2; omega) (.bool false)).setCell (p := ⟨w.heap.size + 2, 1, none⟩) (by show w.heap.size ≤ w.heap.size + 2; omega) (.slice Ax p.length cx))
      clear hst qr q1 htk
      go_wp2_with fail
      refine bodyPost_ret (v := .tuple #[.agg #[.bool false, .slice Ax p.length cx], .int .i64 0]) (results_ct Tryz.results31 _ _ (w.heap.size + 2) 34 _ _ rfl HRS.out Tryz.underlying34 rfl info_poly) rfl ?_
      exact ⟨_, rfl, HBE.out, HPB.out⟩
set_option maxHeartbeats 2000000 in
set_option maxRecDepth 100000 in
/-- Div of 0 -/
theorem Div_zero (vp vq : Value) (q : List (Int × Int)) (w : World) (hp : PolyV w vp (some [])) (hq : PolyV w vq (some q)) (hnq : 0 < q.length) (hlq : q.length ≤ 2097153) :
    Calls Tryz.prog 12 #[vp, vq] w fun e w' => ∃ v, e = .returned (.tuple #[v, .int .i64 0]) ∧ Below w.heap.size w w' ∧ PolyV w' v (some []) := by
  obtain ⟨A, c, rfl, -⟩ := hp
  obtain ⟨A2, c2, rfl, -⟩ := hq
  simp only [Option.isNone_some, Option.getD_some, List.length_nil]
  obtain ⟨n2, hn2⟩ : ∃ n, n = q.length := ⟨_, rfl⟩
  rw [← hn2] at hnq hlq ⊢
  have hW : ∀ W, W = (((w.alloc (.cells #[.bool false, .slice A 0 c] 34)).alloc (.cells #[.bool false, .slice A2 n2 c2] 34)).alloc (.cells #[.bool false, .slice none 0 0] 34)) → Arr W w.heap.size 34 [.bool false, .slice A 0 c] ∧ Arr W (w.heap.size + 1) 34 [.bool false, .slice A2 n2 c2] ∧ Arr W (w.heap.size + 2) 34 [.bool false, .slice none 0 0] ∧ Below w.heap.size w W := by
    intro W hW
    subst hW
    exact ⟨((Arr.new _ _ [_, _]).alloc _).alloc _, (Arr.newAt (w.alloc _) _ [_, _] _ (by simp)).alloc _, Arr.newAt ((w.alloc _).alloc _) _ [_, _] _ (by simp), (((Below.refl _ _).alloc (Nat.le_refl _) _).alloc (by simp) _).alloc (by simp <;> omega) _⟩
  have zn2 : ((n2 : Int) == 0) = false := by simp; omega
  clear hn2
  go_enter Tryz.func12, Tryz.ntmps12
  go_upto_region 1 with fail
  generalize (((w.alloc (.cells #[.bool false, .slice A 0 c] 34)).alloc (.cells #[.bool false, .slice A2 n2 c2] 34)).alloc (.cells #[.bool false, .slice none 0 0] 34)) = w3 at hW ⊢
  obtain ⟨q0, q1, q2, hb3⟩ := hW w3 rfl
  clear hW
  have y0 := q0.cell 0
  have y1 := q0.cell 1
  have y2 := q1.cell 0
  have y3 := q1.cell 1
  have x0 := q2.cell 0
  have x1 := q2.cell 1
  have f0 := q2.frozen 0
  have f1 := q2.frozen 1
  have HRS := Lib.hid ((q2.set 0 (.bool false)).set 1 (.slice none 0 0))
  have HBE := Lib.hid ((hb3.setCell (p := ⟨w.heap.size + 2, 0, none⟩) (by show w.heap.size ≤ w.heap.size + 2; omega) (.bool false)).setCell (p := ⟨w.heap.size + 2, 1, none⟩) (by show w.heap.size ≤ w.heap.size + 2; omega) (.slice none 0 0))
  clear q0 q1 q2 hb3
  go_wp2_with fail
  refine bodyPost_ret (v := .tuple #[.agg #[.bool false, .slice none 0 0], .int .i64 0]) (results_ct Tryz.results12 _ _ (w.heap.size + 2) 34 _ _ rfl HRS.out Tryz.underlying34 rfl info_poly) rfl ?_
  exact ⟨_, rfl, HBE.out, PolyV.zero _⟩
set_option maxHeartbeats 2000000 in
set_option maxRecDepth 100000 in
/-- Div at the divisor 1 -/
theorem Div_one (vp vq : Value) (p : List (Int × Int)) (w : World) (hp : PolyV w vp (some p)) (hq : PolyV w vq (some [(0, 1)])) (lp : Lim p) (kp : Can p) (hnp : 0 < p.length) :
    Calls Tryz.prog 12 #[vp, vq] w fun e w' => ∃ v, e = .returned (.tuple #[v, .int .i64 0]) ∧ Below w.heap.size w w' ∧ PolyV w' v (some p) := by
  have HDV0 := Lib.hid (fun W (hb : Below w.heap.size w W) => divide_one vp p W (hp.below hb) lp kp hnp)
  have hlen := lp.len kp
  obtain ⟨A, c, rfl, -⟩ := hp
  obtain ⟨A2, c2, rfl, hq3⟩ := hq
  simp only [Option.isNone_some, Option.getD_some, List.length_cons, List.length_nil, Nat.zero_add] at hq3 HDV0 ⊢
  obtain ⟨qb, qo, hA2, -⟩ := hq3.at_ (k := 0) (by simp)
  subst hA2
  have HQC0 := Lib.hid (fun W (hb : Below w.heap.size w W) => (show W.cell? ⟨qb, qo, none⟩ = some (.int .i64 0) ∧ W.cell? ⟨qb, qo + 1, none⟩ = some (.int .i64 1) from by
    have h := (hq3.below hb).cells (k := 0) (by simp)
    simpa using h))
  obtain ⟨n, hn⟩ : ∃ n, n = p.length := ⟨_, rfl⟩
  rw [← hn] at hnp hlen HDV0 ⊢
  clear hq3
  obtain ⟨m1, hm1⟩ : ∃ m : Nat, m = 1 := ⟨_, rfl⟩
  rw [← hm1]
  have zm0 : ((m1 : Int) == 0) = false := by simp; omega
  have zm1 : ((m1 : Int) == 1) = true := by simp; omega
  have HM1 := Lib.hid (show m1 ≠ 0 by omega)
  have hW : ∀ W, W = (((w.alloc (.cells #[.bool false, .slice A n c] 34)).alloc (.cells #[.bool false, .slice (some ⟨qb, qo, none⟩) m1 c2] 34)).alloc (.cells #[.bool false, .slice none 0 0] 34)) → Arr W w.heap.size 34 [.bool false, .slice A n c] ∧ Arr W (w.heap.size + 1) 34 [.bool false, .slice (some ⟨qb, qo, none⟩) m1 c2] ∧ Arr W (w.heap.size + 2) 34 [.bool false, .slice none 0 0] ∧ Below w.heap.size w W := by
    intro W hW
    subst hW
    exact ⟨((Arr.new _ _ [_, _]).alloc _).alloc _, (Arr.newAt (w.alloc _) _ [_, _] _ (by simp)).alloc _, Arr.newAt ((w.alloc _).alloc _) _ [_, _] _ (by simp), (((Below.refl _ _).alloc (Nat.le_refl _) _).alloc (by simp) _).alloc (by simp <;> omega) _⟩
  have zn : ((n : Int) == 0) = false := by simp; omega
  clear hn lp kp hm1 hlen
  go_enter Tryz.func12, Tryz.ntmps12
  go_upto_region 1 with fail
  generalize (((w.alloc (.cells #[.bool false, .slice A n c] 34)).alloc (.cells #[.bool false, .slice (some ⟨qb, qo, none⟩) m1 c2] 34)).alloc (.cells #[.bool false, .slice none 0 0] 34)) = w3 at hW ⊢
  obtain ⟨q0, q1, q2, hb3⟩ := hW w3 rfl
  clear hW
  have y0 := q0.cell 0
  have y1 := q0.cell 1
  have y2 := q1.cell 0
  have y3 := q1.cell 1
  have Q0 := Lib.hid q0
  have Q1 := Lib.hid q1
  have Q2 := Lib.hid q2
  have HB3 := Lib.hid hb3
  have HDV := Lib.hid (fun W (hb : Below w3.heap.size w3 W) => HDV0.out W (HB3.out.trans (hb.mono HB3.out.size)))
  have HQC := Lib.hid (fun W (hb : Below w3.heap.size w3 W) => (HQC0.out W (HB3.out.trans (hb.mono HB3.out.size))))
  clear HDV0 HQC0 q0 q1 q2 hb3
  go_upto_region 8 with fail
  clear y0 y1 y2 y3 zn zm0 zm1
  refine wp_region_phim 8 (fun i => decide (i = 7) || decide (i = 9)) (by kernel_rfl) (by kernel_rfl) (by kernel_rfl) (by kernel_rfl) (by kernel_rfl) rfl (by simp) (by kernel_rfl) (fun i => ([some (.agg #[.bool false, .slice A n c]), some (.pointer (some ⟨w.heap.size + 1, 1, none⟩)), some (.slice (some ⟨qb, qo, none⟩) m1 c2), some (.pointer (some ⟨qb, qo, none⟩)), some (.agg #[.int .i64 0, .int .i64 1]), none, none, some (.int .i64 0), none, some (.int .i64 0)] : List (Option Value)).getD i none) (phiT (fun i => ([some (.agg #[.bool false, .slice A n c]), some (.pointer (some ⟨w.heap.size + 1, 1, none⟩)), some (.slice (some ⟨qb, qo, none⟩) m1 c2), some (.pointer (some ⟨qb, qo, none⟩)), some (.agg #[.int .i64 0, .int .i64 1]), none, none, some (.int .i64 0), none, some (.int .i64 0)] : List (Option Value)).getD i none) (fun i v w => (if i = 5 then (fun v w => ∃ (A' : Option Addr) (k' c' : Nat), v = .tuple #[.agg #[.bool false, .slice A' k' c'], .int .i64 0] ∧ PolyV w (.agg #[.bool false, .slice A' k' c']) (some p)) v w else (if i = 6 then (fun v w => ∃ (A' : Option Addr) (k' c' : Nat), v = .agg #[.bool false, .slice A' k' c'] ∧ PolyV w v (some p)) v w else True)))) (fun i v w w' h hb => ?_) (fun i u v w h he => ?_) (fun x W => ∃ (A' : Option Addr) (k' c' : Nat), Arr W (w.heap.size + 2) 34 [.bool false, .slice A' k' c'] ∧ PolyV W (.agg #[.bool false, .slice A' k' c']) (some p) ∧ Below w.heap.size w W ∧ ∃ u, x 5 = .tuple #[u, .int .i64 0]) (fun x w i v hl h => ?_) ⟨?_, ?_, ?_, ?_, ?_, ?_, ?_, ?_, ?_, ?_, trivial⟩ ?_
  · unfold phiT at h ⊢
    split
    · next u hu => rw [hu] at h; exact h
    · next hu =>
      rw [hu] at h
      simp only at h ⊢
      by_cases q5 : i = 5
      · rw [if_pos q5] at h ⊢; exact (by obtain ⟨A, n, c, h1, h2⟩ := h; exact ⟨A, n, c, h1, h2.below hb⟩)
      · rw [if_neg q5] at h ⊢
        by_cases q6 : i = 6
        · rw [if_pos q6] at h ⊢; exact (by obtain ⟨A, n, c, h1, h2⟩ := h; exact ⟨A, n, c, h1, h2.below hb⟩)
        · rw [if_neg q6] at h ⊢
          trivial
  · exact phiT_val h he
  · simp only [Bool.or_eq_true, decide_eq_true_eq, Bool.false_eq_true] at hl
    rcases hl with rfl | rfl
    · exact by simpa [upd] using h
    · exact by simpa [upd] using h
  · intro x w1 bA hold hb
    refine ⟨fun _ _ hbel hdep => ?_, fun h => absurd h (by decide), fun h => absurd h (by decide)⟩
    have e2 : bA.tmps[2]?.getD undef = .pointer (some ⟨w.heap.size, 0, none⟩) := hb 2
    have cc0 := (Q0.out.below hbel Q0.out.lt).cell 0
    have cc1 := (Q0.out.below hbel Q0.out.lt).cell 1
    refine phi_run (.agg #[.bool false, .slice A n c]) ?_ rfl
    clear hb hdep hold
    go_simp
  · intro x w1 bA hold hb
    refine ⟨fun _ _ hbel hdep => ?_, fun h => absurd h (by decide), fun h => absurd h (by decide)⟩
    have e3 : bA.tmps[3]?.getD undef = .pointer (some ⟨w.heap.size + 1, 0, none⟩) := hb 3
    refine phi_run (.pointer (some ⟨w.heap.size + 1, 1, none⟩)) ?_ rfl
    clear hb hdep hold
    go_simp
  · intro x w1 bA hold hb
    refine ⟨fun _ _ hbel hdep => ?_, fun h => absurd h (by decide), fun h => absurd h (by decide)⟩
    have e46 : bA.tmps[46]?.getD undef = .pointer (some ⟨w.heap.size + 1, 1, none⟩) := (hb 46).trans (hdep 1 (by decide))
    have cc0 := (Q1.out.below hbel Q1.out.lt).cell 0
    have cc1 := (Q1.out.below hbel Q1.out.lt).cell 1
    refine phi_run (.slice (some ⟨qb, qo, none⟩) m1 c2) ?_ rfl
    clear hb hdep hold
    go_simp
  · intro x w1 bA hold hb
    refine ⟨fun _ _ hbel hdep => ?_, fun h => absurd h (by decide), fun h => absurd h (by decide)⟩
    have e47 : bA.tmps[47]?.getD undef = .slice (some ⟨qb, qo, none⟩) m1 c2 := (hb 47).trans (hdep 2 (by decide))
    have zz := HM1.out
    refine phi_run (.pointer (some ⟨qb, qo, none⟩)) ?_ rfl
    clear hb hdep hold
    go_simp
  · intro x w1 bA hold hb
    refine ⟨fun _ _ hbel hdep => ?_, fun h => absurd h (by decide), fun h => absurd h (by decide)⟩
    have e48 : bA.tmps[48]?.getD undef = .pointer (some ⟨qb, qo, none⟩) := (hb 48).trans (hdep 3 (by decide))
    have cc := HQC.out w1 hbel
    refine phi_run (.agg #[.int .i64 0, .int .i64 1]) ?_ rfl
    clear hb hdep hold
    go_simp
  · intro x w1 bA hold hb
    refine ⟨fun _ _ hbel hdep => ?_, fun h => absurd h (by decide), fun h => absurd h (by decide)⟩
    have e45 : bA.tmps[45]?.getD undef = .agg #[.bool false, .slice A n c] := (hb 45).trans (hdep 0 (by decide))
    have e49 : bA.tmps[49]?.getD undef = .agg #[.int .i64 0, .int .i64 1] := (hb 49).trans (hdep 4 (by decide))
    refine phi_call ?_ ((HDV.out w1 hbel).mono fun e w' h => (by obtain ⟨v, he, hb', hv⟩ := h; obtain ⟨b5, A5, n5, c5, e5, j5, _⟩ := hv.parts; have j5 : b5 = false := j5; subst j5; subst e5; exact ⟨_, he, hb', A5, n5, c5, rfl, hv⟩))
    clear hb hdep hold
    go_simp
  · intro x w1 bA hold hb
    refine ⟨fun _ _ hbel hdep => ?_, fun h => absurd h (by decide), fun h => absurd h (by decide)⟩
    have p50 := hdep 5 (by decide)
    have e50 : bA.tmps[50]?.getD undef = x 5 := hb 50
    generalize x 5 = x50 at p50 e50
    have P50 := Lib.hid (show (fun v w => ∃ (A' : Option Addr) (k' c' : Nat), v = .tuple #[.agg #[.bool false, .slice A' k' c'], .int .i64 0] ∧ PolyV w (.agg #[.bool false, .slice A' k' c']) (some p)) x50 w1 from p50)
    clear p50
    obtain ⟨A50, n50, c50, e50b, hq50⟩ := P50.out
    have HQ50 := Lib.hid hq50
    subst e50b
    refine phi_run (.agg #[.bool false, .slice A50 n50 c50]) ?_ (⟨A50, n50, c50, rfl, HQ50.out⟩)
    clear hb hdep hold
    go_simp
  · intro x w1 bA hold hb
    refine ⟨fun h => absurd h (by decide), fun h => absurd h (by decide), fun _ hdep hlr => ⟨.int .i64 0, rfl, ?_, rfl⟩⟩
    have h50 : ∃ u, x 5 = .tuple #[u, .int .i64 0] := hlr.elim (fun h => by obtain ⟨_, _, _, _, _, _, u, hu⟩ := h; exact ⟨u, hu⟩) (fun h => by obtain ⟨A, n, c, h1, _⟩ := h.2 5 (by decide); exact ⟨_, h1⟩)
    obtain ⟨u, hu⟩ := h50
    have e50 : bA.tmps[50]?.getD undef = .tuple #[u, .int .i64 0] := (hb 50).trans hu
    clear hb hdep hold hlr
    go_simp
  · intro x w1 bA hold hb
    refine ⟨fun _ h => absurd rfl h, fun _ hbel hdep hall => ?_, fun h => absurd h (by decide)⟩
    have e4 : bA.tmps[4]?.getD undef = .pointer (some ⟨w.heap.size + 2, 0, none⟩) := hb 4
    have p51 := hdep 6 (by decide)
    have e51 : bA.tmps[51]?.getD undef = x 6 := hb 51
    have P51 := Lib.hid (show (fun v w => ∃ (A' : Option Addr) (k' c' : Nat), v = .agg #[.bool false, .slice A' k' c'] ∧ PolyV w v (some p)) (x 6) w1 from p51)
    clear p51
    clear hb hdep hold
    have HX5 := Lib.hid (show ∃ u, x 5 = .tuple #[u, .int .i64 0] from by obtain ⟨A, n, c, h1, _⟩ := hall 5 (by decide) (by decide) (by decide); exact ⟨_, h1⟩)
    clear hall
    obtain ⟨A51, k51, c51, e51b, hq51⟩ := P51.out
    rw [e51b] at e51
    have AG := Lib.hid (Q2.out.below hbel Q2.out.lt)
    have c0 := AG.out.cell 0
    have c1 := AG.out.cell 1
    have f0 := AG.out.frozen 0
    have f1 := AG.out.frozen 1
    have HBL := Lib.hid (HB3.out.trans (hbel.mono HB3.out.size))
    have HQ51 := Lib.hid (e51b ▸ hq51)
    clear e51b hq51 P51 hbel
    refine phl_st (R := fun x W => ∃ (A' : Option Addr) (k' c' : Nat), Arr W (w.heap.size + 2) 34 [.bool false, .slice A' k' c'] ∧ PolyV W (.agg #[.bool false, .slice A' k' c']) (some p) ∧ Below w.heap.size w W ∧ ∃ u, x 5 = .tuple #[u, .int .i64 0]) ((w1.setCell ⟨w.heap.size + 2, 0, none⟩ (.bool false)).setCell ⟨w.heap.size + 2, 1, none⟩ (.slice A51 k51 c51)) ?_ rfl (fun v => ⟨A51, k51, c51, (AG.out.set 0 _).set 1 _, HQ51.out.box AG.out _ _, (HBL.out.setCell (p := ⟨w.heap.size + 2, 0, none⟩) (by show w.heap.size ≤ w.heap.size + 2; omega) _).setCell (p := ⟨w.heap.size + 2, 1, none⟩) (by show w.heap.size ≤ w.heap.size + 2; omega) _, (by simpa [upd] using HX5.out)⟩) rfl
    go_simp
  · intro x w1 bA hold hb
    refine ⟨fun h => absurd h (by decide), fun h => absurd h (by decide), fun _ hdep hlr => ⟨.int .i64 0, rfl, ?_, rfl⟩⟩
    have e52 : bA.tmps[52]?.getD undef = .int .i64 0 := (hb 52).trans (hdep 7 (by decide) _ rfl)
    clear hb hdep hold
    go_simp
  intro x w1 hR hall
  have x0e : x 0 = .agg #[.bool false, .slice A n c] := hall 0 _ (by simp) rfl
  have x1e : x 1 = .pointer (some ⟨w.heap.size + 1, 1, none⟩) := hall 1 _ (by simp) rfl
  have x2e : x 2 = .slice (some ⟨qb, qo, none⟩) m1 c2 := hall 2 _ (by simp) rfl
  have x3e : x 3 = .pointer (some ⟨qb, qo, none⟩) := hall 3 _ (by simp) rfl
  have x4e : x 4 = .agg #[.int .i64 0, .int .i64 1] := hall 4 _ (by simp) rfl
  have x7e : x 7 = .int .i64 0 := hall 7 _ (by simp) rfl
  have x9e : x 9 = .int .i64 0 := hall 9 _ (by simp) rfl
  simp only [putAll, dstOf, Act.put, List.map_cons, List.map_nil, List.setIfInBounds_toArray, List.set_cons_succ, List.set_cons_zero, Nat.reduceAdd, x0e, x1e, x2e, x3e, x4e, x7e, x9e]
  clear x0e x1e x2e x3e x4e x7e x9e hall
  obtain ⟨A5, k5, c5, ag, hpv, hbl, u, hu⟩ := hR
  have HAG := Lib.hid ag
  have HPV := Lib.hid hpv
  have HBL := Lib.hid hbl
  clear ag hpv hbl
  go_wp2_with fail
  refine bodyPost_ret (v := .tuple #[.agg #[.bool false, .slice A5 k5 c5], .int .i64 0]) (results_ct Tryz.results12 _ _ (w.heap.size + 2) 34 _ _ rfl HAG.out Tryz.underlying34 rfl info_poly) rfl ?_
  exact ⟨_, rfl, HBL.out, HPV.out⟩
end Go.Proofs.YtnmidhlghhephaaGreatDoor
