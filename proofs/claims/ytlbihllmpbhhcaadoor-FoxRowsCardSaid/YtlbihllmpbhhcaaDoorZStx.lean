/- Strands of a diagram: cycles, Strands. -/
import Derived.Test.YtlbihllmpbhhcaaDoorZStw
import Derived.Test.YtlbihllmpbhhcaaDoorZMtm
namespace Go.Proofs.YtlbihllmpbhhcaaDoor
open Go.RowKit
set_option linter.unusedVariables false

/-- marks at the members of a list -/
def mkB (bs : List Bool) (l : List Int) : List Bool := l.foldl (fun b y => b.set y.toNat true) bs
theorem mkB_len (l : List Int) : ∀ bs, (mkB bs l).length = bs.length := by
  induction l with
  | nil => intro bs; rfl
  | cons y l ih => intro bs; show (mkB (bs.set y.toNat true) l).length = _; rw [ih, List.length_set]
theorem mkB_snoc (bs : List Bool) (l : List Int) (y : Int) : mkB bs (l ++ [y]) = (mkB bs l).set y.toNat true := by unfold mkB; rw [List.foldl_append]; rfl
theorem mkB_old (l : List Int) : ∀ {bs : List Bool} {x : Nat}, bs[x]? = some true → (mkB bs l)[x]? = some true := by
  induction l with
  | nil => intro bs x h; exact h
  | cons y l ih =>
    intro bs x h
    refine ih (bs := bs.set y.toNat true) ?_
    have hx := (List.getElem?_eq_some_iff.1 h).1
    rw [List.getElem?_set]
    split
    · rw [if_pos (by omega)]
    · exact h
theorem mkB_new (l : List Int) : ∀ {bs : List Bool} {x : Nat}, x < bs.length → (x : Int) ∈ l → (mkB bs l)[x]? = some true := by
  induction l with
  | nil => intro bs x _ h; cases h
  | cons y l ih =>
    intro bs x hx h
    rcases List.mem_cons.1 h with rfl | h
    · refine mkB_old l (bs := bs.set (x : Int).toNat true) ?_
      rw [Int.toNat_natCast, List.getElem?_set]
      simp [hx]
    · exact ih (bs := bs.set y.toNat true) (by rw [List.length_set]; exact hx) h
/-- what has been found -/
structure CyS (N : Nat) (φ : Nat → Nat) (out : Nat → Bool) (bs : List Bool) (hs : List Nat) (lls : List (List Int)) : Prop where
  len : bs.length = N
  cnt : hs.length = lls.length
  hd : ∀ a ∈ hs, a < N ∧ out a = true
  nd : hs.Nodup
  cl : ∀ a ∈ hs, ∀ x, Rl φ a x → bs[x]? = some true
  ap : ∀ a ∈ hs, ∀ b ∈ hs, Rl φ a b → a = b
  rg : ∀ l ∈ lls, l.length ≤ N ∧ ∀ y ∈ l, ∃ x : Nat, y = (x : Int) ∧ x < N
theorem CyS.start (N : Nat) (φ : Nat → Nat) (out : Nat → Bool) : CyS N φ out (List.replicate N false) [] [] :=
  ⟨List.length_replicate, rfl, fun a h => by simp at h, List.nodup_nil, fun a h => by simp at h, fun a h => by simp at h, fun l h => by simp at h⟩
theorem Cyl.rg {N : Nat} {φ : Nat → Nat} {h : Nat} {l : List Int} (c : Cyl φ h l) (hp : PermF N φ) (hh : h < N) : ∀ y ∈ l, ∃ x : Nat, y = (x : Int) ∧ x < N := fun y hy => by
  obtain ⟨j, rfl⟩ := (c y).1 hy
  exact ⟨_, rfl, hp.itr_lt hh j⟩
theorem CyS.next {N : Nat} {φ : Nat → Nat} {out : Nat → Bool} {bs : List Bool} {hs : List Nat} {lls : List (List Int)} (s : CyS N φ out bs hs lls) (hp : PermF N φ) {h : Nat} {l : List Int} (hh : h < N) (hb : bs[h]? = some false) (ho : out h = true) (c : Cyl φ h l) (hlN : l.length ≤ N) : CyS N φ out (mkB bs l) (hs ++ [h]) (lls ++ [l]) := by
  have hno : ∀ a ∈ hs, ¬ Rl φ a h := fun a ha hr => by
    have := s.cl a ha h hr
    rw [hb] at this
    cases this
  refine ⟨(mkB_len _ _).trans s.len, by simp [s.cnt], fun a ha => ?_, ?_, fun a ha x hr => ?_, fun a ha b hb' hr => ?_, fun l' hl => ?_⟩
  · rcases List.mem_append.1 ha with ha | ha
    · exact s.hd a ha
    · rw [List.mem_singleton.1 ha]; exact ⟨hh, ho⟩
  · refine List.nodup_append.2 ⟨s.nd, by simp, fun a ha b hb' e => ?_⟩
    rw [List.mem_singleton.1 hb'] at e
    exact hno a ha (e ▸ Rl.refl φ a)
  · rcases List.mem_append.1 ha with ha | ha
    · exact mkB_old l (s.cl a ha x hr)
    · rw [List.mem_singleton.1 ha] at hr
      have hx := Rl.lt hp hh hr
      obtain ⟨j, rfl⟩ := hr
      exact mkB_new l (by rw [s.len]; exact hx) ((c _).2 ⟨j, rfl⟩)
  · rcases List.mem_append.1 ha with ha | ha <;> rcases List.mem_append.1 hb' with hb' | hb'
    · exact s.ap a ha b hb' hr
    · rw [List.mem_singleton.1 hb'] at hr; exact absurd hr (hno a ha)
    · rw [List.mem_singleton.1 ha] at hr; exact absurd (hp.symm hh hr) (hno b hb')
    · rw [List.mem_singleton.1 ha, List.mem_singleton.1 hb']
  · rcases List.mem_append.1 hl with hl | hl
    · exact s.rg l' hl
    · rw [List.mem_singleton.1 hl]
      exact ⟨hlN, c.rg hp hh⟩
theorem info_iLs : (Tryd.prog.info? 22).map (fun i => (i.zero, i.size, i.bytes)) = some (some (.slice none 0 0), 1, 24) := by kernel_rfl
theorem elLs : ElA Tryd.prog 22 1 eS where
  ex := by
    obtain ⟨i, hi, hz, hs, hb⟩ := info_parts info_iLs
    exact ⟨i, _, 24, hi, hz, hs, hb, rfl, by omega⟩
  pos := by omega
  len := fun x => rfl
  one := fun x q h => by unfold eS at h; simp at h; subst h; rfl
theorem OwnI.keepE {e T : TypeId} {base : Nat} {w w' : World} {v : Value} {xs : List Int} (h : OwnI e base w v xs) (hk : KeepE T w w') (hne : e ≠ T) : OwnI e base w' v xs := by
  refine ⟨h.1, ?_⟩
  rcases h.2 with h0 | ⟨g, cap, cur, rfl, h1, hh, r⟩
  · exact .inl h0
  · exact .inr ⟨g, cap, cur, rfl, h1, (hk g _ e _ hh hne).trans hh, r⟩
/-- lists of integers of the call's own -/
structure CyW (base sb : Nat) (w : World) (v : Value) (bs : List Bool) (lls : List (List Int)) (wr : World) : Prop where
  arr : Arr wr sb 4 (bs.map Value.bool)
  own : ∃ ss : List SVt, ss.length = lls.length ∧ OwnA 22 1 eS base wr v ss ∧ ∀ (k : Nat) s l, ss[k]? = some s → lls[k]? = some l → OwnI 3 base wr (vS s) l
  bel : Below base w wr
  le : base ≤ sb
theorem CyW.size {base sb : Nat} {w wr : World} {v : Value} {bs : List Bool} {lls : List (List Int)} (h : CyW base sb w v bs lls wr) : base ≤ wr.heap.size := Nat.le_trans h.le (Nat.le_of_lt h.arr.lt)
theorem CyW.grow {base sb : Nat} {w wr W : World} {v : Value} {bs : List Bool} {lls : List (List Int)} (h : CyW base sb w v bs lls wr) (hb : Below wr.heap.size wr W) : CyW base sb w v bs lls W := by
  obtain ⟨ss, h1, h2, h3⟩ := h.own
  exact ⟨h.arr.below hb h.arr.lt, ⟨ss, h1, h2.below hb, fun k s l ha hb' => (h3 k s l ha hb').below hb (Nat.le_refl _)⟩, h.bel.trans (hb.mono h.size), h.le⟩
theorem CyW.mark {base sb : Nat} {w wr : World} {v : Value} {bs : List Bool} {lls : List (List Int)} (h : CyW base sb w v bs lls wr) (x : Nat) : CyW base sb w v (bs.set x true) lls (wr.setCell ⟨sb, x, none⟩ (.bool true)) := by
  obtain ⟨ss, h1, h2, h3⟩ := h.own
  have hk : KeepE 4 wr (wr.setCell ⟨sb, x, none⟩ (.bool true)) := KeepE.set h.arr _
  exact ⟨by rw [List.map_set]; exact h.arr.set x _, ⟨ss, h1, h2.keepE hk (by decide), fun k s l ha hb' => (h3 k s l ha hb').keepE hk (by decide)⟩, h.bel.setCell (p := ⟨sb, x, none⟩) h.le _, h.le⟩
theorem CyW.app {base sb : Nat} {w wr W : World} {v v' : Value} {bs : List Bool} {lls : List (List Int)} {l : List Int} {s : SVt} {ss : List SVt} (h : CyW base sb w v bs lls wr) (h1 : ss.length = lls.length) (h2 : OwnA 22 1 eS base wr v ss) (h3 : ∀ (k : Nat) s l, ss[k]? = some s → lls[k]? = some l → OwnI 3 base wr (vS s) l)
    (hs : OwnI 3 base wr (vS s) l) (hn : OwnA 22 1 eS base W v' (ss ++ [s])) (hb : Below base wr W) (hk : ∀ k, k < wr.heap.size → v.ownBlock ≠ some k → W.heap[k]? = wr.heap[k]?) : CyW base sb w v' bs (lls ++ [l]) W := by
  have hke : KeepE 22 wr W := KeepE.of hk h2.typ
  refine ⟨h.arr.keepE hke (by decide), ⟨ss ++ [s], by simp [h1], hn, fun k s' l' ha hb' => ?_⟩, h.bel.trans hb, h.le⟩
  rcases Nat.lt_or_ge k ss.length with hlt | hge
  · rw [List.getElem?_append_left hlt] at ha
    rw [List.getElem?_append_left (by omega)] at hb'
    exact (h3 k s' l' ha hb').keepE hke (by decide)
  · rw [List.getElem?_append_right hge] at ha
    rw [List.getElem?_append_right (by omega)] at hb'
    have h0 : k - ss.length = 0 := by
      rcases Nat.eq_zero_or_pos (k - ss.length) with h0 | h0
      · exact h0
      · rw [List.getElem?_eq_none (by simp; omega)] at ha; cases ha
    rw [h0] at ha
    rw [show k - lls.length = 0 by omega] at hb'
    cases ha
    cases hb'
    exact hs.keepE hke (by decide)
/-- what the closure that chooses the first half-edges does -/
structure OuC (F : FuncId) (Bd N : Nat) (out : Nat → Bool) (base : Nat) (w0 : World) : Prop where
  eg : ∀ args W, (callFunc F args).run Tryd.prog W = .ok (.enter F args) W
  ca : ∀ (h : Nat) W, h < N → Below base w0 W → Calls Tryd.prog F #[.int .i64 (h : Int), .pointer (some ⟨Bd, 0, none⟩)] W fun e w' => e = .returned (.bool (out h)) ∧ Below W.heap.size W w'
theorem run_make_bools (n : Nat) (hn : n ≤ 1000000) (W : World) : (Instr.makeSlice 135 (.int .i64 (n : Int)) (.int .i64 (n : Int))).run Tryd.prog W = .ok (.slice (some ⟨W.heap.size, 0, none⟩) n n) (W.alloc (.cells (rowOf (List.replicate n (.bool false))) 4)) := by
  obtain ⟨i, hi, hz, hs, hby⟩ := info_parts (show (Tryd.prog.info? 4).map (fun i => (i.zero, i.size, i.bytes)) = some (some (.bool false), 1, 1) by kernel_rfl)
  exact run_make_one 135 4 i _ Tryd.underlying135 hi hz hs rfl (by omega) n hn W
/-- what cycles returns -/
def CyR (N : Nat) (φ : Nat → Nat) (out : Nat → Bool) (b : Nat) (w : World) (v : Value) (w' : World) : Prop := ∃ bs hs lls, CyS N φ out bs hs lls ∧ CyW b b w v bs lls w'
set_option maxHeartbeats 4000000 in
set_option maxRecDepth 100000 in
theorem cycles_any {FO FN : FuncId} {Bo Bn N : Nat} {φ : Nat → Nat} {out : Nat → Bool} (w : World) (ho : OuC FO Bo N out w.heap.size w) (hx : NxC FN Bn N φ w.heap.size w) (hp : PermF N φ) (hN : N ≤ 1000) :
    Calls Tryd.prog 78 #[.int .i64 (N : Int), .func (.func FO) #[] #[.pointer (some ⟨Bo, 0, none⟩)], .func (.func FN) #[] #[.pointer (some ⟨Bn, 0, none⟩)]] w fun e w' => ∃ v, e = .returned v ∧ CyR N φ out w.heap.size w v w' := by
  have HO := Lib.hid ho
  have HX := Lib.hid hx
  have HP := Lib.hid hp
  have eg := ho.eg
  have HNN := Lib.hid hN
  have hmk := run_make_bools N (by omega) w
  clear ho hx hp
  have hW : ∀ W, W = (w.alloc (.cells (rowOf (List.replicate N (.bool false))) 4)) → CyW w.heap.size w.heap.size w (.slice none 0 0) (List.replicate N false) [] W := by
    rintro W rfl
    refine ⟨?_, ⟨[], rfl, OwnA.nil _ _ _ _ _, fun k s l h => by simp at h⟩, (Below.refl _ _).alloc (Nat.le_refl _) _, Nat.le_refl _⟩
    rw [List.map_replicate]
    exact Arr.new w 4 _
  go_enter Tryd.func78, Tryd.ntmps78
  go_upto_region 3 with fail
  clear hmk
  generalize (w.alloc (.cells (rowOf (List.replicate N (.bool false))) 4)) = w3 at hW ⊢
  have HST := Lib.hid (show ∃ bs hs lls, CyS N φ out bs hs lls ∧ CyW w.heap.size w.heap.size w (.slice none 0 0) bs lls w3 from ⟨_, _, _, CyS.start N φ out, hW w3 rfl⟩)
  clear hW
  obtain ⟨sb, hsb⟩ : ∃ b, b = w.heap.size := ⟨_, rfl⟩
  rw [← hsb] at HST ⊢
  have HSB := Lib.hid hsb
  rw [← hsb] at HO HX
  clear hsb
  go_wp2_with fail
  go_loopg [7, 16] N (fun gk s7 s16 wr => ∃ h : Nat, h ≤ N ∧ gk = N - h ∧ s16 = .int .i64 (h : Int) ∧ Hid (∃ bs hs lls, CyS N φ out bs hs lls ∧ CyW sb sb w s7 bs lls wr))
  case atStart => exact ⟨0, Nat.zero_le _, rfl, rfl, HST⟩
  case round =>
    clear HST
    obtain ⟨h, hh, rfl, rfl, HR⟩ := hrel
    obtain ⟨bs, hs, lls, hcs, hcw⟩ := HR.out
    clear HR
    by_cases hlt : h < N
    · have z1 : (h : Int) < (N : Int) := by omega
      have hbl : h < bs.length := by rw [hcs.len]; exact hlt
      have hsw := hcw.size
      have hcell := hcw.arr.cell h
      rw [List.getElem?_map, List.getElem?_eq_getElem hbl] at hcell
      have hbv : bs[h]? = some bs[h] := List.getElem?_eq_getElem hbl
      have HCS := Lib.hid hcs
      have HCW := Lib.hid hcw
      have HOC := Lib.hid (HO.out.ca h wr hlt hcw.bel)
      clear hcs hcw
      generalize hq : bs[h] = q at *
      clear hq hbl
      have HBV := Lib.hid hbv
      clear hbv
      cases q with
      | true =>
        go_wp2_with fail
        go_roundg (N - (h + 1))
        case measure => omega
        case rel => exact ⟨h + 1, by omega, rfl, by go_num, Lib.hid ⟨bs, hs, lls, HCS.out, HCW.out⟩⟩
      | false =>
        cases ho : out h with
        | false =>
          rw [ho] at HOC
          clear ho
          go_wp2_with fail
          refine HOC.out.mono ?_
          rintro e w4 ⟨rfl, hb4⟩
          have HCW4 := Lib.hid (HCW.out.grow hb4)
          clear hb4
          go_wp2_with fail
          go_roundg (N - (h + 1))
          case measure => omega
          case rel => exact ⟨h + 1, by omega, rfl, by go_num, Lib.hid ⟨bs, hs, lls, HCS.out, HCW4.out⟩⟩
        | true =>
          rw [ho] at HOC
          have HO1 := Lib.hid ho
          clear ho
          go_wp2_with fail
          refine HOC.out.mono ?_
          rintro e w4 ⟨rfl, hb4⟩
          have HCW4 := Lib.hid (HCW.out.grow hb4)
          clear hb4 HCW hcell
          have HCY := Lib.hid (cycle_any h w4 ((HX.out.below HCW4.out.bel).up HCW4.out.size) HP.out hlt hN)
          go_wp2_with fail
          refine HCY.out.mono ?_
          rintro e w5 ⟨A, c, l, rfl, hcy, hlN, hol, hb5⟩
          have HN2 := Lib.hid (HCS.out.next HP.out hlt HBV.out HO1.out hcy hlN)
          have HRG := Lib.hid (hcy.rg HP.out hlt)
          have hlow : OwnI 3 sb w5 (.slice A l.length c) l := by
            refine ⟨hol.1, ?_⟩
            rcases hol.2 with h0 | ⟨g, cap, cur, e1, h1, hh, r⟩
            · exact .inl h0
            · exact .inr ⟨g, cap, cur, e1, Nat.le_trans HCW4.out.size h1, hh, r⟩
          have HCW5 := Lib.hid (HCW4.out.grow hb5)
          have HST := Lib.hid (show CyW sb sb w u7 (mkB bs (l.take 0)) lls w5 ∧ OwnI 3 sb w5 (.slice A l.length c) l from ⟨HCW5.out, hlow⟩)
          clear hcy hol hb5 hlow HCW4 HCW5 HCY HOC
          have HLB := Lib.hid (show (mkB bs l).length = N from (mkB_len l bs).trans HCS.out.len)
          obtain ⟨n, hn⟩ : ∃ n, n = l.length := ⟨_, rfl⟩
          rw [← hn] at HST hlN ⊢
          have HLN := Lib.hid hn
          clear hn
          go_wp2_with fail
          go_loopg [34] n (fun gk s34 wr => ∃ j : Nat, j ≤ n ∧ gk = n - j ∧ s34 = .int .i64 (j : Int) ∧ Hid (CyW sb sb w u7 (mkB bs (l.take j)) lls wr ∧ OwnI 3 sb wr (.slice A n c) l))
          case atStart => exact ⟨0, Nat.zero_le _, rfl, rfl, HST⟩
          case round =>
            clear HST
            obtain ⟨j, hj, rfl, rfl, HR⟩ := hrel
            obtain ⟨hcw, hol⟩ := HR.out
            clear HR
            by_cases hlj : j < n
            · have z2 : (j : Int) < (n : Int) := by omega
              have hjl : j < l.length := by have := HLN.out; omega
              obtain ⟨b, o, hA, _, hcell⟩ := hol.ints.at_ hjl
              subst hA
              obtain ⟨x, hx, hxN⟩ := HRG.out l[j] (List.getElem_mem hjl)
              rw [hx] at hcell
              have HSN := Lib.hid (show mkB bs (l.take (j + 1)) = (mkB bs (l.take j)).set x true from by
                rw [take_snocZ hjl, mkB_snoc, hx, Int.toNat_natCast])
              have z3 : (x : Int) < (N : Int) := by omega
              have HM := Lib.hid (hcw.mark x)
              have HOL := Lib.hid (hol.keepE (KeepE.set hcw.arr (i := x) (.bool true)) (by decide))
              have hfz := hcw.arr.frozen x
              have hsz := hcw.arr.lt
              have hxc := hcw.arr.cell x
              have hxl : x < (mkB bs (l.take j)).length := by rw [mkB_len, HCS.out.len]; exact hxN
              rw [List.getElem?_map, List.getElem?_eq_getElem hxl] at hxc
              generalize (mkB bs (l.take j))[x] = bx at hxc
              clear hx hcw hol hxl
              go_wp2_with fail
              go_roundg (n - (j + 1))
              case measure => omega
              case rel => exact ⟨j + 1, by omega, rfl, by go_num, Lib.hid ⟨by rw [HSN.out]; exact HM.out, HOL.out⟩⟩
            · have z2 : ¬ (j : Int) < (n : Int) := by omega
              have HCW6 := Lib.hid (show CyW sb sb w u7 (mkB bs l) lls (wr.alloc (.cells #[.slice A n c] 22)) from (show CyW sb sb w u7 (mkB bs l) lls wr from by rw [List.take_of_length_le (by have := HLN.out; omega)] at hcw; exact hcw).grow ((Below.refl _ _).alloc (Nat.le_refl _) _))
              have HOL6 := Lib.hid (hol.alloc (.cells #[.slice A n c] 22))
              obtain ⟨ss, hs1, hs2, hs3⟩ := HCW6.out.own
              have HS1 := Lib.hid hs1
              have HS2 := Lib.hid hs2
              have HS3 := Lib.hid hs3
              have HAR := Lib.hid (Arr.new wr 22 [.slice A n c])
              have HSL := Lib.hid (show SlA eS (wr.alloc (.cells #[.slice A n c] 22)) (.slice (some ⟨wr.heap.size, 0, none⟩) 1 1) [((A, n, c) : SVt)] from ⟨_, 1, rfl, Nat.le_refl _, fun j q hq => by
                cases j with
                | zero => exact ⟨_, _, rfl, (HAR.out.cell 0).trans hq⟩
                | succ j => simp [eS] at hq⟩)
              have HLC := Lib.hid (show ss.length + 1 ≤ 1000000000 from by
                have h1 := HN2.out.cnt
                have h2 := len_sub _ (List.range N) HN2.out.nd (fun a ha => List.mem_range.2 (HN2.out.hd a ha).1)
                simp at h1 h2
                rw [hs1]
                have := HNN.out
                omega)
              obtain ⟨A7, c7, hA7⟩ := hs2.form
              have hszz := HCW6.out.size
              clear hcw hol hs1 hs2 hs3
              subst hA7
              go_wp2_with (at_builtin; refine wpList_appA rfl elLs (.tmp 42) (.tmp 44) 103 103 rfl Tryd.underlying103 Tryd.underlying103 rfl HS2.out rfl HSL.out HLC.out hszz ?_; intro v' w7 h1 h2 h3 h4; have HF := Lib.hid (CyW.app (s := (A, n, c)) HCW6.out HS1.out HS2.out HS3.out HOL6.out h1 h2 h3); clear h1 h2 h3 h4)
              go_roundg (N - (h + 1))
              case measure => omega
              case rel => exact ⟨h + 1, by omega, rfl, by go_num, Lib.hid ⟨_, _, _, HN2.out, HF.out⟩⟩
    · have z1 : ¬ (h : Int) < (N : Int) := by omega
      have HCS := Lib.hid hcs
      have HCW := Lib.hid hcw
      clear hcs hcw
      go_wp2_with fail
      go_ret
      exact ⟨_, rfl, bs, hs, lls, HCS.out, by rw [← HSB.out]; exact HCW.out⟩
/-- what Strands returns -/
def StrR (base : Nat) (M : List Int) (v : Value) (w' : World) : Prop := ∃ (A : Option Addr) (c : Nat) (lls : List (List Int)) (ss : List SVt), v = .slice A lls.length c ∧ lls.length ≤ rk (labA M M.length M.length) M.length ∧ (∀ l ∈ lls, l.length ≤ M.length ∧ ∀ y ∈ l, ∃ x : Nat, y = (x : Int) ∧ x < M.length) ∧ ss.length = lls.length ∧ OwnA 22 1 eS base w' (.slice A lls.length c) ss ∧ (∀ (k : Nat) s l, ss[k]? = some s → lls[k]? = some l → OwnI 3 base w' (vS s) l)
theorem strands_any {S M : List Int} {L : Int} (hv : valB S M L = true) (k : Ok S M L) (vs vm : Value) (w : World) (hS : Ints w vs S) (hM : Ints w vm M) :
    Calls Tryd.prog 57 #[.agg #[vs, vm, .int .i64 L]] w fun e w' => ∃ v, e = .returned v ∧ StrR w.heap.size M v w' ∧ Below w.heap.size w w' := by
  have hW : ∀ W, W = w.alloc (.cells #[vs, vm, .int .i64 L] 61) → Arr W w.heap.size 61 [vs, vm, .int .i64 L] ∧ Below w.heap.size w W := by
    rintro W rfl
    exact ⟨Arr.new _ _ [_, _, _], (Below.refl _ _).alloc (Nat.le_refl _) _⟩
  have HK := Lib.hid k
  have HS := Lib.hid hS
  have HM := Lib.hid hM
  have HV := Lib.hid hv
  obtain ⟨A1, c1, rfl, -, -⟩ := hS
  obtain ⟨A2, c2, rfl, -, -⟩ := hM
  have hml : M.length ≤ 256 := by have := k.n; have := k.m; omega
  clear hv k
  go_enter Tryd.func57, Tryd.ntmps57
  go_upto_region 1 with fail
  generalize w.alloc (.cells #[.slice A1 S.length c1, .slice A2 M.length c2, .int .i64 L] 61) = w3 at hW ⊢
  obtain ⟨q3, hb3⟩ := hW w3 rfl
  clear hW
  have HV3 := Lib.hid (valid_code _ _ S M L w3 (HS.out.below hb3) (HM.out.below hb3))
  rw [HV.out] at HV3
  have y0 := q3.cell 0
  have y1 := q3.cell 1
  have y2 := q3.cell 2
  have Q3 := Lib.hid q3
  have HB3 := Lib.hid hb3
  clear q3 hb3
  go_wp2_with fail
  refine HV3.out.mono ?_
  rintro e w4 ⟨rfl, hb4⟩
  have HB4 := Lib.hid (HB3.out.trans (hb4.mono HB3.out.size))
  have q4 := Q3.out.below hb4 Q3.out.lt
  clear y0 y1 y2 hb4
  have y1 := q4.cell 1
  have HX := Lib.hid (nxc_strands HK.out _ _ _ w4 q4 (HM.out.below HB4.out))
  have HO := Lib.hid (show OuC 77 w.heap.size M.length (outB S) w4.heap.size w4 from ⟨enters_of Tryd.func77 (by kernel_rfl) rfl, fun h W hh hb => sto_any HK.out _ _ _ h W (q4.below hb q4.lt) ((HS.out.below HB4.out).below hb) hh⟩)
  have HC := Lib.hid (cycles_any w4 HO.out HX.out HK.out.nxt_perm (by omega))
  clear q4
  go_wp2_with fail
  refine HC.out.mono ?_
  rintro e w5 ⟨v, rfl, bs, hs, lls, hcs, hcw⟩
  obtain ⟨ss, h1, h2, h3⟩ := hcw.own
  have HCS := Lib.hid hcs
  have HCW := Lib.hid hcw
  have H1 := Lib.hid h1
  have H2 := Lib.hid h2
  have H3 := Lib.hid h3
  obtain ⟨A, c, rfl⟩ := h2.form
  clear hcs hcw h1 h2 h3
  go_wp2_with fail
  go_ret
  refine ⟨_, rfl, ⟨A, c, lls, ss, by rw [← H1.out]; rfl, ?_, HCS.out.rg, H1.out, ?_, fun k s l ha hb => ?_⟩, HB4.out.trans (HCW.out.bel.mono HB4.out.size)⟩
  · rw [← HCS.out.cnt]
    exact HK.out.strands_le HCS.out.nd HCS.out.hd HCS.out.ap
  · rw [← H1.out]
    exact H2.out.low HB4.out.size
  · have hol := H3.out k s l ha hb
    refine ⟨hol.1, ?_⟩
    rcases hol.2 with h0 | ⟨g, cap, cur, e1, h1, hh, r⟩
    · exact .inl h0
    · exact .inr ⟨g, cap, cur, e1, Nat.le_trans HB4.out.size h1, hh, r⟩
end Go.Proofs.YtlbihllmpbhhcaaDoor
