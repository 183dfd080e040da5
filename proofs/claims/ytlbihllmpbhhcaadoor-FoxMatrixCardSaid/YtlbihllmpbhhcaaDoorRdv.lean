/- unravelref23.Derivative. -/
import Derived.Test.YtlbihllmpbhhcaaDoorRad
import Derived.Test.YtlbihllmpbhhcaaDoorRof
import Derived.Test.YtlbihllmpbhhcaaDoorDgr
import Derived.Test.YtlbihllmpbhhcaaDoorRdp
namespace Go.Proofs.YtlbihllmpbhhcaaDoor
open Go.RowKit
set_option linter.unusedVariables false

theorem insL_last : ∀ {M : List (Int × Int)} {x X : Int}, (∀ t ∈ M, t.1 < x) → insL M x X = M ++ [(x, X)]
  | [], x, X, _ => rfl
  | t :: M, x, X, h => by
    rw [insL, if_pos (h t (List.mem_cons_self ..)), insL_last fun s hs => h s (List.mem_cons_of_mem _ hs)]
    rfl
theorem addL_id : ∀ {l M : List (Int × Int)}, Srt (M ++ l) → addL M l = M ++ l
  | [], M, _ => by simp [addL]
  | t :: l, M, h => by
    show addL (insL M t.1 t.2) l = _
    have h2 : ∀ s ∈ M, s.1 < t.1 := fun s hs => (List.pairwise_append.1 h).2.2 s hs t (List.mem_cons_self ..)
    rw [insL_last h2, addL_id (by rw [List.append_assoc]; exact h), List.append_assoc]
    rfl
theorem add_one (l : List (Int × Int)) (h : Srt l) (d s : Int) : addL (addL [] l) [(d, s)] = insL l d s := by
  rw [addL_id (l := l) (M := []) (by simpa using h)]
  rfl
theorem of_nil (low : Int) : colP (posL low []) = some [] := rfl
theorem of_one {d s : Int} (hd : -1048576 ≤ d ∧ d ≤ 1048576) (hs : s = 1 ∨ s = -1) : colP (posL d [s]) = some [(d, s)] := by
  have e : posL d [s] = [(d, s)] := by simp [posL]
  have h0 : s ≠ 0 := by omega
  rw [e]
  unfold colP
  rw [if_pos (by
    rw [colB, colB, Bool.and_true, Bool.or_eq_true, Bool.and_eq_true, decide_eq_true_eq, decide_eq_true_eq]
    exact .inr ⟨by show -1125899906842624 ≤ s ∧ s ≤ 1125899906842624; omega, hd⟩), colL, colL, if_neg h0]
  rfl
/-- what has been added up after k letters -/
structure Der (comp : List Int) (g : Int) (ws : List Int) (k : Nat) (l : List (Int × Int)) : Prop where
  can : Can l
  co : ∀ t ∈ l, -(k : Int) ≤ t.2 ∧ t.2 ≤ k
  ex : ∀ t ∈ l, -1000000 ≤ t.1 ∧ t.1 ≤ 1000000
  len : l.length ≤ k
  val : ∀ e, cf l e = dF comp g (ws.take k) e
theorem Der.lim {comp ws : List Int} {g : Int} {k : Nat} {l : List (Int × Int)} (h : Der comp g ws k l) (hk : k ≤ 1000) : Lim l :=
  ⟨fun t ht => by have := h.co t ht; omega, fun t ht => by have := h.ex t ht; omega⟩
theorem Der.zero (comp : List Int) (g : Int) (ws : List Int) : Der comp g ws 0 [] :=
  ⟨Can.nil, fun t h => (by cases h), fun t h => (by cases h), Nat.le_refl _, fun e => rfl⟩
theorem Der.add {comp ws : List Int} {g d s : Int} {k : Nat} {l : List (Int × Int)} (h : Der comp g ws k l) (hk : k < 1000) (hd : -1000000 ≤ d ∧ d ≤ 1000000) (hs : s = 1 ∨ s = -1) (hv : ∀ e, dF comp g (ws.take (k + 1)) e = dF comp g (ws.take k) e + if d = e then s else 0) :
    colP (addL (addL [] l) [(d, s)]) = some (colL (insL l d s)) ∧ Der comp g ws (k + 1) (colL (insL l d s)) := by
  have hbd := insL_bd (L := l) (x := d) (X := s) (B := k) (C := 1) (by omega) (by omega) h.co (by omega)
  have hD : Der comp g ws (k + 1) (colL (insL l d s)) := by
    refine ⟨colL_can (insL_srt h.can.srt), fun t ht => ?_, fun t ht => ?_, ?_, fun e => ?_⟩
    · have := hbd t (colL_mem ht).1
      omega
    · rcases insL_mem (colL_mem ht).1 with ⟨s', h1, h2⟩ | h1
      · have := h.ex s' h1; omega
      · omega
    · have h1 := colL_len (insL l d s)
      have h2 := insL_len l d s
      have := h.len
      omega
    · rw [colL_cf, insL_cf, h.val, hv]
  refine ⟨?_, hD⟩
  rw [add_one l h.can.srt]
  unfold colP
  rw [if_pos (colB_iff.2 (hD.lim (by omega)))]
theorem take_app {ws : List Int} {k : Nat} (hk : k < ws.length) : ws.take (k + 1) = ws.take k ++ [ws[k]] := (List.take_append_getElem hk).symm
theorem Der.skip {comp ws : List Int} {g : Int} {k : Nat} {l : List (Int × Int)} (h : Der comp g ws k l) (hk : k < ws.length) (h1 : ws[k] ≠ g + 1) (h2 : ws[k] ≠ -(g + 1)) : Der comp g ws (k + 1) l :=
  ⟨h.can, fun t ht => by have := h.co t ht; omega, h.ex, by have := h.len; omega, fun e => by
    rw [h.val, take_app hk, dF_append, dF_one]
    have : gnr ws[k] ≠ g := by unfold gnr; split <;> omega
    rw [if_neg this]; omega⟩
theorem Der.plus {comp ws : List Int} {g : Int} {k : Nat} {l : List (Int × Int)} (h : Der comp g ws k l) (hk : k < ws.length) (hg : 0 ≤ g) (h1 : ws[k] = g + 1) : ∀ e, dF comp g (ws.take (k + 1)) e = dF comp g (ws.take k) e + if dg comp (ws.take k) = e then 1 else 0 := fun e => by
  rw [take_app hk, dF_append, dF_one]
  have : gnr ws[k] = g := by unfold gnr; split <;> omega
  rw [if_pos this, if_pos (by omega)]
  congr 1
  by_cases q : dg comp (ws.take k) = e
  · rw [if_pos q, if_pos (by omega)]
  · rw [if_neg q, if_neg (by omega)]
theorem Der.minus {comp ws : List Int} {g : Int} {k : Nat} {l : List (Int × Int)} (h : Der comp g ws k l) (hk : k < ws.length) (hg : 0 ≤ g) (h1 : ws[k] = -(g + 1)) : ∀ e, dF comp g (ws.take (k + 1)) e = dF comp g (ws.take k) e + if dg comp (ws.take (k + 1)) = e then -1 else 0 := fun e => by
  rw [take_app hk, dF_append, dF_one, dg_append, dg_one]
  have : gnr ws[k] = g := by unfold gnr; split <;> omega
  have hn : ¬ 0 < ws[k] := by omega
  rw [if_pos this]
  simp only [if_neg hn]
  congr 1
  by_cases q : dg comp (ws.take k) + - cg comp (-ws[k] - 1) = e
  · rw [if_pos q, if_pos (by omega)]
  · rw [if_neg q, if_neg (by omega)]


/-- the state of the loop: rb: the result, pb: the polynomial -/
structure DvS (rb pb : Nat) (w3 W : World) (l : List (Int × Int)) : Prop where
  bel : Below rb w3 W
  lt : rb < pb
  res : Arr W rb 36 [.slice none 0 0, .bool false]
  box : ∃ A c, Arr W pb 36 [.slice A l.length c, .bool false] ∧ SlA et W (.slice A l.length c) l
section
variable {rb pb : Nat} {w3 W W' : World} {l l' : List (Int × Int)} {v : Value}
theorem DvS.size (h : DvS rb pb w3 W l) : pb < W.heap.size := by obtain ⟨A, c, h1, _⟩ := h.box; exact h1.lt
theorem DvS.store (h : DvS rb pb w3 W l) (hb : Below W.heap.size W W') (hv : RP W' v (some l')) {A : Option Addr} {n c : Nat} {bb : Bool} (he : v = .agg #[.slice A n c, .bool bb]) : DvS rb pb w3 ((W'.setCell ⟨pb, 0, none⟩ (.slice A n c)).setCell ⟨pb, 1, none⟩ (.bool bb)) l' := by
  obtain ⟨A0, c0, h1, h2⟩ := h.box
  have h3 := h1.below hb h1.lt
  have h4 := hv.box h3 (.slice A n c) (.bool bb)
  obtain ⟨A1, c1, hv1, h5⟩ := h4
  subst he
  injection hv1 with hv1
  simp only [Option.getD_some, Option.isNone_some, Array.mk.injEq, List.cons.injEq, Value.slice.injEq, Value.bool.injEq, and_true] at hv1
  obtain ⟨⟨rfl, rfl, rfl⟩, rfl⟩ := hv1
  have h6 := h.lt
  have h7 := h.size
  exact ⟨((h.bel.trans (hb.mono (by omega))).setCell (p := ⟨pb, 0, none⟩) (show rb ≤ pb by omega) _).setCell (p := ⟨pb, 1, none⟩) (show rb ≤ pb by omega) _, h6,
    ((h.res.below hb h.res.lt).far (p := ⟨pb, 0, none⟩) (show rb ≠ pb by omega) _).far (p := ⟨pb, 1, none⟩) (show rb ≠ pb by omega) _, _, _, (h3.set 0 _).set 1 _, h5⟩
theorem DvS.start {w4 : World} (qr : Arr w3 rb 36 [.slice none 0 0, .bool false]) (hb : Below w3.heap.size w3 w4) (hlt : rb < w3.heap.size) {A : Option Addr} {n c : Nat} {bb : Bool} (hv : RP w4 (.agg #[.slice A n c, .bool bb]) (some l)) : DvS rb w4.heap.size w3 (w4.alloc (.cells #[.slice A n c, .bool bb] 36)) l := by
  obtain ⟨A1, c1, hv1, h5⟩ := hv
  injection hv1 with hv1
  simp only [Option.getD_some, Option.isNone_some, Array.mk.injEq, List.cons.injEq, Value.slice.injEq, Value.bool.injEq, and_true] at hv1
  obtain ⟨⟨rfl, rfl, rfl⟩, rfl⟩ := hv1
  have := hb.size
  exact ⟨(hb.mono (Nat.le_of_lt hlt)).alloc (by omega) _, by omega, (qr.below hb qr.lt).alloc _, _, _, Arr.new _ _ [_, _], h5.below ((Below.refl _ _).alloc (Nat.le_refl _) _)⟩
end
theorem Ints.pre {w : World} {A : Option Addr} {n c k : Nat} {xs : List Int} (h : Ints w (.slice A n c) xs) (hk : k ≤ xs.length) (hc : k ≤ c) : Ints w (.slice A k c) (xs.take k) := by
  have := h.sla.sub (enc := ei) (sz := 1) (fun x => rfl) (by omega) (lo := 0) (hi := k) (Nat.zero_le _) hk c (by omega) A (fun _ => by cases A <;> simp [Addr.add])
  have h2 := this.ints
  simpa using h2
set_option maxHeartbeats 4000000 in
set_option maxRecDepth 100000 in
theorem rder_any (vw vc : Value) (ws comp : List Int) (gen : Int) (w : World) (hw : Ints w vw ws) (hc : Ints w vc comp) (hf : fitB ws comp gen = true) (hl : ws.length ≤ 1000) (hcl : comp.length ≤ 1000) :
    Calls Tryd.prog 16 #[vw, .int .i64 gen, vc] w fun e w' => ∃ v r, e = .returned v ∧ RP w' v (some r) ∧ Der comp gen ws ws.length r ∧ Below w.heap.size w w' := by
  obtain ⟨hg0, hg1, hx, hcb⟩ := fitB_mem hf
  have HX := Lib.hid hx
  have HCB := Lib.hid hcb
  have HW := Lib.hid (fun W (hb : Below w.heap.size w W) => hw.below hb)
  have HC := Lib.hid (fun W (hb : Below w.heap.size w W) => hc.below hb)
  have HG := Lib.hid (And.intro hg0 hg1)
  clear hf hx hcb
  obtain ⟨A, c, rfl, hcA, -⟩ := hw
  obtain ⟨A2, c2, rfl, -, -⟩ := hc
  obtain ⟨n, hn⟩ : ∃ n, n = ws.length := ⟨_, rfl⟩
  obtain ⟨n2, hn2⟩ : ∃ n, n = comp.length := ⟨_, rfl⟩
  rw [← hn] at hl hcA HW ⊢
  rw [← hn2] at hcl HC hg1 ⊢
  have HN := Lib.hid hn
  have HN2 := Lib.hid hn2
  clear hn hn2
  have hW : ∀ W, W = (w.alloc (.cells #[.slice none 0 0, .bool false] 36)) → Arr W w.heap.size 36 [.slice none 0 0, .bool false] ∧ Below w.heap.size w W := by
    intro W hW
    subst hW
    exact ⟨Arr.new _ _ [_, _], (Below.refl _ _).alloc (Nat.le_refl _) _⟩
  go_enter Tryd.func16, Tryd.ntmps16
  go_upto_region 1 with fail
  generalize (w.alloc (.cells #[.slice none 0 0, .bool false] 36)) = w3 at hW ⊢
  obtain ⟨qr, hb3⟩ := hW w3 rfl
  have HB3 := Lib.hid hb3
  have HW3 := Lib.hid (fun W (hb : Below w.heap.size w3 W) => HW.out W (hb3.trans hb))
  have HC3 := Lib.hid (fun W (hb : Below w.heap.size w3 W) => HC.out W (hb3.trans hb))
  have hsz3 := qr.lt
  obtain ⟨rb, hrb⟩ : ∃ r, r = w.heap.size := ⟨_, rfl⟩
  rw [← hrb] at qr HW3 HC3 HB3 hsz3 ⊢
  have QR := Lib.hid qr
  have HRB := Lib.hid hrb
  have HSZ := Lib.hid hsz3
  clear hW hb3 HW HC hrb qr hsz3
  have HO0 := Lib.hid (rof_any 0 (.slice none 0 0) [] w3 ⟨none, 0, rfl, Nat.le_refl _, fun k x h => by cases h⟩ (by simp) (by omega))
  rw [of_nil] at HO0
  go_upto_region 2 with (go_at_call 40; refine HO0.out.mono ?_; rintro e w4 ⟨v4, rfl, hv4, hb4⟩; have HV4 := Lib.hid hv4; obtain ⟨bb4, A4, n4, c4, rfl, q1, q2⟩ := hv4.parts; have HB4 := Lib.hid hb4; have HQ4 := Lib.hid (And.intro q1 q2); clear hv4 hb4 q1 q2)
  have hst0 := Lib.hid (DvS.start QR.out HB4.out HSZ.out HV4.out)
  go_wp2_with fail
  generalize (w4.alloc (.cells #[.slice A4 n4 c4, .bool bb4] 36)) = w5 at hst0 ⊢
  obtain ⟨pb, hpb⟩ : ∃ p, p = w4.heap.size := ⟨_, rfl⟩
  rw [← hpb] at hst0 ⊢
  clear hpb HV4 HB4 HQ4 HO0
  go_loopg [8] n (fun gk s8 wr => ∃ (k : Nat) (l : List (Int × Int)), k ≤ n ∧ gk = n - k ∧ s8 = .int .i64 (k : Int) ∧ DvS rb pb w3 wr l ∧ Hid (Der comp gen ws k l))
  case atStart => exact ⟨0, [], Nat.zero_le _, rfl, rfl, hst0.out, Lib.hid (Der.zero comp gen ws)⟩
  case round =>
    clear hst0
    obtain ⟨k, l, hk, rfl, rfl, hst, HD⟩ := hrel
    have HST := Lib.hid hst
    obtain ⟨Ap, cp, hbx, hsl⟩ := hst.box
    have HBX := Lib.hid (fun W (hb : Below wr.heap.size wr W) => hbx.below hb hbx.lt)
    have HRP := Lib.hid (fun W (hb : Below wr.heap.size wr W) => (show RP W (.agg #[.slice Ap l.length cp, .bool false]) (some l) from ⟨Ap, cp, rfl, hsl.below hb⟩))
    by_cases hlt : k < n
    · have z1 : (k : Int) < (n : Int) := by omega
      have hkl : k < ws.length := by have := HN.out; omega
      obtain ⟨b, o, ⟨c', hv⟩, -, hcell⟩ := ints_atZ (HW3.out wr hst.bel) hkl
      injection hv with hv1 hv2 hv3
      subst hv1 hv3
      clear hv2
      have HCE := Lib.hid (fun W (hb : Below rb w3 W) => (show W.cell? ⟨b, o + k, none⟩ = some (.int .i64 ws[k]) from by
        obtain ⟨b', o', ⟨c', hv⟩, _, hcell⟩ := ints_atZ (HW3.out W hb) hkl
        injection hv with hv1 hv2 hv3
        injection hv1 with hv1
        injection hv1 with q1 q2
        subst q1 q2
        exact hcell))
      have HAD := Lib.hid (fun (d s : Int) (hd : -1000000 ≤ d ∧ d ≤ 1000000) (hs : s = 1 ∨ s = -1) W (hb : Below wr.heap.size wr W) v (hv : RP W v (some [(d, s)])) => radd_any _ v l [(d, s)] W (HRP.out W hb) hv (by have := HD.out.len; omega) (by simp) (HD.out.lim (by omega)) ⟨fun t ht => by rw [List.mem_singleton.1 ht]; show -1125899906842624 ≤ s ∧ s ≤ 1125899906842624; omega, fun t ht => by rw [List.mem_singleton.1 ht]; show -1048576 ≤ d ∧ d ≤ 1048576; omega⟩)
      have HDG0 := Lib.hid (fun (j : Nat) (hj : j ≤ n) W (hb : Below wr.heap.size wr W) => degree_any (.slice (some ⟨b, o, none⟩) j c) (.slice A2 n2 c2) (ws.take j) comp W
        ((HW3.out W (hst.bel.trans (hb.mono (by have := hst.size; have := hst.lt; omega)))).pre (by have := HN.out; omega) (by omega))
        (HC3.out W (hst.bel.trans (hb.mono (by have := hst.size; have := hst.lt; omega)))) (by rw [List.length_take]; omega) (by have := HN2.out; omega) (fun x hx => HX.out x (List.mem_of_mem_take hx)) HCB.out)
      have HDB := Lib.hid (fun (j : Nat) (hj : j ≤ n) => (show -1000000 ≤ dg comp (ws.take j) ∧ dg comp (ws.take j) ≤ 1000000 from by
        have := dg_bd (ws := ws.take j) (comp := comp) HCB.out
        rw [List.length_take] at this
        omega))
      have HXK := Lib.hid (HX.out _ (List.getElem_mem hkl))
      have HSK := Lib.hid (HD.out.skip hkl)
      have HPL := Lib.hid (fun (h : ws[k] = gen + 1) => HD.out.add (d := dg comp (ws.take k)) (s := 1) (by omega) (HDB.out k hk) (.inl rfl) (HD.out.plus hkl HG.out.1 h))
      have HMI := Lib.hid (fun (h : ws[k] = -(gen + 1)) => HD.out.add (d := dg comp (ws.take (k + 1))) (s := -1) (by omega) (HDB.out (k + 1) hlt) (.inr rfl) (HD.out.minus hkl HG.out.1 h))
      obtain ⟨X, hX⟩ : ∃ X, X = ws[k] := ⟨_, rfl⟩
      rw [← hX] at hcell HCE HXK HSK HPL HMI
      clear hX hst hbx hsl
      have hXb := HXK.out
      obtain ⟨hg0, hg2⟩ := HG.out
      have hn2 := HN2.out
      have hX1 : -1000 ≤ X ∧ X ≤ 1000 := by omega
      clear hXb hn2
      generalize l.length = np at *
      by_cases hp : X = gen + 1
      · obtain ⟨e1, hd2⟩ := HPL.out hp
        have z2 : (X == gen + 1) = true := by rw [beq_iff_eq]; exact hp
        have hm : X ≠ -(gen + 1) := by omega
        have z3 : (X == -(gen + 1)) = false := by rw [beq_eq_false_iff_ne]; exact hm
        have HDG := Lib.hid (HDG0.out k hk)
        have HADD := Lib.hid (HAD.out (dg comp (ws.take k)) 1 (HDB.out k hk) (.inl rfl))
        have HOF := Lib.hid (fun W v (hv : Ints W v [1]) => rof_any (dg comp (ws.take k)) v [1] W hv (by simp) (by have := HDB.out k hk; omega))
        have hone := of_one (d := dg comp (ws.take k)) (s := 1) (by have := HDB.out k hk; omega) (.inl rfl)
        rw [hone] at HOF
        rw [e1] at HADD
        have HDN := Lib.hid hd2
        generalize colL (insL l (dg comp (ws.take k)) 1) = l2 at *
        generalize dg comp (ws.take k) = d at *
        have HAD := HADD
        clear HADD hone e1 hd2 HPL HMI HSK HDG0 HDB HXK HRP
        have hp2 : X = gen + 1 := hp
        have zk : k ≤ c := by omega
        have zk2 : (k : Int) ≤ (c : Int) := by omega
        clear hp hm
        go_upto_region 6 with fail
        clear hcell
        refine wp_region_phis 9 (by kernel_rfl) (by kernel_rfl) (by kernel_rfl) (by kernel_rfl) (by kernel_rfl) rfl (by kernel_rfl) (phiT (fun i => ([some (.agg #[.slice Ap np cp, .bool false]), some (.slice (some ⟨b, o, none⟩) n c), some (.int .i64 (k : Int)), some (.slice (some ⟨b, o, none⟩) k c), some (.slice A2 n2 c2), some (.int .i64 d), none, none, none, some (undef)] : List (Option Value)).getD i none) (fun i v w => (if i = 6 then (fun (v : Value) (w : World) => Ints w v [1]) v w else (if i = 7 then (fun (v : Value) (w : World) => RP w v (some [(d, 1)])) v w else (if i = 8 then (fun (v : Value) (w : World) => RP w v (some l2)) v w else True))))) (fun i v w w' h hb => ?_) (fun i => false) (fun i v w hi h k hk => ?_) (fun _ W => DvS rb pb w3 W l2) ⟨?_, ?_, ?_, ?_, ?_, ?_, ?_, ?_, ?_, ?_, trivial⟩ ?_
        · unfold phiT at h ⊢
          split
          · next u hu => rw [hu] at h; exact h
          · next hu =>
            rw [hu] at h
            simp only at h ⊢
            by_cases q6 : i = 6
            · rw [if_pos q6] at h ⊢; exact (show Ints _ _ _ from h).below hb
            · rw [if_neg q6] at h ⊢
              by_cases q7 : i = 7
              · rw [if_pos q7] at h ⊢; exact (show RP _ _ _ from h).below hb
              · rw [if_neg q7] at h ⊢
                by_cases q8 : i = 8
                · rw [if_pos q8] at h ⊢; exact (show RP _ _ _ from h).below hb
                · rw [if_neg q8] at h ⊢
                  trivial
        · simp only [Bool.or_eq_true, decide_eq_true_eq, Bool.false_eq_true] at hi
        · intro x w1 bA hbel hdep hdap hold hb
          refine ⟨fun _ => ?_, fun h => absurd h (by decide)⟩
          have e7 : bA.tmps[7]?.getD undef = .pointer (some ⟨pb, 0, none⟩) := hb 7
          have cc0 := (HBX.out w1 hbel).cell 0
          have cc1 := (HBX.out w1 hbel).cell 1
          refine phf_run (.agg #[.slice Ap np cp, .bool false]) rfl ?_ rfl
          clear hb hdep hdap hold
          go_simp
        · intro x w1 bA hbel hdep hdap hold hb
          refine ⟨fun _ => ?_, fun h => absurd h (by decide)⟩
          have e0 : bA.tmps[0]?.getD undef = .slice (some ⟨b, o, none⟩) n c := hb 0
          refine phf_run (.slice (some ⟨b, o, none⟩) n c) rfl ?_ rfl
          clear hb hdep hdap hold
          go_simp
        · intro x w1 bA hbel hdep hdap hold hb
          refine ⟨fun _ => ?_, fun h => absurd h (by decide)⟩
          have e8 : bA.tmps[8]?.getD undef = .int .i64 (k : Int) := hb 8
          refine phf_run (.int .i64 (k : Int)) rfl ?_ rfl
          clear hb hdep hdap hold
          go_simp
        · intro x w1 bA hbel hdep hdap hold hb
          refine ⟨fun _ => ?_, fun h => absurd h (by decide)⟩
          have e24 : bA.tmps[24]?.getD undef = .slice (some ⟨b, o, none⟩) n c := (hb 24).trans (hdep 1 (by decide))
          have e25 : bA.tmps[25]?.getD undef = .int .i64 (k : Int) := (hb 25).trans (hdep 2 (by decide))
          refine phf_run (.slice (some ⟨b, o, none⟩) k c) rfl ?_ rfl
          clear hb hdep hdap hold
          go_simp
        · intro x w1 bA hbel hdep hdap hold hb
          refine ⟨fun _ => ?_, fun h => absurd h (by decide)⟩
          have e2 : bA.tmps[2]?.getD undef = .slice A2 n2 c2 := hb 2
          refine phf_run (.slice A2 n2 c2) rfl ?_ rfl
          clear hb hdep hdap hold
          go_simp
        · intro x w1 bA hbel hdep hdap hold hb
          refine ⟨fun _ => ?_, fun h => absurd h (by decide)⟩
          have e26 : bA.tmps[26]?.getD undef = .slice (some ⟨b, o, none⟩) k c := (hb 26).trans (hdep 3 (by decide))
          have e27 : bA.tmps[27]?.getD undef = .slice A2 n2 c2 := (hb 27).trans (hdep 4 (by decide))
          refine phf_call ?_ ((HDG.out w1 hbel).mono fun e w' h => ⟨_, h.1, by rw [← h.2]; exact Below.refl _ _, rfl, fun e => Bool.noConfusion e⟩)
          clear hb hdep hdap hold
          go_simp
        · intro x w1 bA hbel hdep hdap hold hb
          refine ⟨fun _ => ?_, fun h => absurd h (by decide)⟩
          refine phf_make (.slice (some ⟨w1.heap.size, 0, none⟩) 1 1) (w1.alloc (.cells #[.int .i64 (1)] 3)) ?_ ((Below.refl _ _).alloc (Nat.le_refl _) _) (SlA.ints (OwnA.sl (OwnA.lit (e := 3) (sz := 1) (enc := ei) (xs := [1]) (fun y _ => rfl) (Nat.le_refl w1.heap.size) (by simp) (by simp)))) (fun h => Bool.noConfusion h)
          clear hb hdep hdap hold
          go_simp
        · intro x w1 bA hbel hdep hdap hold hb
          refine ⟨fun _ => ?_, fun h => absurd h (by decide)⟩
          have e28 : bA.tmps[28]?.getD undef = .int .i64 d := (hb 28).trans (hdep 5 (by decide))
          have p29 := hdep 6 (by decide)
          have e29 : bA.tmps[29]?.getD undef = x 6 := hb 29
          generalize x 6 = x29 at *
          have P29 := Lib.hid (show (fun (v : Value) (w : World) => Ints w v [1]) x29 w1 from p29)
          clear p29
          refine phf_call ?_ ((HOF.out w1 _ P29.out).mono fun e w' ⟨v, he, hr, hb'⟩ => ⟨v, he, hb', hr, fun e => Bool.noConfusion e⟩)
          clear hb hdep hdap hold
          go_simp
        · intro x w1 bA hbel hdep hdap hold hb
          refine ⟨fun _ => ?_, fun h => absurd h (by decide)⟩
          have e23 : bA.tmps[23]?.getD undef = .agg #[.slice Ap np cp, .bool false] := (hb 23).trans (hdep 0 (by decide))
          have p30 := hdep 7 (by decide)
          have e30 : bA.tmps[30]?.getD undef = x 7 := hb 30
          generalize x 7 = x30 at *
          have P30 := Lib.hid (show (fun (v : Value) (w : World) => RP w v (some [(d, 1)])) x30 w1 from p30)
          clear p30
          refine phf_call ?_ ((HAD.out w1 hbel _ P30.out).mono fun e w' ⟨v, he, hr, hb'⟩ => ⟨v, he, hb', hr, fun e => Bool.noConfusion e⟩)
          clear hb hdep hdap hold
          go_simp
        · intro x w1 bA hbel hdep hdap hold hb
          refine ⟨fun h => absurd h (by decide), fun _ hall => ?_⟩
          have e7 : bA.tmps[7]?.getD undef = .pointer (some ⟨pb, 0, none⟩) := hb 7
          have e31 : bA.tmps[31]?.getD undef = x 8 := hb 31
          have p29 := Lib.hid (show (fun (v : Value) (w : World) => Ints w v [1]) (x 6) w1 from hall 6 (by decide))
          have p30 := Lib.hid (show (fun (v : Value) (w : World) => RP w v (some [(d, 1)])) (x 7) w1 from hall 7 (by decide))
          have p31 := Lib.hid (show (fun (v : Value) (w : World) => RP w v (some l2)) (x 8) w1 from hall 8 (by decide))
          clear hb hdep hdap hold
          obtain ⟨bb, A6, m6, c6, e6, q1, q2⟩ := p31.out.parts
          rw [e6] at e31
          have qa := HBX.out w1 hbel
          have cc0 := qa.cell 0
          have cc1 := qa.cell 1
          have f0 := qa.frozen 0
          have f1 := qa.frozen 1
          have HNW := Lib.hid (HST.out.store hbel p31.out e6)
          clear qa hbel e6 q1 q2
          refine phs_store (x := x) (n := 9) (R := fun _ W => DvS rb pb w3 W l2) ((w1.setCell ⟨pb, 0, none⟩ (.slice A6 m6 c6)).setCell ⟨pb, 1, none⟩ (.bool bb)) ?_ rfl (fun _ => HNW.out)
          go_simp
        intro x w1 hR
        simp only [putAll, dstOf, Act.put, List.map_cons, List.map_nil, List.setIfInBounds_toArray, List.set_cons_succ, List.set_cons_zero, Nat.reduceAdd]
        have HR := Lib.hid hR
        have hcell2 : w1.cell? ⟨b, o + k, none⟩ = some (.int .i64 X) := HCE.out w1 HR.out.bel
        clear hR
        go_wp2_with fail
        go_roundg (n - (k + 1))
        case measure => omega
        case rel => exact ⟨k + 1, l2, by omega, rfl, by go_num, HR.out, HDN⟩
      · by_cases hm : X = -(gen + 1)
        · obtain ⟨e1, hd2⟩ := HMI.out hm
          have z2 : (X == gen + 1) = false := by rw [beq_eq_false_iff_ne]; exact hp
          have z3 : (X == -(gen + 1)) = true := by rw [beq_iff_eq]; exact hm
          have HDG := Lib.hid (HDG0.out (k + 1) hlt)
          have HADD := Lib.hid (HAD.out (dg comp (ws.take (k + 1))) (-1) (HDB.out (k + 1) hlt) (.inr rfl))
          have HOF := Lib.hid (fun W v (hv : Ints W v [-1]) => rof_any (dg comp (ws.take (k + 1))) v [-1] W hv (by simp) (by have := HDB.out (k + 1) hlt; omega))
          have hone := of_one (d := dg comp (ws.take (k + 1))) (s := -1) (by have := HDB.out (k + 1) hlt; omega) (.inr rfl)
          rw [hone] at HOF
          rw [e1] at HADD
          have HDN := Lib.hid hd2
          generalize colL (insL l (dg comp (ws.take (k + 1))) (-1)) = l2 at *
          generalize dg comp (ws.take (k + 1)) = d at *
          have HAD := HADD
          clear HADD hone e1 hd2 HPL HMI HSK HDG0 HDB HXK HRP
          have zk : k + 1 ≤ c := by omega
          have HWK := Lib.hid (show IntKind.i64.wrap ((k : Int) + 1) = (k : Int) + 1 from IntWalk.i64_in _ (by omega))
          have zk2 : (k : Int) + 1 ≤ (c : Int) := by omega
          clear hp hm
          go_upto_region 8 with fail
          clear hcell
          refine wp_region_phis 10 (by kernel_rfl) (by kernel_rfl) (by kernel_rfl) (by kernel_rfl) (by kernel_rfl) rfl (by kernel_rfl) (phiT (fun i => ([some (.agg #[.slice Ap np cp, .bool false]), some (.slice (some ⟨b, o, none⟩) n c), some (.int .i64 (k : Int)), some (.int .i64 ((k : Int) + 1)), some (.slice (some ⟨b, o, none⟩) (k + 1) c), some (.slice A2 n2 c2), some (.int .i64 d), none, none, none, some (undef)] : List (Option Value)).getD i none) (fun i v w => (if i = 7 then (fun (v : Value) (w : World) => Ints w v [-1]) v w else (if i = 8 then (fun (v : Value) (w : World) => RP w v (some [(d, -1)])) v w else (if i = 9 then (fun (v : Value) (w : World) => RP w v (some l2)) v w else True))))) (fun i v w w' h hb => ?_) (fun i => false) (fun i v w hi h k hk => ?_) (fun _ W => DvS rb pb w3 W l2) ⟨?_, ?_, ?_, ?_, ?_, ?_, ?_, ?_, ?_, ?_, ?_, trivial⟩ ?_
          · unfold phiT at h ⊢
            split
            · next u hu => rw [hu] at h; exact h
            · next hu =>
              rw [hu] at h
              simp only at h ⊢
              by_cases q7 : i = 7
              · rw [if_pos q7] at h ⊢; exact (show Ints _ _ _ from h).below hb
              · rw [if_neg q7] at h ⊢
                by_cases q8 : i = 8
                · rw [if_pos q8] at h ⊢; exact (show RP _ _ _ from h).below hb
                · rw [if_neg q8] at h ⊢
                  by_cases q9 : i = 9
                  · rw [if_pos q9] at h ⊢; exact (show RP _ _ _ from h).below hb
                  · rw [if_neg q9] at h ⊢
                    trivial
          · simp only [Bool.or_eq_true, decide_eq_true_eq, Bool.false_eq_true] at hi
          · intro x w1 bA hbel hdep hdap hold hb
            refine ⟨fun _ => ?_, fun h => absurd h (by decide)⟩
            have e7 : bA.tmps[7]?.getD undef = .pointer (some ⟨pb, 0, none⟩) := hb 7
            have cc0 := (HBX.out w1 hbel).cell 0
            have cc1 := (HBX.out w1 hbel).cell 1
            refine phf_run (.agg #[.slice Ap np cp, .bool false]) rfl ?_ rfl
            clear hb hdep hdap hold
            go_simp
          · intro x w1 bA hbel hdep hdap hold hb
            refine ⟨fun _ => ?_, fun h => absurd h (by decide)⟩
            have e0 : bA.tmps[0]?.getD undef = .slice (some ⟨b, o, none⟩) n c := hb 0
            refine phf_run (.slice (some ⟨b, o, none⟩) n c) rfl ?_ rfl
            clear hb hdep hdap hold
            go_simp
          · intro x w1 bA hbel hdep hdap hold hb
            refine ⟨fun _ => ?_, fun h => absurd h (by decide)⟩
            have e8 : bA.tmps[8]?.getD undef = .int .i64 (k : Int) := hb 8
            refine phf_run (.int .i64 (k : Int)) rfl ?_ rfl
            clear hb hdep hdap hold
            go_simp
          · intro x w1 bA hbel hdep hdap hold hb
            refine ⟨fun _ => ?_, fun h => absurd h (by decide)⟩
            have e42 : bA.tmps[42]?.getD undef = .int .i64 (k : Int) := (hb 42).trans (hdep 2 (by decide))
            have ww := HWK.out
            refine phf_run (.int .i64 ((k : Int) + 1)) rfl ?_ rfl
            clear hb hdep hdap hold
            go_simp
          · intro x w1 bA hbel hdep hdap hold hb
            refine ⟨fun _ => ?_, fun h => absurd h (by decide)⟩
            have e41 : bA.tmps[41]?.getD undef = .slice (some ⟨b, o, none⟩) n c := (hb 41).trans (hdep 1 (by decide))
            have e43 : bA.tmps[43]?.getD undef = .int .i64 ((k : Int) + 1) := (hb 43).trans (hdep 3 (by decide))
            have hnn : ¬ ((k : Int) + 1 < 0) := by omega
            refine phf_run (.slice (some ⟨b, o, none⟩) (k + 1) c) rfl ?_ rfl
            clear hb hdep hdap hold
            go_simp
          · intro x w1 bA hbel hdep hdap hold hb
            refine ⟨fun _ => ?_, fun h => absurd h (by decide)⟩
            have e2 : bA.tmps[2]?.getD undef = .slice A2 n2 c2 := hb 2
            refine phf_run (.slice A2 n2 c2) rfl ?_ rfl
            clear hb hdep hdap hold
            go_simp
          · intro x w1 bA hbel hdep hdap hold hb
            refine ⟨fun _ => ?_, fun h => absurd h (by decide)⟩
            have e44 : bA.tmps[44]?.getD undef = .slice (some ⟨b, o, none⟩) (k + 1) c := (hb 44).trans (hdep 4 (by decide))
            have e45 : bA.tmps[45]?.getD undef = .slice A2 n2 c2 := (hb 45).trans (hdep 5 (by decide))
            refine phf_call ?_ ((HDG.out w1 hbel).mono fun e w' h => ⟨_, h.1, by rw [← h.2]; exact Below.refl _ _, rfl, fun e => Bool.noConfusion e⟩)
            clear hb hdep hdap hold
            go_simp
          · intro x w1 bA hbel hdep hdap hold hb
            refine ⟨fun _ => ?_, fun h => absurd h (by decide)⟩
            refine phf_make (.slice (some ⟨w1.heap.size, 0, none⟩) 1 1) (w1.alloc (.cells #[.int .i64 (-1)] 3)) ?_ ((Below.refl _ _).alloc (Nat.le_refl _) _) (SlA.ints (OwnA.sl (OwnA.lit (e := 3) (sz := 1) (enc := ei) (xs := [-1]) (fun y _ => rfl) (Nat.le_refl w1.heap.size) (by simp) (by simp)))) (fun h => Bool.noConfusion h)
            clear hb hdep hdap hold
            go_simp
          · intro x w1 bA hbel hdep hdap hold hb
            refine ⟨fun _ => ?_, fun h => absurd h (by decide)⟩
            have e46 : bA.tmps[46]?.getD undef = .int .i64 d := (hb 46).trans (hdep 6 (by decide))
            have p47 := hdep 7 (by decide)
            have e47 : bA.tmps[47]?.getD undef = x 7 := hb 47
            generalize x 7 = x47 at *
            have P47 := Lib.hid (show (fun (v : Value) (w : World) => Ints w v [-1]) x47 w1 from p47)
            clear p47
            refine phf_call ?_ ((HOF.out w1 _ P47.out).mono fun e w' ⟨v, he, hr, hb'⟩ => ⟨v, he, hb', hr, fun e => Bool.noConfusion e⟩)
            clear hb hdep hdap hold
            go_simp
          · intro x w1 bA hbel hdep hdap hold hb
            refine ⟨fun _ => ?_, fun h => absurd h (by decide)⟩
            have e40 : bA.tmps[40]?.getD undef = .agg #[.slice Ap np cp, .bool false] := (hb 40).trans (hdep 0 (by decide))
            have p48 := hdep 8 (by decide)
            have e48 : bA.tmps[48]?.getD undef = x 8 := hb 48
            generalize x 8 = x48 at *
            have P48 := Lib.hid (show (fun (v : Value) (w : World) => RP w v (some [(d, -1)])) x48 w1 from p48)
            clear p48
            refine phf_call ?_ ((HAD.out w1 hbel _ P48.out).mono fun e w' ⟨v, he, hr, hb'⟩ => ⟨v, he, hb', hr, fun e => Bool.noConfusion e⟩)
            clear hb hdep hdap hold
            go_simp
          · intro x w1 bA hbel hdep hdap hold hb
            refine ⟨fun h => absurd h (by decide), fun _ hall => ?_⟩
            have e7 : bA.tmps[7]?.getD undef = .pointer (some ⟨pb, 0, none⟩) := hb 7
            have e49 : bA.tmps[49]?.getD undef = x 9 := hb 49
            have p47 := Lib.hid (show (fun (v : Value) (w : World) => Ints w v [-1]) (x 7) w1 from hall 7 (by decide))
            have p48 := Lib.hid (show (fun (v : Value) (w : World) => RP w v (some [(d, -1)])) (x 8) w1 from hall 8 (by decide))
            have p49 := Lib.hid (show (fun (v : Value) (w : World) => RP w v (some l2)) (x 9) w1 from hall 9 (by decide))
            clear hb hdep hdap hold
            obtain ⟨bb, A6, m6, c6, e6, q1, q2⟩ := p49.out.parts
            rw [e6] at e49
            have qa := HBX.out w1 hbel
            have cc0 := qa.cell 0
            have cc1 := qa.cell 1
            have f0 := qa.frozen 0
            have f1 := qa.frozen 1
            have HNW := Lib.hid (HST.out.store hbel p49.out e6)
            clear qa hbel e6 q1 q2
            refine phs_store (x := x) (n := 10) (R := fun _ W => DvS rb pb w3 W l2) ((w1.setCell ⟨pb, 0, none⟩ (.slice A6 m6 c6)).setCell ⟨pb, 1, none⟩ (.bool bb)) ?_ rfl (fun _ => HNW.out)
            go_simp
          intro x w1 hR
          simp only [putAll, dstOf, Act.put, List.map_cons, List.map_nil, List.setIfInBounds_toArray, List.set_cons_succ, List.set_cons_zero, Nat.reduceAdd]
          have HR := Lib.hid hR
          clear hR
          go_wp2_with fail
          go_roundg (n - (k + 1))
          case measure => omega
          case rel => exact ⟨k + 1, l2, by omega, rfl, by go_num, HR.out, HDN⟩
        · have z2 : (X == gen + 1) = false := by rw [beq_eq_false_iff_ne]; exact hp
          have z3 : (X == -(gen + 1)) = false := by rw [beq_eq_false_iff_ne]; exact hm
          have HDN := Lib.hid (HSK.out hp hm)
          clear hp hm HPL HMI HSK HDG0 HDB HXK HRP HAD
          go_wp2_with fail
          go_roundg (n - (k + 1))
          case measure => omega
          case rel => exact ⟨k + 1, l, by omega, rfl, by go_num, HST.out, HDN⟩
    · have z1 : ¬ (k : Int) < (n : Int) := by omega
      obtain rfl : k = n := by omega
      have qb := HBX.out wr (Below.refl _ _)
      have y0 := qb.cell 0
      have y1 := qb.cell 1
      have qr := HST.out.res
      have x0 := qr.cell 0
      have x1 := qr.cell 1
      have f0 := qr.frozen 0
      have f1 := qr.frozen 1
      have HRS := Lib.hid ((qr.set 0 (.slice Ap l.length cp)).set 1 (.bool false))
      have HPB := Lib.hid ((HRP.out wr (Below.refl _ _)).box qr (.slice Ap l.length cp) (.bool false))
      have HBE := Lib.hid ((HST.out.bel.setCell (p := ⟨rb, 0, none⟩) (Nat.le_refl _) (.slice Ap l.length cp)).setCell (p := ⟨rb, 1, none⟩) (Nat.le_refl _) (.bool false))
      clear hst hbx hsl qb qr
      go_wp2_with fail
      refine bodyPost_ret (v := .agg #[.slice Ap l.length cp, .bool false]) (results_c Tryd.results16 _ _ rb 36 _ _ rfl HRS.out Tryd.underlying36 rfl info_rp) rfl ?_
      exact ⟨_, rfl, l, HPB.out, HD.out, by rw [← HRB.out]; exact HB3.out.trans (HBE.out)⟩
end Go.Proofs.YtlbihllmpbhhcaaDoor
