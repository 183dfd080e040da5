/- laurent.products: the walk, by a property of what the closure has been given. -/
import Derived.Test.YtjeklcgfffibpaaGreatDoorZCv
import Derived.Test.YtjeklcgfffibpaaGreatDoorZPad
import Derived.Test.YtjeklcgfffibpaaGreatDoorZPhs
import Derived.Test.YtjeklcgfffibpaaGreatDoorZAps
namespace Go.Proofs.YtjeklcgfffibpaaGreatDoor
open Go.RowKit
set_option linter.unusedVariables false

section
variable {P : Program} {Q : Exit → Act → World → Prop} {o : Oper} {b : Act} {w : World}
theorem phl_call {R : World → Prop} (f : FuncId) (args : Array Value) (h : (execOp b.eval o).run P w = .ok (.enter f args) w) (hc : Calls P f args w fun e w' => ∃ v, e = .returned v ∧ R w') : o.wp P b w (fun a' w' => ∃ v, a' = b.put o.dst v ∧ R w') NoQ := by
  unfold Oper.wp; rw [h]
  simp only [Oper.upon]
  refine hc.mono ?_
  rintro e w' ⟨v, rfl, hv⟩
  exact ⟨v, rfl, hv⟩
theorem phl_store {R : World → Prop} (W : World) (h : (execOp b.eval o).run P w = .ok .skip W) (ho : o.dst = none) (hR : R W) : o.wp P b w (fun a' w' => ∃ v, a' = b.put o.dst v ∧ R w') NoQ := by
  unfold Oper.wp; rw [h]; exact ⟨undef, by rw [ho], hR⟩
end
theorem Oth.set {base g : Nat} {w w1 : World} (h : Oth base [g] none w w1) (hb : base ≤ g) (j : Nat) (u : Value) : Oth base [g] none w (w1.setCell ⟨g, j, none⟩ u) :=
  ⟨h.below.setCell (p := ⟨g, j, none⟩) hb u, fun k hk h1 h2 => (Below.heap_setCell w1 ⟨g, j, none⟩ u k (by show k ≠ g; simpa using h1)).trans (h.keep k hk h1 h2)⟩
theorem Oth.refl1 (base g : Nat) (w : World) : Oth base [g] none w w := ⟨Below.refl _ _, fun _ _ _ _ => rfl⟩
theorem Oth.trans1 {base g : Nat} {w w1 w2 : World} (h : Oth base [g] none w w1) (k : Oth base [g] none w1 w2) : Oth base [g] none w w2 :=
  ⟨h.below.trans k.below, fun j hj h1 h2 => (k.keep j (Nat.lt_of_lt_of_le hj h.below.size) h1 h2).trans (h.keep j hj h1 h2)⟩
theorem Oth.grow {base g : Nat} {w w1 w2 : World} (h : Oth base [g] none w w1) (hb : Below w1.heap.size w1 w2) (hs : base ≤ w1.heap.size) : Oth base [g] none w w2 :=
  ⟨h.below.trans (hb.mono hs), fun j hj h1 h2 => (hb.block j (Nat.lt_of_lt_of_le hj h.below.size)).trans (h.keep j hj h1 h2)⟩
theorem Oth.at_ {base g k : Nat} {w w' : World} {t : TypeId} {cs : List Value} (h : Oth base [g] none w w') (ha : Arr w k t cs) (h1 : k ≠ g) : Arr w' k t cs := h.arr ha (by simpa using h1) (by simp)
theorem take_map {l : List (Int × Int)} {i : Nat} (h : i < l.length) (f : Int × Int → Int × Int) : (l.take (i + 1)).map f = (l.take i).map f ++ [f l[i]] := by
  rw [List.take_add_one, List.getElem?_eq_getElem h, List.map_append]; rfl
theorem prs_take {p q : List (Int × Int)} {i : Nat} (h : i < p.length) : prs (p.take (i + 1)) q = prs (p.take i) q ++ q.map (fun t => (p[i].1 + t.1, p[i].2 * t.2)) := by
  rw [List.take_add_one, List.getElem?_eq_getElem h, prs_append]
  simp [prs]
/-- what has been given so far, what comes next -/
theorem prs_next {p q : List (Int × Int)} {i j : Nat} (hi : i < p.length) (hj : j < q.length) : ∃ rest, prs p q = (prs (p.take i) q ++ (q.take j).map (fun t => (p[i].1 + t.1, p[i].2 * t.2))) ++ (p[i].1 + q[j].1, p[i].2 * q[j].2) :: rest := by
  have e1 : p = p.take i ++ (p[i] :: p.drop (i + 1)) := by rw [← List.drop_eq_getElem_cons hi, List.take_append_drop]
  have e2 : q = q.take j ++ (q[j] :: q.drop (j + 1)) := by rw [← List.drop_eq_getElem_cons hj, List.take_append_drop]
  refine ⟨(q.drop (j + 1)).map (fun t => (p[i].1 + t.1, p[i].2 * t.2)) ++ prs (p.drop (i + 1)) q, ?_⟩
  have h1 : prs p q = prs (p.take i) q ++ (q.map (fun t => (p[i].1 + t.1, p[i].2 * t.2)) ++ prs (p.drop (i + 1)) q) := by
    conv => lhs; rw [e1]
    rw [prs_append]; rfl
  have h2 : q.map (fun t => (p[i].1 + t.1, p[i].2 * t.2)) = (q.take j).map (fun t => (p[i].1 + t.1, p[i].2 * t.2)) ++ (p[i].1 + q[j].1, p[i].2 * q[j].2) :: (q.drop (j + 1)).map (fun t => (p[i].1 + t.1, p[i].2 * t.2)) := by
    conv => lhs; rw [e2]
    rw [List.map_append, List.map_cons]
  rw [h1, h2]
  simp only [List.append_assoc, List.cons_append]
theorem PolyV.tms_of {w : World} {b : Bool} {A : Option Addr} {n c : Nat} {l : List (Int × Int)} (h : PolyV w (.agg #[.bool b, .slice A n c]) (some l)) : n = l.length ∧ Tms w (.slice A n c) l := by
  obtain ⟨A', c', e, ht⟩ := h
  simp only [Value.agg.injEq, Array.mk.injEq, List.cons.injEq, Value.slice.injEq, Option.getD_some] at e ht
  obtain ⟨_, ⟨rfl, rfl, rfl⟩, _⟩ := e
  exact ⟨rfl, ht⟩
/-- what a closure does with the products that it is given -/
structure CloP (K : FuncId) (caps : List Value) (g base : Nat) (p q : List (Int × Int)) (J : List (Int × Int) → World → Prop) : Prop where
  eg : ∀ args W, (callFunc K args).run Tryz.prog W = .ok (.enter K args) W
  st : ∀ done e c rest W, prs p q = done ++ (e, c) :: rest → J done W → Calls Tryz.prog K (.int .i64 e :: .agg #[.int .u64 ((hiN (rs c) : Nat) : Int), .int .u64 ((loN (rs c) : Nat) : Int)] :: caps).toArray W fun en w' => en = .returned (.tuple #[]) ∧ J (done ++ [(e, c)]) w' ∧ Oth base [g] none W w'
  kp : ∀ done W W', J done W → Below W.heap.size W W' → J done W'
set_option maxHeartbeats 2000000 in
set_option maxRecDepth 100000 in
theorem products_reg1 (K : FuncId) (u1 : Value) (g base : Nat) (p q : List (Int × Int)) (J : List (Int × Int) → World → Prop) (hK : CloP K [u1] g base p q J) (vp vq : Value) (w : World)
    (hp : ∀ W, Below base w W → PolyV W vp (some p)) (hq : ∀ W, Below base w W → PolyV W vq (some q)) (lp : Lim p) (kp : Can p) (lq : Lim q) (kq : Can q) (hbs : base ≤ w.heap.size) (hg : g < w.heap.size) (h0 : J [] w) :
    Calls Tryz.prog 38 #[vp, vq, .func (.func K) #[] #[u1]] w fun e w' => e = .returned (.tuple #[]) ∧ J (prs p q) w' ∧ Oth base [g] none w w' := by
  have HK := Lib.hid hK
  have HP := Lib.hid hp
  have HQ := Lib.hid hq
  have hlp : p.length ≤ 1000000000 := by have := lp.len kp; omega
  have hlq : q.length ≤ 1000000000 := by have := lq.len kq; omega
  have HLP := Lib.hid lp
  have HLQ := Lib.hid lq
  obtain ⟨A, c, rfl, _⟩ := hp w (Below.refl _ _)
  obtain ⟨A2, c2, rfl, _⟩ := hq w (Below.refl _ _)
  clear hK hp hq lp kp lq kq
  simp only [Option.isNone_some, Option.getD_some] at HP HQ ⊢
  have hW : ∀ W, W = ((w.alloc (.cells #[.bool false, .slice A p.length c] 39)).alloc (.cells #[.bool false, .slice A2 q.length c2] 39)) → Arr W w.heap.size 39 [.bool false, .slice A p.length c] ∧ Arr W (w.heap.size + 1) 39 [.bool false, .slice A2 q.length c2] ∧ Below w.heap.size w W ∧ W.heap.size = w.heap.size + 2 := by
    intro W hW
    subst hW
    exact ⟨(Arr.new _ _ [_, _]).alloc _, Arr.newAt (w.alloc _) _ [_, _] _ (by simp), ((Below.refl _ _).alloc (Nat.le_refl _) _).alloc (by simp) _, by simp⟩
  go_enter Tryz.func38, Tryz.ntmps38
  go_upto_region 1 with fail
  generalize ((w.alloc (.cells #[.bool false, .slice A p.length c] 39)).alloc (.cells #[.bool false, .slice A2 q.length c2] 39)) = w3 at hW ⊢
  obtain ⟨qp, qq, hb3, hs3⟩ := hW w3 rfl
  clear hW
  have HST := Lib.hid (show J [] w3 ∧ Arr w3 w.heap.size 39 [.bool false, .slice A p.length c] ∧ Arr w3 (w.heap.size + 1) 39 [.bool false, .slice A2 q.length c2] ∧ Oth base [g] none w w3 from ⟨HK.out.kp _ _ _ h0 hb3, qp, qq, (Oth.refl1 base g w).grow hb3 hbs⟩)
  have y0 := qp.cell 0
  have y1 := qp.cell 1
  clear h0 qp qq hb3
  go_wp2_with fail
  clear y0 y1
  go_loopg [13] p.length (fun gk s13 wr => ∃ (i : Nat), i ≤ p.length ∧ gk = p.length - i ∧ s13 = .int .i64 (i : Int) ∧ Hid (J (prs (p.take i) q) wr ∧ Arr wr w.heap.size 39 [.bool false, .slice A p.length c] ∧ Arr wr (w.heap.size + 1) 39 [.bool false, .slice A2 q.length c2] ∧ Oth base [g] none w wr))
  case atStart => exact ⟨0, Nat.zero_le _, rfl, rfl, HST⟩
  case round =>
    clear HST hs3
    obtain ⟨i, hi, rfl, rfl, HR⟩ := hrel
    by_cases hlt : i < p.length
    · have z1 : (i : Int) < (p.length : Int) := by omega
      obtain ⟨b, o', rfl, _, hc0, hc1⟩ := (HP.out wr HR.out.2.2.2.below).tms_of.2.at_ hlt
      have HSC := Lib.hid (HLP.out.co _ (List.getElem_mem hlt))
      have HSX := Lib.hid (HLP.out.ex _ (List.getElem_mem hlt))
      have HN := Lib.hid (fun j (hj : j < q.length) => prs_next (q := q) hlt hj)
      have HPT := Lib.hid (prs_take (q := q) hlt)
      have HHB := Lib.hid HR.out.2.2.2.below.size
      generalize hse : p[i].1 = se at *
      generalize hsc : p[i].2 = sc at *
      clear hse hsc
      obtain ⟨wo, rfl⟩ : ∃ wo, wo = wr := ⟨_, rfl⟩
      have hWo : ∀ W, W = wo.alloc (.cells #[.int .i64 se, .int .i64 sc] 68) → Arr W wo.heap.size 68 [.int .i64 se, .int .i64 sc] ∧ Below wo.heap.size wo W := by
        intro W hW
        subst hW
        exact ⟨Arr.new _ _ [_, _], (Below.refl _ _).alloc (Nat.le_refl _) _⟩
      have x1 := HR.out.2.2.1.cell 1
      go_upto_region 4 with fail
      generalize (wo.alloc (.cells #[.int .i64 se, .int .i64 sc] 68)) = w5 at hWo ⊢
      obtain ⟨qs, hb5⟩ := hWo w5 rfl
      clear hWo hc0 hc1 x1
      have HST := Lib.hid (show J (prs (p.take i) q ++ (q.take 0).map (fun t => (se + t.1, sc * t.2))) w5 ∧ Arr w5 w.heap.size 39 [.bool false, .slice (some ⟨b, o', none⟩) p.length c] ∧ Arr w5 (w.heap.size + 1) 39 [.bool false, .slice A2 q.length c2] ∧ Arr w5 wo.heap.size 68 [.int .i64 se, .int .i64 sc] ∧ Oth base [g] none w w5 from
        ⟨by rw [List.take_zero, List.map_nil, List.append_nil]; exact HK.out.kp _ _ _ HR.out.1 hb5, HR.out.2.1.below hb5 HR.out.2.1.lt, HR.out.2.2.1.below hb5 HR.out.2.2.1.lt, qs, HR.out.2.2.2.grow hb5 (by have := HHB.out; omega)⟩)
      have x1 := HST.out.2.2.1.cell 1
      clear HR qs hb5
      go_wp2_with fail
      clear x1
      go_loopg [20] q.length (fun gk s20 wr => ∃ (j : Nat), j ≤ q.length ∧ gk = q.length - j ∧ s20 = .int .i64 (j : Int) ∧ Hid (J (prs (p.take i) q ++ (q.take j).map (fun t => (se + t.1, sc * t.2))) wr ∧ Arr wr w.heap.size 39 [.bool false, .slice (some ⟨b, o', none⟩) p.length c] ∧ Arr wr (w.heap.size + 1) 39 [.bool false, .slice A2 q.length c2] ∧ Arr wr wo.heap.size 68 [.int .i64 se, .int .i64 sc] ∧ Oth base [g] none w wr))
      case atStart => exact ⟨0, Nat.zero_le _, rfl, rfl, HST⟩
      case round =>
        clear HST
        obtain ⟨j, hj, rfl, rfl, HR⟩ := hrel
        by_cases hlj : j < q.length
        · have z2 : (j : Int) < (q.length : Int) := by omega
          obtain ⟨b2, o2, rfl, _, hd0, hd1⟩ := (HQ.out wr HR.out.2.2.2.2.below).tms_of.2.at_ hlj
          have HTC := Lib.hid (HLQ.out.co _ (List.getElem_mem hlj))
          have HTX := Lib.hid (HLQ.out.ex _ (List.getElem_mem hlj))
          obtain ⟨rest, hrest⟩ := HN.out j hlj
          have HRS := Lib.hid hrest
          have HJT := Lib.hid (take_map hlj (fun t => (se + t.1, sc * t.2)))
          clear hrest
          generalize hte : q[j].1 = te at *
          generalize htc : q[j].2 = tc_ at *
          have hBsz : w.heap.size + 2 ≤ wr.heap.size := by have := HR.out.2.2.1.lt; omega
          have hWt : ∀ W, W = wr.alloc (.cells #[.int .i64 te, .int .i64 tc_] 68) → Arr W wr.heap.size 68 [.int .i64 te, .int .i64 tc_] ∧ Below wr.heap.size wr W ∧ W.heap.size = wr.heap.size + 1 := by
            intro W hW
            subst hW
            exact ⟨Arr.new _ _ [_, _], (Below.refl _ _).alloc (Nat.le_refl _) _, by simp⟩
          go_upto_region 7 with fail
          generalize (wr.alloc (.cells #[.int .i64 te, .int .i64 tc_] 68)) = w7 at hWt ⊢
          obtain ⟨qt, hb7, hs7⟩ := hWt w7 rfl
          obtain ⟨done, hdone⟩ : ∃ d, d = prs (p.take i) q ++ (q.take j).map (fun t => (se + t.1, sc * t.2)) := ⟨_, rfl⟩
          have HJ := Lib.hid (show J done w7 by rw [hdone]; exact HK.out.kp _ _ _ HR.out.1 hb7)
          have HNX := Lib.hid (show ∀ W, J (done ++ [(se + te, sc * tc_)]) W → J (prs (p.take i) q ++ (q.take (j + 1)).map (fun t => (se + t.1, sc * t.2))) W from fun W h => by rw [HJT.out, ← List.append_assoc, ← hdone]; exact h)
          rw [← hdone] at HRS
          have QS := Lib.hid (HR.out.2.2.2.1.below hb7 HR.out.2.2.2.1.lt)
          have QT := Lib.hid qt
          have QP := Lib.hid (HR.out.2.1.below hb7 HR.out.2.1.lt)
          have QQ := Lib.hid (HR.out.2.2.1.below hb7 HR.out.2.2.1.lt)
          have HO7 := Lib.hid (HR.out.2.2.2.2.grow hb7 (by omega))
          have HBS := Lib.hid (show base ≤ w7.heap.size by omega)
          have HGN := Lib.hid (show g ≠ w.heap.size ∧ g ≠ w.heap.size + 1 ∧ g ≠ wo.heap.size from ⟨by omega, by omega, by have := HHB.out; omega⟩)
          have HWR := Lib.hid (show IntKind.i64.wrap (se + te) = se + te from IntWalk.i64_in _ (by have := HSX.out; have := HTX.out; omega))
          obtain ⟨Bs, hBs⟩ : ∃ B, B = wo.heap.size := ⟨_, rfl⟩
          obtain ⟨Bt, hBt⟩ : ∃ B, B = wr.heap.size := ⟨_, rfl⟩
          have HBB := Lib.hid hBs
          rw [← hBs] at QS HR HGN ⊢
          rw [← hBt] at QT ⊢
          clear hte htc hd0 hd1 hb7 hs7 qt HR hdone HJT hBs hBt hBsz
          refine wp_region_phis 11 (by kernel_rfl) (by kernel_rfl) (by kernel_rfl) (by kernel_rfl) (by kernel_rfl) rfl (by kernel_rfl) (phiT (fun i => ([some (.func (.func K) #[] #[u1]), some (.pointer (some ⟨Bs, 0, none⟩)), some (.int .i64 se), some (.pointer (some ⟨Bt, 0, none⟩)), some (.int .i64 te), some (.int .i64 (se + te)), some (.pointer (some ⟨Bs, 1, none⟩)), some (.int .i64 sc), some (.pointer (some ⟨Bt, 1, none⟩)), some (.int .i64 tc_), some (.agg #[.int .u64 ((hiN (rs (sc * tc_)) : Nat) : Int), .int .u64 ((loN (rs (sc * tc_)) : Nat) : Int)]), some (.tuple #[])] : List (Option Value)).getD i none) (fun i v w => True)) (fun i v w w' h hb => ?_) (fun i => false) (fun i v w hi h k hk => ?_) (fun _ W => J (done ++ [(se + te, sc * tc_)]) W ∧ Oth base [g] none w7 W) ⟨?_, ?_, ?_, ?_, ?_, ?_, ?_, ?_, ?_, ?_, ?_, ?_, trivial⟩ ?_
          · unfold phiT at h ⊢
            split
            · next u hu => rw [hu] at h; exact h
            · next hu =>
              rw [hu] at h
              exact True.intro
          · simp only [Bool.or_eq_true, decide_eq_true_eq, Bool.false_eq_true] at hi
          · intro x w1 bA hbel hdep hdap hold hb
            refine ⟨fun _ => ?_, fun h => absurd h (by decide)⟩
            have e2 : bA.tmps[2]?.getD undef = .func (.func K) #[] #[u1] := hb 2
            refine phf_run (.func (.func K) #[] #[u1]) rfl ?_ rfl
            clear hb hdep hdap hold
            go_simp
          · intro x w1 bA hbel hdep hdap hold hb
            refine ⟨fun _ => ?_, fun h => absurd h (by decide)⟩
            have e7 : bA.tmps[7]?.getD undef = .pointer (some ⟨Bs, 0, none⟩) := hb 7
            refine phf_run (.pointer (some ⟨Bs, 0, none⟩)) rfl ?_ rfl
            clear hb hdep hdap hold
            go_simp
          · intro x w1 bA hbel hdep hdap hold hb
            refine ⟨fun _ => ?_, fun h => absurd h (by decide)⟩
            have e25 : bA.tmps[25]?.getD undef = .pointer (some ⟨Bs, 0, none⟩) := (hb 25).trans (hdep 1 (by decide))
            have cc := (QS.out.below hbel QS.out.lt).cell 0
            refine phf_run (.int .i64 se) rfl ?_ rfl
            clear hb hdep hdap hold
            go_simp
          · intro x w1 bA hbel hdep hdap hold hb
            refine ⟨fun _ => ?_, fun h => absurd h (by decide)⟩
            have e9 : bA.tmps[9]?.getD undef = .pointer (some ⟨Bt, 0, none⟩) := hb 9
            refine phf_run (.pointer (some ⟨Bt, 0, none⟩)) rfl ?_ rfl
            clear hb hdep hdap hold
            go_simp
          · intro x w1 bA hbel hdep hdap hold hb
            refine ⟨fun _ => ?_, fun h => absurd h (by decide)⟩
            have e27 : bA.tmps[27]?.getD undef = .pointer (some ⟨Bt, 0, none⟩) := (hb 27).trans (hdep 3 (by decide))
            have cc := (QT.out.below hbel QT.out.lt).cell 0
            refine phf_run (.int .i64 te) rfl ?_ rfl
            clear hb hdep hdap hold
            go_simp
          · intro x w1 bA hbel hdep hdap hold hb
            refine ⟨fun _ => ?_, fun h => absurd h (by decide)⟩
            have e26 : bA.tmps[26]?.getD undef = .int .i64 se := (hb 26).trans (hdep 2 (by decide))
            have e28 : bA.tmps[28]?.getD undef = .int .i64 te := (hb 28).trans (hdep 4 (by decide))
            have cw := HWR.out
            refine phf_run (.int .i64 (se + te)) rfl ?_ rfl
            clear hb hdep hdap hold
            go_simp
          · intro x w1 bA hbel hdep hdap hold hb
            refine ⟨fun _ => ?_, fun h => absurd h (by decide)⟩
            have e7 : bA.tmps[7]?.getD undef = .pointer (some ⟨Bs, 0, none⟩) := hb 7
            refine phf_run (.pointer (some ⟨Bs, 1, none⟩)) rfl ?_ rfl
            clear hb hdep hdap hold
            go_simp
          · intro x w1 bA hbel hdep hdap hold hb
            refine ⟨fun _ => ?_, fun h => absurd h (by decide)⟩
            have e30 : bA.tmps[30]?.getD undef = .pointer (some ⟨Bs, 1, none⟩) := (hb 30).trans (hdep 6 (by decide))
            have cc := (QS.out.below hbel QS.out.lt).cell 1
            refine phf_run (.int .i64 sc) rfl ?_ rfl
            clear hb hdep hdap hold
            go_simp
          · intro x w1 bA hbel hdep hdap hold hb
            refine ⟨fun _ => ?_, fun h => absurd h (by decide)⟩
            have e9 : bA.tmps[9]?.getD undef = .pointer (some ⟨Bt, 0, none⟩) := hb 9
            refine phf_run (.pointer (some ⟨Bt, 1, none⟩)) rfl ?_ rfl
            clear hb hdep hdap hold
            go_simp
          · intro x w1 bA hbel hdep hdap hold hb
            refine ⟨fun _ => ?_, fun h => absurd h (by decide)⟩
            have e32 : bA.tmps[32]?.getD undef = .pointer (some ⟨Bt, 1, none⟩) := (hb 32).trans (hdep 8 (by decide))
            have cc := (QT.out.below hbel QT.out.lt).cell 1
            refine phf_run (.int .i64 tc_) rfl ?_ rfl
            clear hb hdep hdap hold
            go_simp
          · intro x w1 bA hbel hdep hdap hold hb
            refine ⟨fun _ => ?_, fun h => absurd h (by decide)⟩
            have e31 : bA.tmps[31]?.getD undef = .int .i64 sc := (hb 31).trans (hdep 7 (by decide))
            have e33 : bA.tmps[33]?.getD undef = .int .i64 tc_ := (hb 33).trans (hdep 9 (by decide))
            refine phf_call ?_ ((product_any sc tc_ w1 HSC.out HTC.out).mono fun e w' h => ⟨_, h.1, h.2, rfl, fun e => Bool.noConfusion e⟩)
            clear hb hdep hdap hold
            go_simp
          · intro x w1 bA hbel hdep hdap hold hb
            refine ⟨fun h => absurd h (by decide), fun _ hall => ?_⟩
            have e24 : bA.tmps[24]?.getD undef = .func (.func K) #[] #[u1] := (hb 24).trans (hdep 0 (by decide))
            have e29 : bA.tmps[29]?.getD undef = .int .i64 (se + te) := (hb 29).trans (hdep 5 (by decide))
            have e34 : bA.tmps[34]?.getD undef = .agg #[.int .u64 ((hiN (rs (sc * tc_)) : Nat) : Int), .int .u64 ((loN (rs (sc * tc_)) : Nat) : Int)] := (hb 34).trans (hdep 10 (by decide))
            clear hb hdep hdap hold
            have eg := HK.out.eg
            refine phl_call (R := fun W => J (done ++ [(se + te, sc * tc_)]) W ∧ Oth base [g] none w7 W) K #[.int .i64 (se + te), .agg #[.int .u64 ((hiN (rs (sc * tc_)) : Nat) : Int), .int .u64 ((loN (rs (sc * tc_)) : Nat) : Int)], u1] ?_ ((HK.out.st done (se + te) (sc * tc_) _ w1 HRS.out (HK.out.kp _ _ _ HJ.out hbel)).mono fun e w' h => ⟨_, h.1, h.2.1, ((Oth.refl1 base g w7).grow hbel HBS.out).trans1 h.2.2⟩)
            clear hbel
            go_simp
          intro x w1 hR
          simp only [putAll, dstOf, Act.put, List.map_cons, List.map_nil, List.setIfInBounds_toArray, List.set_cons_succ, List.set_cons_zero, Nat.reduceAdd]
          have HF := Lib.hid (show J (prs (p.take i) q ++ (q.take (j + 1)).map (fun t => (se + t.1, sc * t.2))) w1 ∧ Arr w1 w.heap.size 39 [.bool false, .slice (some ⟨b, o', none⟩) p.length c] ∧ Arr w1 (w.heap.size + 1) 39 [.bool false, .slice (some ⟨b2, o2, none⟩) q.length c2] ∧ Arr w1 wo.heap.size 68 [.int .i64 se, .int .i64 sc] ∧ Oth base [g] none w w1 from
            ⟨HNX.out _ hR.1, hR.2.at_ QP.out (Ne.symm HGN.out.1), hR.2.at_ QQ.out (Ne.symm HGN.out.2.1), by have := hR.2.at_ QS.out (Ne.symm HGN.out.2.2); rwa [HBB.out] at this, HO7.out.trans1 hR.2⟩)
          clear hR
          have hbe := HBB.out
          subst hbe
          clear HBB
          go_wp2_with fail
          go_roundg (q.length - (j + 1))
          case measure => omega
          case rel => exact ⟨j + 1, by omega, rfl, by go_num, HF⟩
        · have z2 : ¬ (j : Int) < (q.length : Int) := by omega
          have HF := Lib.hid (show J (prs (p.take (i + 1)) q) wr ∧ Arr wr w.heap.size 39 [.bool false, .slice (some ⟨b, o', none⟩) p.length c] ∧ Arr wr (w.heap.size + 1) 39 [.bool false, .slice A2 q.length c2] ∧ Oth base [g] none w wr from by
            have := HR.out
            rw [List.take_of_length_le (by omega : q.length ≤ j), ← HPT.out] at this
            exact ⟨this.1, this.2.1, this.2.2.1, this.2.2.2.2⟩)
          clear HR
          go_wp2_with fail
          go_roundg (p.length - (i + 1))
          case measure => omega
          case rel => exact ⟨i + 1, by omega, rfl, by go_num, HF⟩
    · have z1 : ¬ (i : Int) < (p.length : Int) := by omega
      have HF := Lib.hid (show J (prs p q) wr ∧ Oth base [g] none w wr from by
        have := HR.out
        rw [List.take_of_length_le (by omega)] at this
        exact ⟨this.1, this.2.2.2⟩)
      clear HR
      go_wp2_with fail
      go_end0
      exact ⟨rfl, HF.out⟩
set_option maxHeartbeats 2000000 in
set_option maxRecDepth 100000 in
theorem products_reg2 (K : FuncId) (u1 u2 : Value) (g base : Nat) (p q : List (Int × Int)) (J : List (Int × Int) → World → Prop) (hK : CloP K [u1, u2] g base p q J) (vp vq : Value) (w : World)
    (hp : ∀ W, Below base w W → PolyV W vp (some p)) (hq : ∀ W, Below base w W → PolyV W vq (some q)) (lp : Lim p) (kp : Can p) (lq : Lim q) (kq : Can q) (hbs : base ≤ w.heap.size) (hg : g < w.heap.size) (h0 : J [] w) :
    Calls Tryz.prog 38 #[vp, vq, .func (.func K) #[] #[u1, u2]] w fun e w' => e = .returned (.tuple #[]) ∧ J (prs p q) w' ∧ Oth base [g] none w w' := by
  have HK := Lib.hid hK
  have HP := Lib.hid hp
  have HQ := Lib.hid hq
  have hlp : p.length ≤ 1000000000 := by have := lp.len kp; omega
  have hlq : q.length ≤ 1000000000 := by have := lq.len kq; omega
  have HLP := Lib.hid lp
  have HLQ := Lib.hid lq
  obtain ⟨A, c, rfl, _⟩ := hp w (Below.refl _ _)
  obtain ⟨A2, c2, rfl, _⟩ := hq w (Below.refl _ _)
  clear hK hp hq lp kp lq kq
  simp only [Option.isNone_some, Option.getD_some] at HP HQ ⊢
  have hW : ∀ W, W = ((w.alloc (.cells #[.bool false, .slice A p.length c] 39)).alloc (.cells #[.bool false, .slice A2 q.length c2] 39)) → Arr W w.heap.size 39 [.bool false, .slice A p.length c] ∧ Arr W (w.heap.size + 1) 39 [.bool false, .slice A2 q.length c2] ∧ Below w.heap.size w W ∧ W.heap.size = w.heap.size + 2 := by
    intro W hW
    subst hW
    exact ⟨(Arr.new _ _ [_, _]).alloc _, Arr.newAt (w.alloc _) _ [_, _] _ (by simp), ((Below.refl _ _).alloc (Nat.le_refl _) _).alloc (by simp) _, by simp⟩
  go_enter Tryz.func38, Tryz.ntmps38
  go_upto_region 1 with fail
  generalize ((w.alloc (.cells #[.bool false, .slice A p.length c] 39)).alloc (.cells #[.bool false, .slice A2 q.length c2] 39)) = w3 at hW ⊢
  obtain ⟨qp, qq, hb3, hs3⟩ := hW w3 rfl
  clear hW
  have HST := Lib.hid (show J [] w3 ∧ Arr w3 w.heap.size 39 [.bool false, .slice A p.length c] ∧ Arr w3 (w.heap.size + 1) 39 [.bool false, .slice A2 q.length c2] ∧ Oth base [g] none w w3 from ⟨HK.out.kp _ _ _ h0 hb3, qp, qq, (Oth.refl1 base g w).grow hb3 hbs⟩)
  have y0 := qp.cell 0
  have y1 := qp.cell 1
  clear h0 qp qq hb3
  go_wp2_with fail
  clear y0 y1
  go_loopg [13] p.length (fun gk s13 wr => ∃ (i : Nat), i ≤ p.length ∧ gk = p.length - i ∧ s13 = .int .i64 (i : Int) ∧ Hid (J (prs (p.take i) q) wr ∧ Arr wr w.heap.size 39 [.bool false, .slice A p.length c] ∧ Arr wr (w.heap.size + 1) 39 [.bool false, .slice A2 q.length c2] ∧ Oth base [g] none w wr))
  case atStart => exact ⟨0, Nat.zero_le _, rfl, rfl, HST⟩
  case round =>
    clear HST hs3
    obtain ⟨i, hi, rfl, rfl, HR⟩ := hrel
    by_cases hlt : i < p.length
    · have z1 : (i : Int) < (p.length : Int) := by omega
      obtain ⟨b, o', rfl, _, hc0, hc1⟩ := (HP.out wr HR.out.2.2.2.below).tms_of.2.at_ hlt
      have HSC := Lib.hid (HLP.out.co _ (List.getElem_mem hlt))
      have HSX := Lib.hid (HLP.out.ex _ (List.getElem_mem hlt))
      have HN := Lib.hid (fun j (hj : j < q.length) => prs_next (q := q) hlt hj)
      have HPT := Lib.hid (prs_take (q := q) hlt)
      have HHB := Lib.hid HR.out.2.2.2.below.size
      generalize hse : p[i].1 = se at *
      generalize hsc : p[i].2 = sc at *
      clear hse hsc
      obtain ⟨wo, rfl⟩ : ∃ wo, wo = wr := ⟨_, rfl⟩
      have hWo : ∀ W, W = wo.alloc (.cells #[.int .i64 se, .int .i64 sc] 68) → Arr W wo.heap.size 68 [.int .i64 se, .int .i64 sc] ∧ Below wo.heap.size wo W := by
        intro W hW
        subst hW
        exact ⟨Arr.new _ _ [_, _], (Below.refl _ _).alloc (Nat.le_refl _) _⟩
      have x1 := HR.out.2.2.1.cell 1
      go_upto_region 4 with fail
      generalize (wo.alloc (.cells #[.int .i64 se, .int .i64 sc] 68)) = w5 at hWo ⊢
      obtain ⟨qs, hb5⟩ := hWo w5 rfl
      clear hWo hc0 hc1 x1
      have HST := Lib.hid (show J (prs (p.take i) q ++ (q.take 0).map (fun t => (se + t.1, sc * t.2))) w5 ∧ Arr w5 w.heap.size 39 [.bool false, .slice (some ⟨b, o', none⟩) p.length c] ∧ Arr w5 (w.heap.size + 1) 39 [.bool false, .slice A2 q.length c2] ∧ Arr w5 wo.heap.size 68 [.int .i64 se, .int .i64 sc] ∧ Oth base [g] none w w5 from
        ⟨by rw [List.take_zero, List.map_nil, List.append_nil]; exact HK.out.kp _ _ _ HR.out.1 hb5, HR.out.2.1.below hb5 HR.out.2.1.lt, HR.out.2.2.1.below hb5 HR.out.2.2.1.lt, qs, HR.out.2.2.2.grow hb5 (by have := HHB.out; omega)⟩)
      have x1 := HST.out.2.2.1.cell 1
      clear HR qs hb5
      go_wp2_with fail
      clear x1
      go_loopg [20] q.length (fun gk s20 wr => ∃ (j : Nat), j ≤ q.length ∧ gk = q.length - j ∧ s20 = .int .i64 (j : Int) ∧ Hid (J (prs (p.take i) q ++ (q.take j).map (fun t => (se + t.1, sc * t.2))) wr ∧ Arr wr w.heap.size 39 [.bool false, .slice (some ⟨b, o', none⟩) p.length c] ∧ Arr wr (w.heap.size + 1) 39 [.bool false, .slice A2 q.length c2] ∧ Arr wr wo.heap.size 68 [.int .i64 se, .int .i64 sc] ∧ Oth base [g] none w wr))
      case atStart => exact ⟨0, Nat.zero_le _, rfl, rfl, HST⟩
      case round =>
        clear HST
        obtain ⟨j, hj, rfl, rfl, HR⟩ := hrel
        by_cases hlj : j < q.length
        · have z2 : (j : Int) < (q.length : Int) := by omega
          obtain ⟨b2, o2, rfl, _, hd0, hd1⟩ := (HQ.out wr HR.out.2.2.2.2.below).tms_of.2.at_ hlj
          have HTC := Lib.hid (HLQ.out.co _ (List.getElem_mem hlj))
          have HTX := Lib.hid (HLQ.out.ex _ (List.getElem_mem hlj))
          obtain ⟨rest, hrest⟩ := HN.out j hlj
          have HRS := Lib.hid hrest
          have HJT := Lib.hid (take_map hlj (fun t => (se + t.1, sc * t.2)))
          clear hrest
          generalize hte : q[j].1 = te at *
          generalize htc : q[j].2 = tc_ at *
          have hBsz : w.heap.size + 2 ≤ wr.heap.size := by have := HR.out.2.2.1.lt; omega
          have hWt : ∀ W, W = wr.alloc (.cells #[.int .i64 te, .int .i64 tc_] 68) → Arr W wr.heap.size 68 [.int .i64 te, .int .i64 tc_] ∧ Below wr.heap.size wr W ∧ W.heap.size = wr.heap.size + 1 := by
            intro W hW
            subst hW
            exact ⟨Arr.new _ _ [_, _], (Below.refl _ _).alloc (Nat.le_refl _) _, by simp⟩
          go_upto_region 7 with fail
          generalize (wr.alloc (.cells #[.int .i64 te, .int .i64 tc_] 68)) = w7 at hWt ⊢
          obtain ⟨qt, hb7, hs7⟩ := hWt w7 rfl
          obtain ⟨done, hdone⟩ : ∃ d, d = prs (p.take i) q ++ (q.take j).map (fun t => (se + t.1, sc * t.2)) := ⟨_, rfl⟩
          have HJ := Lib.hid (show J done w7 by rw [hdone]; exact HK.out.kp _ _ _ HR.out.1 hb7)
          have HNX := Lib.hid (show ∀ W, J (done ++ [(se + te, sc * tc_)]) W → J (prs (p.take i) q ++ (q.take (j + 1)).map (fun t => (se + t.1, sc * t.2))) W from fun W h => by rw [HJT.out, ← List.append_assoc, ← hdone]; exact h)
          rw [← hdone] at HRS
          have QS := Lib.hid (HR.out.2.2.2.1.below hb7 HR.out.2.2.2.1.lt)
          have QT := Lib.hid qt
          have QP := Lib.hid (HR.out.2.1.below hb7 HR.out.2.1.lt)
          have QQ := Lib.hid (HR.out.2.2.1.below hb7 HR.out.2.2.1.lt)
          have HO7 := Lib.hid (HR.out.2.2.2.2.grow hb7 (by omega))
          have HBS := Lib.hid (show base ≤ w7.heap.size by omega)
          have HGN := Lib.hid (show g ≠ w.heap.size ∧ g ≠ w.heap.size + 1 ∧ g ≠ wo.heap.size from ⟨by omega, by omega, by have := HHB.out; omega⟩)
          have HWR := Lib.hid (show IntKind.i64.wrap (se + te) = se + te from IntWalk.i64_in _ (by have := HSX.out; have := HTX.out; omega))
          obtain ⟨Bs, hBs⟩ : ∃ B, B = wo.heap.size := ⟨_, rfl⟩
          obtain ⟨Bt, hBt⟩ : ∃ B, B = wr.heap.size := ⟨_, rfl⟩
          have HBB := Lib.hid hBs
          rw [← hBs] at QS HR HGN ⊢
          rw [← hBt] at QT ⊢
          clear hte htc hd0 hd1 hb7 hs7 qt HR hdone HJT hBs hBt hBsz
          refine wp_region_phis 11 (by kernel_rfl) (by kernel_rfl) (by kernel_rfl) (by kernel_rfl) (by kernel_rfl) rfl (by kernel_rfl) (phiT (fun i => ([some (.func (.func K) #[] #[u1, u2]), some (.pointer (some ⟨Bs, 0, none⟩)), some (.int .i64 se), some (.pointer (some ⟨Bt, 0, none⟩)), some (.int .i64 te), some (.int .i64 (se + te)), some (.pointer (some ⟨Bs, 1, none⟩)), some (.int .i64 sc), some (.pointer (some ⟨Bt, 1, none⟩)), some (.int .i64 tc_), some (.agg #[.int .u64 ((hiN (rs (sc * tc_)) : Nat) : Int), .int .u64 ((loN (rs (sc * tc_)) : Nat) : Int)]), some (.tuple #[])] : List (Option Value)).getD i none) (fun i v w => True)) (fun i v w w' h hb => ?_) (fun i => false) (fun i v w hi h k hk => ?_) (fun _ W => J (done ++ [(se + te, sc * tc_)]) W ∧ Oth base [g] none w7 W) ⟨?_, ?_, ?_, ?_, ?_, ?_, ?_, ?_, ?_, ?_, ?_, ?_, trivial⟩ ?_
          · unfold phiT at h ⊢
            split
            · next u hu => rw [hu] at h; exact h
            · next hu =>
              rw [hu] at h
              exact True.intro
          · simp only [Bool.or_eq_true, decide_eq_true_eq, Bool.false_eq_true] at hi
          · intro x w1 bA hbel hdep hdap hold hb
            refine ⟨fun _ => ?_, fun h => absurd h (by decide)⟩
            have e2 : bA.tmps[2]?.getD undef = .func (.func K) #[] #[u1, u2] := hb 2
            refine phf_run (.func (.func K) #[] #[u1, u2]) rfl ?_ rfl
            clear hb hdep hdap hold
            go_simp
          · intro x w1 bA hbel hdep hdap hold hb
            refine ⟨fun _ => ?_, fun h => absurd h (by decide)⟩
            have e7 : bA.tmps[7]?.getD undef = .pointer (some ⟨Bs, 0, none⟩) := hb 7
            refine phf_run (.pointer (some ⟨Bs, 0, none⟩)) rfl ?_ rfl
            clear hb hdep hdap hold
            go_simp
          · intro x w1 bA hbel hdep hdap hold hb
            refine ⟨fun _ => ?_, fun h => absurd h (by decide)⟩
            have e25 : bA.tmps[25]?.getD undef = .pointer (some ⟨Bs, 0, none⟩) := (hb 25).trans (hdep 1 (by decide))
            have cc := (QS.out.below hbel QS.out.lt).cell 0
            refine phf_run (.int .i64 se) rfl ?_ rfl
            clear hb hdep hdap hold
            go_simp
          · intro x w1 bA hbel hdep hdap hold hb
            refine ⟨fun _ => ?_, fun h => absurd h (by decide)⟩
            have e9 : bA.tmps[9]?.getD undef = .pointer (some ⟨Bt, 0, none⟩) := hb 9
            refine phf_run (.pointer (some ⟨Bt, 0, none⟩)) rfl ?_ rfl
            clear hb hdep hdap hold
            go_simp
          · intro x w1 bA hbel hdep hdap hold hb
            refine ⟨fun _ => ?_, fun h => absurd h (by decide)⟩
            have e27 : bA.tmps[27]?.getD undef = .pointer (some ⟨Bt, 0, none⟩) := (hb 27).trans (hdep 3 (by decide))
            have cc := (QT.out.below hbel QT.out.lt).cell 0
            refine phf_run (.int .i64 te) rfl ?_ rfl
            clear hb hdep hdap hold
            go_simp
          · intro x w1 bA hbel hdep hdap hold hb
            refine ⟨fun _ => ?_, fun h => absurd h (by decide)⟩
            have e26 : bA.tmps[26]?.getD undef = .int .i64 se := (hb 26).trans (hdep 2 (by decide))
            have e28 : bA.tmps[28]?.getD undef = .int .i64 te := (hb 28).trans (hdep 4 (by decide))
            have cw := HWR.out
            refine phf_run (.int .i64 (se + te)) rfl ?_ rfl
            clear hb hdep hdap hold
            go_simp
          · intro x w1 bA hbel hdep hdap hold hb
            refine ⟨fun _ => ?_, fun h => absurd h (by decide)⟩
            have e7 : bA.tmps[7]?.getD undef = .pointer (some ⟨Bs, 0, none⟩) := hb 7
            refine phf_run (.pointer (some ⟨Bs, 1, none⟩)) rfl ?_ rfl
            clear hb hdep hdap hold
            go_simp
          · intro x w1 bA hbel hdep hdap hold hb
            refine ⟨fun _ => ?_, fun h => absurd h (by decide)⟩
            have e30 : bA.tmps[30]?.getD undef = .pointer (some ⟨Bs, 1, none⟩) := (hb 30).trans (hdep 6 (by decide))
            have cc := (QS.out.below hbel QS.out.lt).cell 1
            refine phf_run (.int .i64 sc) rfl ?_ rfl
            clear hb hdep hdap hold
            go_simp
          · intro x w1 bA hbel hdep hdap hold hb
            refine ⟨fun _ => ?_, fun h => absurd h (by decide)⟩
            have e9 : bA.tmps[9]?.getD undef = .pointer (some ⟨Bt, 0, none⟩) := hb 9
            refine phf_run (.pointer (some ⟨Bt, 1, none⟩)) rfl ?_ rfl
            clear hb hdep hdap hold
            go_simp
          · intro x w1 bA hbel hdep hdap hold hb
            refine ⟨fun _ => ?_, fun h => absurd h (by decide)⟩
            have e32 : bA.tmps[32]?.getD undef = .pointer (some ⟨Bt, 1, none⟩) := (hb 32).trans (hdep 8 (by decide))
            have cc := (QT.out.below hbel QT.out.lt).cell 1
            refine phf_run (.int .i64 tc_) rfl ?_ rfl
            clear hb hdep hdap hold
            go_simp
          · intro x w1 bA hbel hdep hdap hold hb
            refine ⟨fun _ => ?_, fun h => absurd h (by decide)⟩
            have e31 : bA.tmps[31]?.getD undef = .int .i64 sc := (hb 31).trans (hdep 7 (by decide))
            have e33 : bA.tmps[33]?.getD undef = .int .i64 tc_ := (hb 33).trans (hdep 9 (by decide))
            refine phf_call ?_ ((product_any sc tc_ w1 HSC.out HTC.out).mono fun e w' h => ⟨_, h.1, h.2, rfl, fun e => Bool.noConfusion e⟩)
            clear hb hdep hdap hold
            go_simp
          · intro x w1 bA hbel hdep hdap hold hb
            refine ⟨fun h => absurd h (by decide), fun _ hall => ?_⟩
            have e24 : bA.tmps[24]?.getD undef = .func (.func K) #[] #[u1, u2] := (hb 24).trans (hdep 0 (by decide))
            have e29 : bA.tmps[29]?.getD undef = .int .i64 (se + te) := (hb 29).trans (hdep 5 (by decide))
            have e34 : bA.tmps[34]?.getD undef = .agg #[.int .u64 ((hiN (rs (sc * tc_)) : Nat) : Int), .int .u64 ((loN (rs (sc * tc_)) : Nat) : Int)] := (hb 34).trans (hdep 10 (by decide))
            clear hb hdep hdap hold
            have eg := HK.out.eg
            refine phl_call (R := fun W => J (done ++ [(se + te, sc * tc_)]) W ∧ Oth base [g] none w7 W) K #[.int .i64 (se + te), .agg #[.int .u64 ((hiN (rs (sc * tc_)) : Nat) : Int), .int .u64 ((loN (rs (sc * tc_)) : Nat) : Int)], u1, u2] ?_ ((HK.out.st done (se + te) (sc * tc_) _ w1 HRS.out (HK.out.kp _ _ _ HJ.out hbel)).mono fun e w' h => ⟨_, h.1, h.2.1, ((Oth.refl1 base g w7).grow hbel HBS.out).trans1 h.2.2⟩)
            clear hbel
            go_simp
          intro x w1 hR
          simp only [putAll, dstOf, Act.put, List.map_cons, List.map_nil, List.setIfInBounds_toArray, List.set_cons_succ, List.set_cons_zero, Nat.reduceAdd]
          have HF := Lib.hid (show J (prs (p.take i) q ++ (q.take (j + 1)).map (fun t => (se + t.1, sc * t.2))) w1 ∧ Arr w1 w.heap.size 39 [.bool false, .slice (some ⟨b, o', none⟩) p.length c] ∧ Arr w1 (w.heap.size + 1) 39 [.bool false, .slice (some ⟨b2, o2, none⟩) q.length c2] ∧ Arr w1 wo.heap.size 68 [.int .i64 se, .int .i64 sc] ∧ Oth base [g] none w w1 from
            ⟨HNX.out _ hR.1, hR.2.at_ QP.out (Ne.symm HGN.out.1), hR.2.at_ QQ.out (Ne.symm HGN.out.2.1), by have := hR.2.at_ QS.out (Ne.symm HGN.out.2.2); rwa [HBB.out] at this, HO7.out.trans1 hR.2⟩)
          clear hR
          have hbe := HBB.out
          subst hbe
          clear HBB
          go_wp2_with fail
          go_roundg (q.length - (j + 1))
          case measure => omega
          case rel => exact ⟨j + 1, by omega, rfl, by go_num, HF⟩
        · have z2 : ¬ (j : Int) < (q.length : Int) := by omega
          have HF := Lib.hid (show J (prs (p.take (i + 1)) q) wr ∧ Arr wr w.heap.size 39 [.bool false, .slice (some ⟨b, o', none⟩) p.length c] ∧ Arr wr (w.heap.size + 1) 39 [.bool false, .slice A2 q.length c2] ∧ Oth base [g] none w wr from by
            have := HR.out
            rw [List.take_of_length_le (by omega : q.length ≤ j), ← HPT.out] at this
            exact ⟨this.1, this.2.1, this.2.2.1, this.2.2.2.2⟩)
          clear HR
          go_wp2_with fail
          go_roundg (p.length - (i + 1))
          case measure => omega
          case rel => exact ⟨i + 1, by omega, rfl, by go_num, HF⟩
    · have z1 : ¬ (i : Int) < (p.length : Int) := by omega
      have HF := Lib.hid (show J (prs p q) wr ∧ Oth base [g] none w wr from by
        have := HR.out
        rw [List.take_of_length_le (by omega)] at this
        exact ⟨this.1, this.2.2.2⟩)
      clear HR
      go_wp2_with fail
      go_end0
      exact ⟨rfl, HF.out⟩
end Go.Proofs.YtjeklcgfffibpaaGreatDoor
