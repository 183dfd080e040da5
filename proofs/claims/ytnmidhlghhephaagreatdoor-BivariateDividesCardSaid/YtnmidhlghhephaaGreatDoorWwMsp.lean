/- laurent.products: the walk, by a property of what the closure has been given. -/
/- laurent.sparse: the closure over a map of wide integers. -/
import Derived.Test.YtnmidhlghhephaaGreatDoorWwDvw
import Derived.Test.YtnmidhlghhephaaGreatDoorWwEnd
import Derived.Test.YtnmidhlghhephaaGreatDoorWwEql
import Derived.Test.YtnmidhlghhephaaGreatDoorWwPsu
import Derived.Maps.OwnSet
import Derived.Maps.OwnOps
import Derived.Lib.SlKeysI
namespace Go.Proofs.YtnmidhlghhephaaGreatDoor
open Go.RowKit
set_option linter.unusedVariables false
section
variable {P : Program} {Q : Exit → Act → World → Prop} {o : Oper} {b : Act} {w : World}
theorem phl_call {R : World → Prop} (f : FuncId) (args : Array Value) (h : (execOp b.eval o).run P w = .ok (.enter f args) w) (hc : Calls P f args w fun e w' => ∃ v, e = .returned v ∧ R w') : o.wp P b w (fun a' w' => ∃ v, a' = b.put o.dst v ∧ R w') NoQ := by
  unfold Oper.wp; rw [h]
  simp only [Oper.upon]
  refine hc.mono ?_
  rintro e w' ⟨v, rfl, hv⟩
  exact ⟨v, rfl, hv⟩
theorem phl_store {R : World → Prop} (W : World) (h : (execOp b.eval o).run P w = .ok .skip W) (ho : o.dst = none) (hR : R W) : o.wp P b w (fun a' w' => ∃ v, a' = b.put o.dst v ∧ R w') NoQ := by
  unfold Oper.wp; rw [h]; exact ⟨undef, by rw [ho], hR⟩
end
theorem Oth.set {base g : Nat} {w w1 : World} (h : Oth base [g] none w w1) (hb : base ≤ g) (j : Nat) (u : Value) : Oth base [g] none w (w1.setCell ⟨g, j, none⟩ u) :=
  ⟨h.below.setCell (p := ⟨g, j, none⟩) hb u, fun k hk h1 h2 => (Below.heap_setCell w1 ⟨g, j, none⟩ u k (by show k ≠ g; simpa using h1)).trans (h.keep k hk h1 h2)⟩
theorem Oth.refl1 (base g : Nat) (w : World) : Oth base [g] none w w := ⟨Below.refl _ _, fun _ _ _ _ => rfl⟩
theorem Oth.trans1 {base g : Nat} {w w1 w2 : World} (h : Oth base [g] none w w1) (k : Oth base [g] none w1 w2) : Oth base [g] none w w2 :=
  ⟨h.below.trans k.below, fun j hj h1 h2 => (k.keep j (Nat.lt_of_lt_of_le hj h.below.size) h1 h2).trans (h.keep j hj h1 h2)⟩
theorem Oth.grow {base g : Nat} {w w1 w2 : World} (h : Oth base [g] none w w1) (hb : Below w1.heap.size w1 w2) (hs : base ≤ w1.heap.size) : Oth base [g] none w w2 :=
  ⟨h.below.trans (hb.mono hs), fun j hj h1 h2 => (hb.block j (Nat.lt_of_lt_of_le hj h.below.size)).trans (h.keep j hj h1 h2)⟩
theorem Oth.at_ {base g k : Nat} {w w' : World} {t : TypeId} {cs : List Value} (h : Oth base [g] none w w') (ha : Arr w k t cs) (h1 : k ≠ g) : Arr w' k t cs := h.arr ha (by simpa using h1) (by simp)
theorem take_map {l : List (Int × Int)} {i : Nat} (h : i < l.length) (f : Int × Int → Int × Int) : (l.take (i + 1)).map f = (l.take i).map f ++ [f l[i]] := by
  rw [List.take_add_one, List.getElem?_eq_getElem h, List.map_append]; rfl
theorem prs_take {p q : List (Int × Int)} {i : Nat} (h : i < p.length) : prs (p.take (i + 1)) q = prs (p.take i) q ++ q.map (fun t => (p[i].1 + t.1, p[i].2 * t.2)) := by
  rw [List.take_add_one, List.getElem?_eq_getElem h, prs_append]
  simp [prs]
/-- what has been given so far, what comes next -/
theorem prs_next {p q : List (Int × Int)} {i j : Nat} (hi : i < p.length) (hj : j < q.length) : ∃ rest, prs p q = (prs (p.take i) q ++ (q.take j).map (fun t => (p[i].1 + t.1, p[i].2 * t.2))) ++ (p[i].1 + q[j].1, p[i].2 * q[j].2) :: rest := by
  have e1 : p = p.take i ++ (p[i] :: p.drop (i + 1)) := by rw [← List.drop_eq_getElem_cons hi, List.take_append_drop]
  have e2 : q = q.take j ++ (q[j] :: q.drop (j + 1)) := by rw [← List.drop_eq_getElem_cons hj, List.take_append_drop]
  refine ⟨(q.drop (j + 1)).map (fun t => (p[i].1 + t.1, p[i].2 * t.2)) ++ prs (p.drop (i + 1)) q, ?_⟩
  have h1 : prs p q = prs (p.take i) q ++ (q.map (fun t => (p[i].1 + t.1, p[i].2 * t.2)) ++ prs (p.drop (i + 1)) q) := by
    conv => lhs; rw [e1]
    rw [prs_append]; rfl
  have h2 : q.map (fun t => (p[i].1 + t.1, p[i].2 * t.2)) = (q.take j).map (fun t => (p[i].1 + t.1, p[i].2 * t.2)) ++ (p[i].1 + q[j].1, p[i].2 * q[j].2) :: (q.drop (j + 1)).map (fun t => (p[i].1 + t.1, p[i].2 * t.2)) := by
    conv => lhs; rw [e2]
    rw [List.map_append, List.map_cons]
  rw [h1, h2]
  simp only [List.append_assoc, List.cons_append]
theorem PolyV.tms_of {w : World} {b : Bool} {A : Option Addr} {n c : Nat} {l : List (Int × Int)} (h : PolyV w (.agg #[.bool b, .slice A n c]) (some l)) : n = l.length ∧ Tms w (.slice A n c) l := by
  obtain ⟨A', c', e, ht⟩ := h
  simp only [Value.agg.injEq, Array.mk.injEq, List.cons.injEq, Value.slice.injEq, Option.getD_some] at e ht
  obtain ⟨_, ⟨rfl, rfl, rfl⟩, _⟩ := e
  exact ⟨rfl, ht⟩
/-- what a closure does with the products that it is given -/
structure CloP (K : FuncId) (caps : List Value) (g base : Nat) (p q : List (Int × Int)) (J : List (Int × Int) → World → Prop) : Prop where
  eg : ∀ args W, (callFunc K args).run Tryz.prog W = .ok (.enter K args) W
  st : ∀ done e c rest W, prs p q = done ++ (e, c) :: rest → J done W → Calls Tryz.prog K (.int .i64 e :: .agg #[.int .u64 ((hiN (rs c) : Nat) : Int), .int .u64 ((loN (rs c) : Nat) : Int)] :: caps).toArray W fun en w' => en = .returned (.tuple #[]) ∧ J (done ++ [(e, c)]) w' ∧ Oth base [g] none W w'
  kp : ∀ done W W', J done W → Below W.heap.size W W' → J done W'
set_option maxHeartbeats 2000000 in
set_option maxRecDepth 100000 in
theorem products_reg1 (K : FuncId) (u1 : Value) (g base : Nat) (p q : List (Int × Int)) (J : List (Int × Int) → World → Prop) (hK : CloP K [u1] g base p q J) (vp vq : Value) (w : World)
    (hp : ∀ W, Below base w W → PolyV W vp (some p)) (hq : ∀ W, Below base w W → PolyV W vq (some q)) (lp : Lim p) (kp : Can p) (lq : Lim q) (kq : Can q) (hbs : base ≤ w.heap.size) (hg : g < w.heap.size) (h0 : J [] w) :
    Calls Tryz.prog 27 #[vp, vq, .func (.func K) #[] #[u1]] w fun e w' => e = .returned (.tuple #[]) ∧ J (prs p q) w' ∧ Oth base [g] none w w' := by
  have HK := Lib.hid hK
  have HP := Lib.hid hp
  have HQ := Lib.hid hq
  have hlp : p.length ≤ 1000000000 := by have := lp.len kp; omega
  have hlq : q.length ≤ 1000000000 := by have := lq.len kq; omega
  have HLP := Lib.hid lp
  have HLQ := Lib.hid lq
  obtain ⟨A, c, rfl, _⟩ := hp w (Below.refl _ _)
  obtain ⟨A2, c2, rfl, _⟩ := hq w (Below.refl _ _)
  clear hK hp hq lp kp lq kq
  simp only [Option.isNone_some, Option.getD_some] at HP HQ ⊢
  have hW : ∀ W, W = ((w.alloc (.cells #[.bool false, .slice A p.length c] 34)).alloc (.cells #[.bool false, .slice A2 q.length c2] 34)) → Arr W w.heap.size 34 [.bool false, .slice A p.length c] ∧ Arr W (w.heap.size + 1) 34 [.bool false, .slice A2 q.length c2] ∧ Below w.heap.size w W ∧ W.heap.size = w.heap.size + 2 := by
    intro W hW
    subst hW
    exact ⟨(Arr.new _ _ [_, _]).alloc _, Arr.newAt (w.alloc _) _ [_, _] _ (by simp), ((Below.refl _ _).alloc (Nat.le_refl _) _).alloc (by simp) _, by simp⟩
  go_enter Tryz.func27, Tryz.ntmps27
  go_upto_region 1 with fail
  generalize ((w.alloc (.cells #[.bool false, .slice A p.length c] 34)).alloc (.cells #[.bool false, .slice A2 q.length c2] 34)) = w3 at hW ⊢
  obtain ⟨qp, qq, hb3, hs3⟩ := hW w3 rfl
  clear hW
  have HST := Lib.hid (show J [] w3 ∧ Arr w3 w.heap.size 34 [.bool false, .slice A p.length c] ∧ Arr w3 (w.heap.size + 1) 34 [.bool false, .slice A2 q.length c2] ∧ Oth base [g] none w w3 from ⟨HK.out.kp _ _ _ h0 hb3, qp, qq, (Oth.refl1 base g w).grow hb3 hbs⟩)
  have y0 := qp.cell 0
  have y1 := qp.cell 1
  clear h0 qp qq hb3
  go_wp2_with fail
  clear y0 y1
  go_loopg [13] p.length (fun gk s13 wr => ∃ (i : Nat), i ≤ p.length ∧ gk = p.length - i ∧ s13 = .int .i64 (i : Int) ∧ Hid (J (prs (p.take i) q) wr ∧ Arr wr w.heap.size 34 [.bool false, .slice A p.length c] ∧ Arr wr (w.heap.size + 1) 34 [.bool false, .slice A2 q.length c2] ∧ Oth base [g] none w wr))
  case atStart => exact ⟨0, Nat.zero_le _, rfl, rfl, HST⟩
  case round =>
    clear HST hs3
    obtain ⟨i, hi, rfl, rfl, HR⟩ := hrel
    by_cases hlt : i < p.length
    · have z1 : (i : Int) < (p.length : Int) := by omega
      obtain ⟨b, o', rfl, _, hc0, hc1⟩ := (HP.out wr HR.out.2.2.2.below).tms_of.2.at_ hlt
      have HSC := Lib.hid (HLP.out.co _ (List.getElem_mem hlt))
      have HSX := Lib.hid (HLP.out.ex _ (List.getElem_mem hlt))
      have HN := Lib.hid (fun j (hj : j < q.length) => prs_next (q := q) hlt hj)
      have HPT := Lib.hid (prs_take (q := q) hlt)
      have HHB := Lib.hid HR.out.2.2.2.below.size
      generalize hse : p[i].1 = se at *
      generalize hsc : p[i].2 = sc at *
      clear hse hsc
      obtain ⟨wo, rfl⟩ : ∃ wo, wo = wr := ⟨_, rfl⟩
      have hWo : ∀ W, W = wo.alloc (.cells #[.int .i64 se, .int .i64 sc] 51) → Arr W wo.heap.size 51 [.int .i64 se, .int .i64 sc] ∧ Below wo.heap.size wo W := by
        intro W hW
        subst hW
        exact ⟨Arr.new _ _ [_, _], (Below.refl _ _).alloc (Nat.le_refl _) _⟩
      have x1 := HR.out.2.2.1.cell 1
      go_upto_region 4 with fail
      generalize (wo.alloc (.cells #[.int .i64 se, .int .i64 sc] 51)) = w5 at hWo ⊢
      obtain ⟨qs, hb5⟩ := hWo w5 rfl
      clear hWo hc0 hc1 x1
      have HST := Lib.hid (show J (prs (p.take i) q ++ (q.take 0).map (fun t => (se + t.1, sc * t.2))) w5 ∧ Arr w5 w.heap.size 34 [.bool false, .slice (some ⟨b, o', none⟩) p.length c] ∧ Arr w5 (w.heap.size + 1) 34 [.bool false, .slice A2 q.length c2] ∧ Arr w5 wo.heap.size 51 [.int .i64 se, .int .i64 sc] ∧ Oth base [g] none w w5 from
        ⟨by rw [List.take_zero, List.map_nil, List.append_nil]; exact HK.out.kp _ _ _ HR.out.1 hb5, HR.out.2.1.below hb5 HR.out.2.1.lt, HR.out.2.2.1.below hb5 HR.out.2.2.1.lt, qs, HR.out.2.2.2.grow hb5 (by have := HHB.out; omega)⟩)
      have x1 := HST.out.2.2.1.cell 1
      clear HR qs hb5
      go_wp2_with fail
      clear x1
      go_loopg [20] q.length (fun gk s20 wr => ∃ (j : Nat), j ≤ q.length ∧ gk = q.length - j ∧ s20 = .int .i64 (j : Int) ∧ Hid (J (prs (p.take i) q ++ (q.take j).map (fun t => (se + t.1, sc * t.2))) wr ∧ Arr wr w.heap.size 34 [.bool false, .slice (some ⟨b, o', none⟩) p.length c] ∧ Arr wr (w.heap.size + 1) 34 [.bool false, .slice A2 q.length c2] ∧ Arr wr wo.heap.size 51 [.int .i64 se, .int .i64 sc] ∧ Oth base [g] none w wr))
      case atStart => exact ⟨0, Nat.zero_le _, rfl, rfl, HST⟩
      case round =>
        clear HST
        obtain ⟨j, hj, rfl, rfl, HR⟩ := hrel
        by_cases hlj : j < q.length
        · have z2 : (j : Int) < (q.length : Int) := by omega
          obtain ⟨b2, o2, rfl, _, hd0, hd1⟩ := (HQ.out wr HR.out.2.2.2.2.below).tms_of.2.at_ hlj
          have HTC := Lib.hid (HLQ.out.co _ (List.getElem_mem hlj))
          have HTX := Lib.hid (HLQ.out.ex _ (List.getElem_mem hlj))
          obtain ⟨rest, hrest⟩ := HN.out j hlj
          have HRS := Lib.hid hrest
          have HJT := Lib.hid (take_map hlj (fun t => (se + t.1, sc * t.2)))
          clear hrest
          generalize hte : q[j].1 = te at *
          generalize htc : q[j].2 = tc_ at *
          have hBsz : w.heap.size + 2 ≤ wr.heap.size := by have := HR.out.2.2.1.lt; omega
          have hWt : ∀ W, W = wr.alloc (.cells #[.int .i64 te, .int .i64 tc_] 51) → Arr W wr.heap.size 51 [.int .i64 te, .int .i64 tc_] ∧ Below wr.heap.size wr W ∧ W.heap.size = wr.heap.size + 1 := by
            intro W hW
            subst hW
            exact ⟨Arr.new _ _ [_, _], (Below.refl _ _).alloc (Nat.le_refl _) _, by simp⟩
          go_upto_region 7 with fail
          generalize (wr.alloc (.cells #[.int .i64 te, .int .i64 tc_] 51)) = w7 at hWt ⊢
          obtain ⟨qt, hb7, hs7⟩ := hWt w7 rfl
          obtain ⟨done, hdone⟩ : ∃ d, d = prs (p.take i) q ++ (q.take j).map (fun t => (se + t.1, sc * t.2)) := ⟨_, rfl⟩
          have HJ := Lib.hid (show J done w7 by rw [hdone]; exact HK.out.kp _ _ _ HR.out.1 hb7)
          have HNX := Lib.hid (show ∀ W, J (done ++ [(se + te, sc * tc_)]) W → J (prs (p.take i) q ++ (q.take (j + 1)).map (fun t => (se + t.1, sc * t.2))) W from fun W h => by rw [HJT.out, ← List.append_assoc, ← hdone]; exact h)
          rw [← hdone] at HRS
          have QS := Lib.hid (HR.out.2.2.2.1.below hb7 HR.out.2.2.2.1.lt)
          have QT := Lib.hid qt
          have QP := Lib.hid (HR.out.2.1.below hb7 HR.out.2.1.lt)
          have QQ := Lib.hid (HR.out.2.2.1.below hb7 HR.out.2.2.1.lt)
          have HO7 := Lib.hid (HR.out.2.2.2.2.grow hb7 (by omega))
          have HBS := Lib.hid (show base ≤ w7.heap.size by omega)
          have HGN := Lib.hid (show g ≠ w.heap.size ∧ g ≠ w.heap.size + 1 ∧ g ≠ wo.heap.size from ⟨by omega, by omega, by have := HHB.out; omega⟩)
          have HWR := Lib.hid (show IntKind.i64.wrap (se + te) = se + te from IntWalk.i64_in _ (by have := HSX.out; have := HTX.out; omega))
          obtain ⟨Bs, hBs⟩ : ∃ B, B = wo.heap.size := ⟨_, rfl⟩
          obtain ⟨Bt, hBt⟩ : ∃ B, B = wr.heap.size := ⟨_, rfl⟩
          have HBB := Lib.hid hBs
          rw [← hBs] at QS HR HGN ⊢
          rw [← hBt] at QT ⊢
          clear hte htc hd0 hd1 hb7 hs7 qt HR hdone HJT hBs hBt hBsz
          refine wp_region_phis 11 (by kernel_rfl) (by kernel_rfl) (by kernel_rfl) (by kernel_rfl) (by kernel_rfl) rfl (by kernel_rfl) (phiT (fun i => ([some (.func (.func K) #[] #[u1]), some (.pointer (some ⟨Bs, 0, none⟩)), some (.int .i64 se), some (.pointer (some ⟨Bt, 0, none⟩)), some (.int .i64 te), some (.int .i64 (se + te)), some (.pointer (some ⟨Bs, 1, none⟩)), some (.int .i64 sc), some (.pointer (some ⟨Bt, 1, none⟩)), some (.int .i64 tc_), some (.agg #[.int .u64 ((hiN (rs (sc * tc_)) : Nat) : Int), .int .u64 ((loN (rs (sc * tc_)) : Nat) : Int)]), some (.tuple #[])] : List (Option Value)).getD i none) (fun i v w => True)) (fun i v w w' h hb => ?_) (fun i => false) (fun i v w hi h k hk => ?_) (fun _ W => J (done ++ [(se + te, sc * tc_)]) W ∧ Oth base [g] none w7 W) ⟨?_, ?_, ?_, ?_, ?_, ?_, ?_, ?_, ?_, ?_, ?_, ?_, trivial⟩ ?_
          · unfold phiT at h ⊢
            split
            · next u hu => rw [hu] at h; exact h
            · next hu =>
              rw [hu] at h
              exact True.intro
          · simp only [Bool.or_eq_true, decide_eq_true_eq, Bool.false_eq_true] at hi
          · intro x w1 bA hbel hdep hdap hold hb
            refine ⟨fun _ => ?_, fun h => absurd h (by decide)⟩
            have e2 : bA.tmps[2]?.getD undef = .func (.func K) #[] #[u1] := hb 2
            refine phf_run (.func (.func K) #[] #[u1]) rfl ?_ rfl
            clear hb hdep hdap hold
            go_simp
          · intro x w1 bA hbel hdep hdap hold hb
            refine ⟨fun _ => ?_, fun h => absurd h (by decide)⟩
            have e7 : bA.tmps[7]?.getD undef = .pointer (some ⟨Bs, 0, none⟩) := hb 7
            refine phf_run (.pointer (some ⟨Bs, 0, none⟩)) rfl ?_ rfl
            clear hb hdep hdap hold
            go_simp
          · intro x w1 bA hbel hdep hdap hold hb
            refine ⟨fun _ => ?_, fun h => absurd h (by decide)⟩
            have e25 : bA.tmps[25]?.getD undef = .pointer (some ⟨Bs, 0, none⟩) := (hb 25).trans (hdep 1 (by decide))
            have cc := (QS.out.below hbel QS.out.lt).cell 0
            refine phf_run (.int .i64 se) rfl ?_ rfl
            clear hb hdep hdap hold
            go_simp
          · intro x w1 bA hbel hdep hdap hold hb
            refine ⟨fun _ => ?_, fun h => absurd h (by decide)⟩
            have e9 : bA.tmps[9]?.getD undef = .pointer (some ⟨Bt, 0, none⟩) := hb 9
            refine phf_run (.pointer (some ⟨Bt, 0, none⟩)) rfl ?_ rfl
            clear hb hdep hdap hold
            go_simp
          · intro x w1 bA hbel hdep hdap hold hb
            refine ⟨fun _ => ?_, fun h => absurd h (by decide)⟩
            have e27 : bA.tmps[27]?.getD undef = .pointer (some ⟨Bt, 0, none⟩) := (hb 27).trans (hdep 3 (by decide))
            have cc := (QT.out.below hbel QT.out.lt).cell 0
            refine phf_run (.int .i64 te) rfl ?_ rfl
            clear hb hdep hdap hold
            go_simp
          · intro x w1 bA hbel hdep hdap hold hb
            refine ⟨fun _ => ?_, fun h => absurd h (by decide)⟩
            have e26 : bA.tmps[26]?.getD undef = .int .i64 se := (hb 26).trans (hdep 2 (by decide))
            have e28 : bA.tmps[28]?.getD undef = .int .i64 te := (hb 28).trans (hdep 4 (by decide))
            have cw := HWR.out
            refine phf_run (.int .i64 (se + te)) rfl ?_ rfl
            clear hb hdep hdap hold
            go_simp
          · intro x w1 bA hbel hdep hdap hold hb
            refine ⟨fun _ => ?_, fun h => absurd h (by decide)⟩
            have e7 : bA.tmps[7]?.getD undef = .pointer (some ⟨Bs, 0, none⟩) := hb 7
            refine phf_run (.pointer (some ⟨Bs, 1, none⟩)) rfl ?_ rfl
            clear hb hdep hdap hold
            go_simp
          · intro x w1 bA hbel hdep hdap hold hb
            refine ⟨fun _ => ?_, fun h => absurd h (by decide)⟩
            have e30 : bA.tmps[30]?.getD undef = .pointer (some ⟨Bs, 1, none⟩) := (hb 30).trans (hdep 6 (by decide))
            have cc := (QS.out.below hbel QS.out.lt).cell 1
            refine phf_run (.int .i64 sc) rfl ?_ rfl
            clear hb hdep hdap hold
            go_simp
          · intro x w1 bA hbel hdep hdap hold hb
            refine ⟨fun _ => ?_, fun h => absurd h (by decide)⟩
            have e9 : bA.tmps[9]?.getD undef = .pointer (some ⟨Bt, 0, none⟩) := hb 9
            refine phf_run (.pointer (some ⟨Bt, 1, none⟩)) rfl ?_ rfl
            clear hb hdep hdap hold
            go_simp
          · intro x w1 bA hbel hdep hdap hold hb
            refine ⟨fun _ => ?_, fun h => absurd h (by decide)⟩
            have e32 : bA.tmps[32]?.getD undef = .pointer (some ⟨Bt, 1, none⟩) := (hb 32).trans (hdep 8 (by decide))
            have cc := (QT.out.below hbel QT.out.lt).cell 1
            refine phf_run (.int .i64 tc_) rfl ?_ rfl
            clear hb hdep hdap hold
            go_simp
          · intro x w1 bA hbel hdep hdap hold hb
            refine ⟨fun _ => ?_, fun h => absurd h (by decide)⟩
            have e31 : bA.tmps[31]?.getD undef = .int .i64 sc := (hb 31).trans (hdep 7 (by decide))
            have e33 : bA.tmps[33]?.getD undef = .int .i64 tc_ := (hb 33).trans (hdep 9 (by decide))
            refine phf_call ?_ ((product_any sc tc_ w1 HSC.out HTC.out).mono fun e w' h => ⟨_, h.1, h.2, rfl, fun e => Bool.noConfusion e⟩)
            clear hb hdep hdap hold
            go_simp
          · intro x w1 bA hbel hdep hdap hold hb
            refine ⟨fun h => absurd h (by decide), fun _ hall => ?_⟩
            have e24 : bA.tmps[24]?.getD undef = .func (.func K) #[] #[u1] := (hb 24).trans (hdep 0 (by decide))
            have e29 : bA.tmps[29]?.getD undef = .int .i64 (se + te) := (hb 29).trans (hdep 5 (by decide))
            have e34 : bA.tmps[34]?.getD undef = .agg #[.int .u64 ((hiN (rs (sc * tc_)) : Nat) : Int), .int .u64 ((loN (rs (sc * tc_)) : Nat) : Int)] := (hb 34).trans (hdep 10 (by decide))
            clear hb hdep hdap hold
            have eg := HK.out.eg
            refine phl_call (R := fun W => J (done ++ [(se + te, sc * tc_)]) W ∧ Oth base [g] none w7 W) K #[.int .i64 (se + te), .agg #[.int .u64 ((hiN (rs (sc * tc_)) : Nat) : Int), .int .u64 ((loN (rs (sc * tc_)) : Nat) : Int)], u1] ?_ ((HK.out.st done (se + te) (sc * tc_) _ w1 HRS.out (HK.out.kp _ _ _ HJ.out hbel)).mono fun e w' h => ⟨_, h.1, h.2.1, ((Oth.refl1 base g w7).grow hbel HBS.out).trans1 h.2.2⟩)
            clear hbel
            go_simp
          intro x w1 hR
          simp only [putAll, dstOf, Act.put, List.map_cons, List.map_nil, List.setIfInBounds_toArray, List.set_cons_succ, List.set_cons_zero, Nat.reduceAdd]
          have HF := Lib.hid (show J (prs (p.take i) q ++ (q.take (j + 1)).map (fun t => (se + t.1, sc * t.2))) w1 ∧ Arr w1 w.heap.size 34 [.bool false, .slice (some ⟨b, o', none⟩) p.length c] ∧ Arr w1 (w.heap.size + 1) 34 [.bool false, .slice (some ⟨b2, o2, none⟩) q.length c2] ∧ Arr w1 wo.heap.size 51 [.int .i64 se, .int .i64 sc] ∧ Oth base [g] none w w1 from
            ⟨HNX.out _ hR.1, hR.2.at_ QP.out (Ne.symm HGN.out.1), hR.2.at_ QQ.out (Ne.symm HGN.out.2.1), by have := hR.2.at_ QS.out (Ne.symm HGN.out.2.2); rwa [HBB.out] at this, HO7.out.trans1 hR.2⟩)
          clear hR
          have hbe := HBB.out
          subst hbe
          clear HBB
          go_wp2_with fail
          go_roundg (q.length - (j + 1))
          case measure => omega
          case rel => exact ⟨j + 1, by omega, rfl, by go_num, HF⟩
        · have z2 : ¬ (j : Int) < (q.length : Int) := by omega
          have HF := Lib.hid (show J (prs (p.take (i + 1)) q) wr ∧ Arr wr w.heap.size 34 [.bool false, .slice (some ⟨b, o', none⟩) p.length c] ∧ Arr wr (w.heap.size + 1) 34 [.bool false, .slice A2 q.length c2] ∧ Oth base [g] none w wr from by
            have := HR.out
            rw [List.take_of_length_le (by omega : q.length ≤ j), ← HPT.out] at this
            exact ⟨this.1, this.2.1, this.2.2.1, this.2.2.2.2⟩)
          clear HR
          go_wp2_with fail
          go_roundg (p.length - (i + 1))
          case measure => omega
          case rel => exact ⟨i + 1, by omega, rfl, by go_num, HF⟩
    · have z1 : ¬ (i : Int) < (p.length : Int) := by omega
      have HF := Lib.hid (show J (prs p q) wr ∧ Oth base [g] none w wr from by
        have := HR.out
        rw [List.take_of_length_le (by omega)] at this
        exact ⟨this.1, this.2.2.2⟩)
      clear HR
      go_wp2_with fail
      go_end0
      exact ⟨rfl, HF.out⟩
set_option maxHeartbeats 2000000 in
set_option maxRecDepth 100000 in
theorem products_reg2 (K : FuncId) (u1 u2 : Value) (g base : Nat) (p q : List (Int × Int)) (J : List (Int × Int) → World → Prop) (hK : CloP K [u1, u2] g base p q J) (vp vq : Value) (w : World)
    (hp : ∀ W, Below base w W → PolyV W vp (some p)) (hq : ∀ W, Below base w W → PolyV W vq (some q)) (lp : Lim p) (kp : Can p) (lq : Lim q) (kq : Can q) (hbs : base ≤ w.heap.size) (hg : g < w.heap.size) (h0 : J [] w) :
    Calls Tryz.prog 27 #[vp, vq, .func (.func K) #[] #[u1, u2]] w fun e w' => e = .returned (.tuple #[]) ∧ J (prs p q) w' ∧ Oth base [g] none w w' := by
  have HK := Lib.hid hK
  have HP := Lib.hid hp
  have HQ := Lib.hid hq
  have hlp : p.length ≤ 1000000000 := by have := lp.len kp; omega
  have hlq : q.length ≤ 1000000000 := by have := lq.len kq; omega
  have HLP := Lib.hid lp
  have HLQ := Lib.hid lq
  obtain ⟨A, c, rfl, _⟩ := hp w (Below.refl _ _)
  obtain ⟨A2, c2, rfl, _⟩ := hq w (Below.refl _ _)
  clear hK hp hq lp kp lq kq
  simp only [Option.isNone_some, Option.getD_some] at HP HQ ⊢
  have hW : ∀ W, W = ((w.alloc (.cells #[.bool false, .slice A p.length c] 34)).alloc (.cells #[.bool false, .slice A2 q.length c2] 34)) → Arr W w.heap.size 34 [.bool false, .slice A p.length c] ∧ Arr W (w.heap.size + 1) 34 [.bool false, .slice A2 q.length c2] ∧ Below w.heap.size w W ∧ W.heap.size = w.heap.size + 2 := by
    intro W hW
    subst hW
    exact ⟨(Arr.new _ _ [_, _]).alloc _, Arr.newAt (w.alloc _) _ [_, _] _ (by simp), ((Below.refl _ _).alloc (Nat.le_refl _) _).alloc (by simp) _, by simp⟩
  go_enter Tryz.func27, Tryz.ntmps27
  go_upto_region 1 with fail
  generalize ((w.alloc (.cells #[.bool false, .slice A p.length c] 34)).alloc (.cells #[.bool false, .slice A2 q.length c2] 34)) = w3 at hW ⊢
  obtain ⟨qp, qq, hb3, hs3⟩ := hW w3 rfl
  clear hW
  have HST := Lib.hid (show J [] w3 ∧ Arr w3 w.heap.size 34 [.bool false, .slice A p.length c] ∧ Arr w3 (w.heap.size + 1) 34 [.bool false, .slice A2 q.length c2] ∧ Oth base [g] none w w3 from ⟨HK.out.kp _ _ _ h0 hb3, qp, qq, (Oth.refl1 base g w).grow hb3 hbs⟩)
  have y0 := qp.cell 0
  have y1 := qp.cell 1
  clear h0 qp qq hb3
  go_wp2_with fail
  clear y0 y1
  go_loopg [13] p.length (fun gk s13 wr => ∃ (i : Nat), i ≤ p.length ∧ gk = p.length - i ∧ s13 = .int .i64 (i : Int) ∧ Hid (J (prs (p.take i) q) wr ∧ Arr wr w.heap.size 34 [.bool false, .slice A p.length c] ∧ Arr wr (w.heap.size + 1) 34 [.bool false, .slice A2 q.length c2] ∧ Oth base [g] none w wr))
  case atStart => exact ⟨0, Nat.zero_le _, rfl, rfl, HST⟩
  case round =>
    clear HST hs3
    obtain ⟨i, hi, rfl, rfl, HR⟩ := hrel
    by_cases hlt : i < p.length
    · have z1 : (i : Int) < (p.length : Int) := by omega
      obtain ⟨b, o', rfl, _, hc0, hc1⟩ := (HP.out wr HR.out.2.2.2.below).tms_of.2.at_ hlt
      have HSC := Lib.hid (HLP.out.co _ (List.getElem_mem hlt))
      have HSX := Lib.hid (HLP.out.ex _ (List.getElem_mem hlt))
      have HN := Lib.hid (fun j (hj : j < q.length) => prs_next (q := q) hlt hj)
      have HPT := Lib.hid (prs_take (q := q) hlt)
      have HHB := Lib.hid HR.out.2.2.2.below.size
      generalize hse : p[i].1 = se at *
      generalize hsc : p[i].2 = sc at *
      clear hse hsc
      obtain ⟨wo, rfl⟩ : ∃ wo, wo = wr := ⟨_, rfl⟩
      have hWo : ∀ W, W = wo.alloc (.cells #[.int .i64 se, .int .i64 sc] 51) → Arr W wo.heap.size 51 [.int .i64 se, .int .i64 sc] ∧ Below wo.heap.size wo W := by
        intro W hW
        subst hW
        exact ⟨Arr.new _ _ [_, _], (Below.refl _ _).alloc (Nat.le_refl _) _⟩
      have x1 := HR.out.2.2.1.cell 1
      go_upto_region 4 with fail
      generalize (wo.alloc (.cells #[.int .i64 se, .int .i64 sc] 51)) = w5 at hWo ⊢
      obtain ⟨qs, hb5⟩ := hWo w5 rfl
      clear hWo hc0 hc1 x1
      have HST := Lib.hid (show J (prs (p.take i) q ++ (q.take 0).map (fun t => (se + t.1, sc * t.2))) w5 ∧ Arr w5 w.heap.size 34 [.bool false, .slice (some ⟨b, o', none⟩) p.length c] ∧ Arr w5 (w.heap.size + 1) 34 [.bool false, .slice A2 q.length c2] ∧ Arr w5 wo.heap.size 51 [.int .i64 se, .int .i64 sc] ∧ Oth base [g] none w w5 from
        ⟨by rw [List.take_zero, List.map_nil, List.append_nil]; exact HK.out.kp _ _ _ HR.out.1 hb5, HR.out.2.1.below hb5 HR.out.2.1.lt, HR.out.2.2.1.below hb5 HR.out.2.2.1.lt, qs, HR.out.2.2.2.grow hb5 (by have := HHB.out; omega)⟩)
      have x1 := HST.out.2.2.1.cell 1
      clear HR qs hb5
      go_wp2_with fail
      clear x1
      go_loopg [20] q.length (fun gk s20 wr => ∃ (j : Nat), j ≤ q.length ∧ gk = q.length - j ∧ s20 = .int .i64 (j : Int) ∧ Hid (J (prs (p.take i) q ++ (q.take j).map (fun t => (se + t.1, sc * t.2))) wr ∧ Arr wr w.heap.size 34 [.bool false, .slice (some ⟨b, o', none⟩) p.length c] ∧ Arr wr (w.heap.size + 1) 34 [.bool false, .slice A2 q.length c2] ∧ Arr wr wo.heap.size 51 [.int .i64 se, .int .i64 sc] ∧ Oth base [g] none w wr))
      case atStart => exact ⟨0, Nat.zero_le _, rfl, rfl, HST⟩
      case round =>
        clear HST
        obtain ⟨j, hj, rfl, rfl, HR⟩ := hrel
        by_cases hlj : j < q.length
        · have z2 : (j : Int) < (q.length : Int) := by omega
          obtain ⟨b2, o2, rfl, _, hd0, hd1⟩ := (HQ.out wr HR.out.2.2.2.2.below).tms_of.2.at_ hlj
          have HTC := Lib.hid (HLQ.out.co _ (List.getElem_mem hlj))
          have HTX := Lib.hid (HLQ.out.ex _ (List.getElem_mem hlj))
          obtain ⟨rest, hrest⟩ := HN.out j hlj
          have HRS := Lib.hid hrest
          have HJT := Lib.hid (take_map hlj (fun t => (se + t.1, sc * t.2)))
          clear hrest
          generalize hte : q[j].1 = te at *
          generalize htc : q[j].2 = tc_ at *
          have hBsz : w.heap.size + 2 ≤ wr.heap.size := by have := HR.out.2.2.1.lt; omega
          have hWt : ∀ W, W = wr.alloc (.cells #[.int .i64 te, .int .i64 tc_] 51) → Arr W wr.heap.size 51 [.int .i64 te, .int .i64 tc_] ∧ Below wr.heap.size wr W ∧ W.heap.size = wr.heap.size + 1 := by
            intro W hW
            subst hW
            exact ⟨Arr.new _ _ [_, _], (Below.refl _ _).alloc (Nat.le_refl _) _, by simp⟩
          go_upto_region 7 with fail
          generalize (wr.alloc (.cells #[.int .i64 te, .int .i64 tc_] 51)) = w7 at hWt ⊢
          obtain ⟨qt, hb7, hs7⟩ := hWt w7 rfl
          obtain ⟨done, hdone⟩ : ∃ d, d = prs (p.take i) q ++ (q.take j).map (fun t => (se + t.1, sc * t.2)) := ⟨_, rfl⟩
          have HJ := Lib.hid (show J done w7 by rw [hdone]; exact HK.out.kp _ _ _ HR.out.1 hb7)
          have HNX := Lib.hid (show ∀ W, J (done ++ [(se + te, sc * tc_)]) W → J (prs (p.take i) q ++ (q.take (j + 1)).map (fun t => (se + t.1, sc * t.2))) W from fun W h => by rw [HJT.out, ← List.append_assoc, ← hdone]; exact h)
          rw [← hdone] at HRS
          have QS := Lib.hid (HR.out.2.2.2.1.below hb7 HR.out.2.2.2.1.lt)
          have QT := Lib.hid qt
          have QP := Lib.hid (HR.out.2.1.below hb7 HR.out.2.1.lt)
          have QQ := Lib.hid (HR.out.2.2.1.below hb7 HR.out.2.2.1.lt)
          have HO7 := Lib.hid (HR.out.2.2.2.2.grow hb7 (by omega))
          have HBS := Lib.hid (show base ≤ w7.heap.size by omega)
          have HGN := Lib.hid (show g ≠ w.heap.size ∧ g ≠ w.heap.size + 1 ∧ g ≠ wo.heap.size from ⟨by omega, by omega, by have := HHB.out; omega⟩)
          have HWR := Lib.hid (show IntKind.i64.wrap (se + te) = se + te from IntWalk.i64_in _ (by have := HSX.out; have := HTX.out; omega))
          obtain ⟨Bs, hBs⟩ : ∃ B, B = wo.heap.size := ⟨_, rfl⟩
          obtain ⟨Bt, hBt⟩ : ∃ B, B = wr.heap.size := ⟨_, rfl⟩
          have HBB := Lib.hid hBs
          rw [← hBs] at QS HR HGN ⊢
          rw [← hBt] at QT ⊢
          clear hte htc hd0 hd1 hb7 hs7 qt HR hdone HJT hBs hBt hBsz
          refine wp_region_phis 11 (by kernel_rfl) (by kernel_rfl) (by kernel_rfl) (by kernel_rfl) (by kernel_rfl) rfl (by kernel_rfl) (phiT (fun i => ([some (.func (.func K) #[] #[u1, u2]), some (.pointer (some ⟨Bs, 0, none⟩)), some (.int .i64 se), some (.pointer (some ⟨Bt, 0, none⟩)), some (.int .i64 te), some (.int .i64 (se + te)), some (.pointer (some ⟨Bs, 1, none⟩)), some (.int .i64 sc), some (.pointer (some ⟨Bt, 1, none⟩)), some (.int .i64 tc_), some (.agg #[.int .u64 ((hiN (rs (sc * tc_)) : Nat) : Int), .int .u64 ((loN (rs (sc * tc_)) : Nat) : Int)]), some (.tuple #[])] : List (Option Value)).getD i none) (fun i v w => True)) (fun i v w w' h hb => ?_) (fun i => false) (fun i v w hi h k hk => ?_) (fun _ W => J (done ++ [(se + te, sc * tc_)]) W ∧ Oth base [g] none w7 W) ⟨?_, ?_, ?_, ?_, ?_, ?_, ?_, ?_, ?_, ?_, ?_, ?_, trivial⟩ ?_
          · unfold phiT at h ⊢
            split
            · next u hu => rw [hu] at h; exact h
            · next hu =>
              rw [hu] at h
              exact True.intro
          · simp only [Bool.or_eq_true, decide_eq_true_eq, Bool.false_eq_true] at hi
          · intro x w1 bA hbel hdep hdap hold hb
            refine ⟨fun _ => ?_, fun h => absurd h (by decide)⟩
            have e2 : bA.tmps[2]?.getD undef = .func (.func K) #[] #[u1, u2] := hb 2
            refine phf_run (.func (.func K) #[] #[u1, u2]) rfl ?_ rfl
            clear hb hdep hdap hold
            go_simp
          · intro x w1 bA hbel hdep hdap hold hb
            refine ⟨fun _ => ?_, fun h => absurd h (by decide)⟩
            have e7 : bA.tmps[7]?.getD undef = .pointer (some ⟨Bs, 0, none⟩) := hb 7
            refine phf_run (.pointer (some ⟨Bs, 0, none⟩)) rfl ?_ rfl
            clear hb hdep hdap hold
            go_simp
          · intro x w1 bA hbel hdep hdap hold hb
            refine ⟨fun _ => ?_, fun h => absurd h (by decide)⟩
            have e25 : bA.tmps[25]?.getD undef = .pointer (some ⟨Bs, 0, none⟩) := (hb 25).trans (hdep 1 (by decide))
            have cc := (QS.out.below hbel QS.out.lt).cell 0
            refine phf_run (.int .i64 se) rfl ?_ rfl
            clear hb hdep hdap hold
            go_simp
          · intro x w1 bA hbel hdep hdap hold hb
            refine ⟨fun _ => ?_, fun h => absurd h (by decide)⟩
            have e9 : bA.tmps[9]?.getD undef = .pointer (some ⟨Bt, 0, none⟩) := hb 9
            refine phf_run (.pointer (some ⟨Bt, 0, none⟩)) rfl ?_ rfl
            clear hb hdep hdap hold
            go_simp
          · intro x w1 bA hbel hdep hdap hold hb
            refine ⟨fun _ => ?_, fun h => absurd h (by decide)⟩
            have e27 : bA.tmps[27]?.getD undef = .pointer (some ⟨Bt, 0, none⟩) := (hb 27).trans (hdep 3 (by decide))
            have cc := (QT.out.below hbel QT.out.lt).cell 0
            refine phf_run (.int .i64 te) rfl ?_ rfl
            clear hb hdep hdap hold
            go_simp
          · intro x w1 bA hbel hdep hdap hold hb
            refine ⟨fun _ => ?_, fun h => absurd h (by decide)⟩
            have e26 : bA.tmps[26]?.getD undef = .int .i64 se := (hb 26).trans (hdep 2 (by decide))
            have e28 : bA.tmps[28]?.getD undef = .int .i64 te := (hb 28).trans (hdep 4 (by decide))
            have cw := HWR.out
            refine phf_run (.int .i64 (se + te)) rfl ?_ rfl
            clear hb hdep hdap hold
            go_simp
          · intro x w1 bA hbel hdep hdap hold hb
            refine ⟨fun _ => ?_, fun h => absurd h (by decide)⟩
            have e7 : bA.tmps[7]?.getD undef = .pointer (some ⟨Bs, 0, none⟩) := hb 7
            refine phf_run (.pointer (some ⟨Bs, 1, none⟩)) rfl ?_ rfl
            clear hb hdep hdap hold
            go_simp
          · intro x w1 bA hbel hdep hdap hold hb
            refine ⟨fun _ => ?_, fun h => absurd h (by decide)⟩
            have e30 : bA.tmps[30]?.getD undef = .pointer (some ⟨Bs, 1, none⟩) := (hb 30).trans (hdep 6 (by decide))
            have cc := (QS.out.below hbel QS.out.lt).cell 1
            refine phf_run (.int .i64 sc) rfl ?_ rfl
            clear hb hdep hdap hold
            go_simp
          · intro x w1 bA hbel hdep hdap hold hb
            refine ⟨fun _ => ?_, fun h => absurd h (by decide)⟩
            have e9 : bA.tmps[9]?.getD undef = .pointer (some ⟨Bt, 0, none⟩) := hb 9
            refine phf_run (.pointer (some ⟨Bt, 1, none⟩)) rfl ?_ rfl
            clear hb hdep hdap hold
            go_simp
          · intro x w1 bA hbel hdep hdap hold hb
            refine ⟨fun _ => ?_, fun h => absurd h (by decide)⟩
            have e32 : bA.tmps[32]?.getD undef = .pointer (some ⟨Bt, 1, none⟩) := (hb 32).trans (hdep 8 (by decide))
            have cc := (QT.out.below hbel QT.out.lt).cell 1
            refine phf_run (.int .i64 tc_) rfl ?_ rfl
            clear hb hdep hdap hold
            go_simp
          · intro x w1 bA hbel hdep hdap hold hb
            refine ⟨fun _ => ?_, fun h => absurd h (by decide)⟩
            have e31 : bA.tmps[31]?.getD undef = .int .i64 sc := (hb 31).trans (hdep 7 (by decide))
            have e33 : bA.tmps[33]?.getD undef = .int .i64 tc_ := (hb 33).trans (hdep 9 (by decide))
            refine phf_call ?_ ((product_any sc tc_ w1 HSC.out HTC.out).mono fun e w' h => ⟨_, h.1, h.2, rfl, fun e => Bool.noConfusion e⟩)
            clear hb hdep hdap hold
            go_simp
          · intro x w1 bA hbel hdep hdap hold hb
            refine ⟨fun h => absurd h (by decide), fun _ hall => ?_⟩
            have e24 : bA.tmps[24]?.getD undef = .func (.func K) #[] #[u1, u2] := (hb 24).trans (hdep 0 (by decide))
            have e29 : bA.tmps[29]?.getD undef = .int .i64 (se + te) := (hb 29).trans (hdep 5 (by decide))
            have e34 : bA.tmps[34]?.getD undef = .agg #[.int .u64 ((hiN (rs (sc * tc_)) : Nat) : Int), .int .u64 ((loN (rs (sc * tc_)) : Nat) : Int)] := (hb 34).trans (hdep 10 (by decide))
            clear hb hdep hdap hold
            have eg := HK.out.eg
            refine phl_call (R := fun W => J (done ++ [(se + te, sc * tc_)]) W ∧ Oth base [g] none w7 W) K #[.int .i64 (se + te), .agg #[.int .u64 ((hiN (rs (sc * tc_)) : Nat) : Int), .int .u64 ((loN (rs (sc * tc_)) : Nat) : Int)], u1, u2] ?_ ((HK.out.st done (se + te) (sc * tc_) _ w1 HRS.out (HK.out.kp _ _ _ HJ.out hbel)).mono fun e w' h => ⟨_, h.1, h.2.1, ((Oth.refl1 base g w7).grow hbel HBS.out).trans1 h.2.2⟩)
            clear hbel
            go_simp
          intro x w1 hR
          simp only [putAll, dstOf, Act.put, List.map_cons, List.map_nil, List.setIfInBounds_toArray, List.set_cons_succ, List.set_cons_zero, Nat.reduceAdd]
          have HF := Lib.hid (show J (prs (p.take i) q ++ (q.take (j + 1)).map (fun t => (se + t.1, sc * t.2))) w1 ∧ Arr w1 w.heap.size 34 [.bool false, .slice (some ⟨b, o', none⟩) p.length c] ∧ Arr w1 (w.heap.size + 1) 34 [.bool false, .slice (some ⟨b2, o2, none⟩) q.length c2] ∧ Arr w1 wo.heap.size 51 [.int .i64 se, .int .i64 sc] ∧ Oth base [g] none w w1 from
            ⟨HNX.out _ hR.1, hR.2.at_ QP.out (Ne.symm HGN.out.1), hR.2.at_ QQ.out (Ne.symm HGN.out.2.1), by have := hR.2.at_ QS.out (Ne.symm HGN.out.2.2); rwa [HBB.out] at this, HO7.out.trans1 hR.2⟩)
          clear hR
          have hbe := HBB.out
          subst hbe
          clear HBB
          go_wp2_with fail
          go_roundg (q.length - (j + 1))
          case measure => omega
          case rel => exact ⟨j + 1, by omega, rfl, by go_num, HF⟩
        · have z2 : ¬ (j : Int) < (q.length : Int) := by omega
          have HF := Lib.hid (show J (prs (p.take (i + 1)) q) wr ∧ Arr wr w.heap.size 34 [.bool false, .slice (some ⟨b, o', none⟩) p.length c] ∧ Arr wr (w.heap.size + 1) 34 [.bool false, .slice A2 q.length c2] ∧ Oth base [g] none w wr from by
            have := HR.out
            rw [List.take_of_length_le (by omega : q.length ≤ j), ← HPT.out] at this
            exact ⟨this.1, this.2.1, this.2.2.1, this.2.2.2.2⟩)
          clear HR
          go_wp2_with fail
          go_roundg (p.length - (i + 1))
          case measure => omega
          case rel => exact ⟨i + 1, by omega, rfl, by go_num, HF⟩
    · have z1 : ¬ (i : Int) < (p.length : Int) := by omega
      have HF := Lib.hid (show J (prs p q) wr ∧ Oth base [g] none w wr from by
        have := HR.out
        rw [List.take_of_length_le (by omega)] at this
        exact ⟨this.1, this.2.2.2⟩)
      clear HR
      go_wp2_with fail
      go_end0
      exact ⟨rfl, HF.out⟩
end Go.Proofs.YtnmidhlghhephaaGreatDoor

namespace Go.Proofs.YtnmidhlghhephaaGreatDoor
open Go.RowKit
set_option linter.unusedVariables false
/-- wide integers as cells -/
def wc (x : Int) : List Value := [.int .u64 ((hiN (rs x) : Nat) : Int), .int .u64 ((loN (rs x) : Nat) : Int)]
def wrow (F : Int → Int) (low : Int) (n : Nat) : List Value := (List.range n).flatMap fun (k : Nat) => wc (F (low + (k : Int)))
theorem wflat_get : ∀ (l : List Int) (k j : Nat) (h : k < l.length), j < 2 → (l.flatMap wc)[k * 2 + j]? = (wc l[k])[j]? := by
  intro l
  induction l with
  | nil => intro k j h; simp at h
  | cons m l ih =>
    intro k j h hj
    rw [List.flatMap_cons]
    cases k with
    | zero => rw [List.getElem?_append_left (by simp [wc]; omega)]; simp
    | succ k =>
      rw [List.getElem?_append_right (by simp [wc]; omega)]
      have := ih k j (by simpa using h) hj
      rw [show (k + 1) * 2 + j - (wc m).length = k * 2 + j from by simp [wc]; omega, this]
      simp
theorem wflat_len (l : List Int) : (l.flatMap wc).length = l.length * 2 := by
  induction l with
  | nil => rfl
  | cons m l ih => rw [List.flatMap_cons, List.length_append, ih, List.length_cons]; simp [wc]; omega
theorem wrow_map (F : Int → Int) (low : Int) (n : Nat) : wrow F low n = ((List.range n).map fun (k : Nat) => F (low + (k : Int))).flatMap wc := by unfold wrow; rw [List.flatMap_map]
theorem wrow_len (F : Int → Int) (low : Int) (n : Nat) : (wrow F low n).length = n * 2 := by rw [wrow_map, wflat_len]; simp
theorem wrow_get (F : Int → Int) (low : Int) (n k : Nat) (h : k < n) : (wrow F low n)[k * 2]? = some (.int .u64 ((hiN (rs (F (low + (k : Int)))) : Nat) : Int)) ∧ (wrow F low n)[k * 2 + 1]? = some (.int .u64 ((loN (rs (F (low + (k : Int)))) : Nat) : Int)) := by
  have h1 := wflat_get ((List.range n).map fun (k : Nat) => F (low + (k : Int))) k 0 (by simpa using h) (by omega)
  have h2 := wflat_get ((List.range n).map fun (k : Nat) => F (low + (k : Int))) k 1 (by simpa using h) (by omega)
  rw [← wrow_map] at h1 h2
  simp only [List.getElem_map, List.getElem_range] at h1 h2
  exact ⟨h1, h2⟩
theorem wrow_set (F G : Int → Int) (low : Int) (n k : Nat) (h : k < n) (hG : ∀ j : Nat, j < n → j ≠ k → G (low + (j : Int)) = F (low + (j : Int))) :
    ((wrow F low n).set (k * 2) (.int .u64 ((hiN (rs (G (low + (k : Int)))) : Nat) : Int))).set (k * 2 + 1) (.int .u64 ((loN (rs (G (low + (k : Int)))) : Nat) : Int)) = wrow G low n := by
  apply List.ext_getElem?
  intro i
  rw [List.getElem?_set, List.getElem?_set]
  have hl := wrow_len F low n
  have hl2 := wrow_len G low n
  by_cases hi : i < n * 2
  · have hj : i / 2 < n := by omega
    by_cases h2 : i % 2 = 0
    · have e : i = i / 2 * 2 := by omega
      generalize hm : i / 2 = m at *
      subst e
      rw [(wrow_get G low n m hj).1]
      rw [if_neg (by omega)]
      by_cases hk : m = k
      · subst hk; rw [if_pos rfl, if_pos (by omega)]
      · rw [if_neg (by omega), (wrow_get F low n m hj).1, hG m hj hk]
    · have e : i = i / 2 * 2 + 1 := by omega
      generalize hm : i / 2 = m at *
      subst e
      rw [(wrow_get G low n m hj).2]
      by_cases hk : m = k
      · subst hk; rw [if_pos rfl, if_pos (by rw [List.length_set]; omega)]
      · rw [if_neg (by omega), if_neg (by omega), (wrow_get F low n m hj).2, hG m hj hk]
  · rw [if_neg (by omega), if_neg (by omega), List.getElem?_eq_none (by omega), List.getElem?_eq_none (by omega)]
/-- the state of the sums -/
structure SumS (Sb Lb g n : Nat) (low : Int) (done : List (Int × Int)) (W : World) : Prop where
  ss : Arr W Sb 57 [.slice (some ⟨g, 0, none⟩) n n]
  ll : Arr W Lb 3 [.int .i64 low]
  row : Arr W g 61 (wrow (cf done) low n)
theorem SumS.kp {Sb Lb g n : Nat} {low : Int} {done : List (Int × Int)} {W W' : World} (h : SumS Sb Lb g n low done W) (hb : Below W.heap.size W W') : SumS Sb Lb g n low done W' := ⟨h.ss.below hb h.ss.lt, h.ll.below hb h.ll.lt, h.row.below hb h.row.lt⟩
set_option maxHeartbeats 2000000 in
set_option maxRecDepth 100000 in
theorem mulclo_any (Sb Lb g n base : Nat) (low e c : Int) (m : Nat) (done : List (Int × Int)) (w : World) (hs : SumS Sb Lb g n low done w) (he : e = low + (m : Int)) (hi : m < n) (hn : n ≤ 1000000000) (hlo : -1000000000 ≤ low ∧ low ≤ 1000000000) (hgS : g ≠ Sb) (hgL : g ≠ Lb) (hbg : base ≤ g) (hbw : base ≤ w.heap.size) :
    Calls Tryz.prog 28 #[.int .i64 e, .agg #[.int .u64 ((hiN (rs c) : Nat) : Int), .int .u64 ((loN (rs c) : Nat) : Int)], .pointer (some ⟨Sb, 0, none⟩), .pointer (some ⟨Lb, 0, none⟩)] w fun en w' => en = .returned (.tuple #[]) ∧ SumS Sb Lb g n low (done ++ [(e, c)]) w' ∧ Oth base [g] none w w' := by
  have HI := Lib.hid hi
  have HG := Lib.hid (And.intro hgS hgL)
  have HBG := Lib.hid (And.intro hbg hbw)
  have HCF := Lib.hid (show ∀ x, cf (done ++ [(e, c)]) x = cf done x + if e = x then c else 0 from fun x => by rw [cf_append, cf_one])
  have HWR := Lib.hid (show IntKind.i64.wrap (e - low) = (m : Int) from by rw [he, show low + (m : Int) - low = (m : Int) by omega]; exact IntWalk.i64_in _ (by omega))
  have HE := Lib.hid he
  have zi : (m : Int) < (n : Int) := by omega
  have hW : ∀ (c1 c2 : Int) W, W = w.alloc (.cells #[.int .u64 c1, .int .u64 c2] 61) → SumS Sb Lb g n low done W ∧ Arr W w.heap.size 61 [.int .u64 c1, .int .u64 c2] ∧ Below w.heap.size w W ∧ W.heap.size = w.heap.size + 1 := by
    intro c1 c2 W hW
    subst hW
    exact ⟨hs.kp ((Below.refl _ _).alloc (Nat.le_refl _) _), Arr.new _ _ [_, _], (Below.refl _ _).alloc (Nat.le_refl _) _, by simp⟩
  replace hW := hW ((hiN (rs c) : Nat) : Int) ((loN (rs c) : Nat) : Int)
  have HGW := Lib.hid hs.row.lt
  clear hs he hi hn hlo hgS hgL hbg hbw
  obtain ⟨B, hB⟩ : ∃ B, B = w.heap.size := ⟨_, rfl⟩
  go_enter Tryz.func28, Tryz.ntmps28
  go_upto_region 1 with fail
  generalize (w.alloc (.cells #[.int .u64 ((hiN (rs c) : Nat) : Int), .int .u64 ((loN (rs c) : Nat) : Int)] 61)) = w3 at hW ⊢
  obtain ⟨hs3, qb, hb3, hs⟩ := hW w3 rfl
  rw [← hB] at qb hs HGW HBG ⊢
  have HS3 := Lib.hid hs3
  have QB := Lib.hid qb
  have HB3 := Lib.hid hb3
  have HSZ := Lib.hid hs
  have HBE := Lib.hid hB
  clear hW hs3 qb hb3 hs hB
  refine wp_region_phis 13 (by kernel_rfl) (by kernel_rfl) (by kernel_rfl) (by kernel_rfl) (by kernel_rfl) rfl (by kernel_rfl) (phiT (fun i => ([some (.slice (some ⟨g, 0, none⟩) n n), some (.int .i64 e), some (.int .i64 low), some (.int .i64 (m : Int)), some (.slice (some ⟨g, 0, none⟩) n n), some (.int .i64 e), some (.int .i64 low), some (.int .i64 (m : Int)), some (.pointer (some ⟨g, m * 2, none⟩)), some (.agg #[.int .u64 ((hiN (rs (cf done e)) : Nat) : Int), .int .u64 ((loN (rs (cf done e)) : Nat) : Int)]), some (.agg #[.int .u64 ((hiN (rs c) : Nat) : Int), .int .u64 ((loN (rs c) : Nat) : Int)]), some (.agg #[.int .u64 ((hiN (rs (cf done e + c)) : Nat) : Int), .int .u64 ((loN (rs (cf done e + c)) : Nat) : Int)]), some (.pointer (some ⟨g, m * 2, none⟩)), some (undef)] : List (Option Value)).getD i none) (fun i v w => True)) (fun i v w w' h hb => ?_) (fun i => false) (fun i v w hi h k hk => ?_) (fun _ W => SumS Sb Lb g n low (done ++ [(e, c)]) W ∧ Oth base [g] none w3 W) ⟨?_, ?_, ?_, ?_, ?_, ?_, ?_, ?_, ?_, ?_, ?_, ?_, ?_, ?_, trivial⟩ ?_
  · unfold phiT at h ⊢
    split
    · next u hu => rw [hu] at h; exact h
    · next hu =>
      rw [hu] at h
      exact True.intro
  · simp only [Bool.or_eq_true, decide_eq_true_eq, Bool.false_eq_true] at hi
  · intro x w1 bA hbel hdep hdap hold hb
    refine ⟨fun _ => ?_, fun h => absurd h (by decide)⟩
    have e2 : bA.tmps[2]?.getD undef = .pointer (some ⟨Sb, 0, none⟩) := hb 2
    have cc := ((HS3.out.kp hbel).ss).cell 0
    refine phf_run (.slice (some ⟨g, 0, none⟩) n n) rfl ?_ rfl
    clear hb hdep hdap hold
    go_simp
  · intro x w1 bA hbel hdep hdap hold hb
    refine ⟨fun _ => ?_, fun h => absurd h (by decide)⟩
    have e0 : bA.tmps[0]?.getD undef = .int .i64 e := hb 0
    refine phf_run (.int .i64 e) rfl ?_ rfl
    clear hb hdep hdap hold
    go_simp
  · intro x w1 bA hbel hdep hdap hold hb
    refine ⟨fun _ => ?_, fun h => absurd h (by decide)⟩
    have e3 : bA.tmps[3]?.getD undef = .pointer (some ⟨Lb, 0, none⟩) := hb 3
    have cc := ((HS3.out.kp hbel).ll).cell 0
    refine phf_run (.int .i64 low) rfl ?_ rfl
    clear hb hdep hdap hold
    go_simp
  · intro x w1 bA hbel hdep hdap hold hb
    refine ⟨fun _ => ?_, fun h => absurd h (by decide)⟩
    have e7 : bA.tmps[7]?.getD undef = .int .i64 e := (hb 7).trans (hdep 1 (by decide))
    have e8 : bA.tmps[8]?.getD undef = .int .i64 low := (hb 8).trans (hdep 2 (by decide))
    have cw := HWR.out
    refine phf_run (.int .i64 (m : Int)) rfl ?_ rfl
    clear hb hdep hdap hold
    go_simp
  · intro x w1 bA hbel hdep hdap hold hb
    refine ⟨fun _ => ?_, fun h => absurd h (by decide)⟩
    have e2 : bA.tmps[2]?.getD undef = .pointer (some ⟨Sb, 0, none⟩) := hb 2
    have cc := ((HS3.out.kp hbel).ss).cell 0
    refine phf_run (.slice (some ⟨g, 0, none⟩) n n) rfl ?_ rfl
    clear hb hdep hdap hold
    go_simp
  · intro x w1 bA hbel hdep hdap hold hb
    refine ⟨fun _ => ?_, fun h => absurd h (by decide)⟩
    have e0 : bA.tmps[0]?.getD undef = .int .i64 e := hb 0
    refine phf_run (.int .i64 e) rfl ?_ rfl
    clear hb hdep hdap hold
    go_simp
  · intro x w1 bA hbel hdep hdap hold hb
    refine ⟨fun _ => ?_, fun h => absurd h (by decide)⟩
    have e3 : bA.tmps[3]?.getD undef = .pointer (some ⟨Lb, 0, none⟩) := hb 3
    have cc := ((HS3.out.kp hbel).ll).cell 0
    refine phf_run (.int .i64 low) rfl ?_ rfl
    clear hb hdep hdap hold
    go_simp
  · intro x w1 bA hbel hdep hdap hold hb
    refine ⟨fun _ => ?_, fun h => absurd h (by decide)⟩
    have e11 : bA.tmps[11]?.getD undef = .int .i64 e := (hb 11).trans (hdep 5 (by decide))
    have e12 : bA.tmps[12]?.getD undef = .int .i64 low := (hb 12).trans (hdep 6 (by decide))
    have cw := HWR.out
    refine phf_run (.int .i64 (m : Int)) rfl ?_ rfl
    clear hb hdep hdap hold
    go_simp
  · intro x w1 bA hbel hdep hdap hold hb
    refine ⟨fun _ => ?_, fun h => absurd h (by decide)⟩
    have e10 : bA.tmps[10]?.getD undef = .slice (some ⟨g, 0, none⟩) n n := (hb 10).trans (hdep 4 (by decide))
    have e13 : bA.tmps[13]?.getD undef = .int .i64 (m : Int) := (hb 13).trans (hdep 7 (by decide))
    refine phf_run (.pointer (some ⟨g, m * 2, none⟩)) rfl ?_ rfl
    clear hb hdep hdap hold
    go_simp
  · intro x w1 bA hbel hdep hdap hold hb
    refine ⟨fun _ => ?_, fun h => absurd h (by decide)⟩
    have e14 : bA.tmps[14]?.getD undef = .pointer (some ⟨g, m * 2, none⟩) := (hb 14).trans (hdep 8 (by decide))
    have cc0 := ((HS3.out.kp hbel).row).cell (m * 2)
    have cc1 := ((HS3.out.kp hbel).row).cell (m * 2 + 1)
    rw [(wrow_get (cf done) low n m HI.out).1, ← HE.out] at cc0
    rw [(wrow_get (cf done) low n m HI.out).2, ← HE.out] at cc1
    refine phf_run (.agg #[.int .u64 ((hiN (rs (cf done e)) : Nat) : Int), .int .u64 ((loN (rs (cf done e)) : Nat) : Int)]) rfl ?_ rfl
    clear hb hdep hdap hold
    go_simp
  · intro x w1 bA hbel hdep hdap hold hb
    refine ⟨fun _ => ?_, fun h => absurd h (by decide)⟩
    have e5 : bA.tmps[5]?.getD undef = .pointer (some ⟨B, 0, none⟩) := hb 5
    have cc0 := (QB.out.below hbel QB.out.lt).cell 0
    have cc1 := (QB.out.below hbel QB.out.lt).cell 1
    refine phf_run (.agg #[.int .u64 ((hiN (rs c) : Nat) : Int), .int .u64 ((loN (rs c) : Nat) : Int)]) rfl ?_ rfl
    clear hb hdep hdap hold
    go_simp
  · intro x w1 bA hbel hdep hdap hold hb
    refine ⟨fun _ => ?_, fun h => absurd h (by decide)⟩
    have e15 : bA.tmps[15]?.getD undef = .agg #[.int .u64 ((hiN (rs (cf done e)) : Nat) : Int), .int .u64 ((loN (rs (cf done e)) : Nat) : Int)] := (hb 15).trans (hdep 9 (by decide))
    have e16 : bA.tmps[16]?.getD undef = .agg #[.int .u64 ((hiN (rs c) : Nat) : Int), .int .u64 ((loN (rs c) : Nat) : Int)] := (hb 16).trans (hdep 10 (by decide))
    refine phf_call ?_ ((wadd_any (cf done e) c w1).mono fun e w' h => ⟨_, h.1, h.2, rfl, fun e => Bool.noConfusion e⟩)
    clear hb hdep hdap hold
    go_simp
  · intro x w1 bA hbel hdep hdap hold hb
    refine ⟨fun _ => ?_, fun h => absurd h (by decide)⟩
    have e6 : bA.tmps[6]?.getD undef = .slice (some ⟨g, 0, none⟩) n n := (hb 6).trans (hdep 0 (by decide))
    have e9 : bA.tmps[9]?.getD undef = .int .i64 (m : Int) := (hb 9).trans (hdep 3 (by decide))
    refine phf_run (.pointer (some ⟨g, m * 2, none⟩)) rfl ?_ rfl
    clear hb hdep hdap hold
    go_simp
  · intro x w1 bA hbel hdep hdap hold hb
    refine ⟨fun h => absurd h (by decide), fun _ hall => ?_⟩
    have e17 : bA.tmps[17]?.getD undef = .agg #[.int .u64 ((hiN (rs (cf done e + c)) : Nat) : Int), .int .u64 ((loN (rs (cf done e + c)) : Nat) : Int)] := (hb 17).trans (hdep 11 (by decide))
    have e18 : bA.tmps[18]?.getD undef = .pointer (some ⟨g, m * 2, none⟩) := (hb 18).trans (hdep 12 (by decide))
    clear hb hdep hdap hold
    have hs1 := HS3.out.kp hbel
    have rr0 := hs1.row.cell (m * 2)
    have rr1 := hs1.row.cell (m * 2 + 1)
    rw [(wrow_get (cf done) low n m HI.out).1] at rr0
    rw [(wrow_get (cf done) low n m HI.out).2] at rr1
    have f0 := hs1.row.frozen (m * 2)
    have f1 := hs1.row.frozen (m * 2 + 1)
    have hset := (hs1.row.set (m * 2) (.int .u64 ((hiN (rs (cf done e + c)) : Nat) : Int))).set (m * 2 + 1) (.int .u64 ((loN (rs (cf done e + c)) : Nat) : Int))
    have hrow : ((wrow (cf done) low n).set (m * 2) (.int .u64 ((hiN (rs (cf done e + c)) : Nat) : Int))).set (m * 2 + 1) (.int .u64 ((loN (rs (cf done e + c)) : Nat) : Int)) = wrow (cf (done ++ [(e, c)])) low n := by
      have h1 : cf done e + c = cf (done ++ [(e, c)]) (low + (m : Int)) := by rw [HCF.out, HE.out, if_pos rfl]
      rw [h1]
      exact wrow_set _ _ low n m HI.out (fun j _ hj => by rw [HCF.out, if_neg (by rw [HE.out]; omega), Int.add_zero])
    rw [hrow] at hset
    have HSET := Lib.hid hset
    have HS1 := Lib.hid hs1
    have HBL := Lib.hid hbel
    clear hset hrow hs1 hbel
    refine phl_store (R := fun W => SumS Sb Lb g n low (done ++ [(e, c)]) W ∧ Oth base [g] none w3 W) ((w1.setCell ⟨g, m * 2, none⟩ (.int .u64 ((hiN (rs (cf done e + c)) : Nat) : Int))).setCell ⟨g, m * 2 + 1, none⟩ (.int .u64 ((loN (rs (cf done e + c)) : Nat) : Int))) ?_ rfl ⟨⟨(HS1.out.ss.far (Ne.symm HG.out.1) _).far (Ne.symm HG.out.1) _, (HS1.out.ll.far (Ne.symm HG.out.2) _).far (Ne.symm HG.out.2) _, HSET.out⟩, (((Oth.refl1 base g w3).grow HBL.out (by have := HBG.out; have := HSZ.out; omega)).set HBG.out.1 _ _).set HBG.out.1 _ _⟩
    go_simp
  intro x w1 hR
  simp only [putAll, dstOf, Act.put, List.map_cons, List.map_nil, List.setIfInBounds_toArray, List.set_cons_succ, List.set_cons_zero, Nat.reduceAdd]
  have HR := Lib.hid hR
  clear hR
  go_wp2_with fail
  go_end0
  have hbe := HBE.out
  subst hbe
  exact ⟨rfl, HR.out.1, ((Oth.refl1 base g w).grow HB3.out HBG.out.2).trans1 HR.out.2⟩
open Go.Maps
def kyI (e : Int) : Lit := .int .i64 e
theorem kyI_ne {a b : Int} (h : a ≠ b) : kyI a ≠ kyI b := by
  intro e
  unfold kyI at e
  injection e with _ e
  exact h e
def wD (x : Int) : DataW Unit := .agg [.lit (.int .u64 ((hiN (rs x) : Nat) : Int)), .lit (.int .u64 ((loN (rs x) : Nat) : Int))]
/-- a wide integer as an element of a map -/
def wElem : Value → Option (DataW Unit × List MemPlace)
  | .agg cs => match cs.toList with
    | [.int .u64 a, .int .u64 b] => some (.agg [.lit (.int .u64 a), .lit (.int .u64 b)], [])
    | _ => none
  | _ => none
theorem wElem_mk (x : Int) : wElem (.agg #[.int .u64 ((hiN (rs x) : Nat) : Int), .int .u64 ((loN (rs x) : Nat) : Int)]) = some (wD x, []) := rfl
theorem wElem_inv {v : Value} {x : Int} {ps : List MemPlace} (h : wElem v = some (wD x, ps)) : v = .agg #[.int .u64 ((hiN (rs x) : Nat) : Int), .int .u64 ((loN (rs x) : Nat) : Int)] := by
  unfold wElem at h
  split at h
  · next cs =>
    split at h
    · next a b hc =>
      simp only [Option.some.injEq, Prod.mk.injEq, wD, DataW.agg.injEq, List.cons.injEq, DataW.lit.injEq, Lit.int.injEq, and_true, true_and] at h
      obtain ⟨⟨h1, h2⟩, _⟩ := h
      have : cs = #[.int .u64 a, .int .u64 b] := by apply Array.ext'; simpa using hc
      rw [this, h1, h2]
    · cases h
  · cases h
/-- what the map holds -/
structure MD (done : List (Int × Int)) (D : DataW Unit) : Prop where
  tidy : Tidy D
  val : ∀ e, D.atKey (kyI e) (wD 0) = wD (cf done e)
  has : ∀ e, Maps.has D (kyI e) = true ↔ ∃ t ∈ done, t.1 = e
theorem MD.start : MD [] (.map []) := ⟨tidy_empty, fun e => rfl, fun e => by simp [Maps.has]⟩
theorem MD.put {done : List (Int × Int)} {D : DataW Unit} (h : MD done D) (e c : Int) : MD (done ++ [(e, c)]) (D.put (kyI e) (wD (cf done e + c))) := by
  have hkl : WideAt.IsKeyLit (kyI e) := trivial
  refine ⟨h.tidy.put hkl _, fun x => ?_, fun x => ?_⟩
  · rw [cf_append, cf_one]
    by_cases hx : x = e
    · subst hx
      rw [atKey_put_same h.tidy.isMap hkl, if_pos rfl]
    · rw [atKey_put_other (kyI_ne hx), h.val, if_neg (fun q => hx q.symm), Int.add_zero]
  · by_cases hx : x = e
    · subst hx
      rw [has_put_same h.tidy.isMap hkl]
      exact ⟨fun _ => ⟨(x, c), by simp, rfl⟩, fun _ => rfl⟩
    · rw [has_put_other (kyI_ne hx), h.has]
      constructor
      · rintro ⟨t, ht, he⟩; exact ⟨t, List.mem_append_left _ ht, he⟩
      · rintro ⟨t, ht, he⟩
        rcases List.mem_append.1 ht with ht | ht
        · exact ⟨t, ht, he⟩
        · rw [List.mem_singleton.1 ht] at he; exact absurd he.symm hx
/-- the state of the map -/
structure MapS (Mb g : Nat) (done : List (Int × Int)) (W : World) : Prop where
  mm : Arr W Mb 94 [.map (some g)]
  ex : ∃ D : DataW Unit, W.ownsMap Tryz.prog 3 wElem g done.length D ∧ MD done D
theorem MapS.lt {Mb g : Nat} {done : List (Int × Int)} {W : World} (h : MapS Mb g done W) : g < W.heap.size := by obtain ⟨D, h1, _⟩ := h.ex; exact h1.lt
theorem MapS.kp {Mb g : Nat} {done : List (Int × Int)} {W W' : World} (h : MapS Mb g done W) (hb : Below W.heap.size W W') : MapS Mb g done W' := by
  obtain ⟨D, ⟨es, clock, hh, F, hs, hD⟩, h2⟩ := h.ex
  have hlt : g < W.heap.size := (Array.getElem?_eq_some_iff.1 hh).1
  exact ⟨h.mm.below hb h.mm.lt, D, ⟨es, clock, (hb.block g hlt).trans hh, F, hs, hD⟩, h2⟩
theorem MapS.ne {Mb g : Nat} {done : List (Int × Int)} {W : World} (h : MapS Mb g done W) : Mb ≠ g := by
  intro e
  subst e
  obtain ⟨D, ⟨es, clock, hh, _⟩, _⟩ := h.ex
  have h1 := h.mm
  unfold Arr at h1
  rw [h1] at hh
  cases hh
theorem zeroWide (w : World) : (zeroValue 61).run Tryz.prog w = .ok (.agg #[.int .u64 0, .int .u64 0]) w := by kernel_rfl
theorem keyed_int : Keyed Tryz.prog 3 := int_keyed Tryz.underlying3
theorem key_int {e : Int} (h : -9223372036854775808 ≤ e ∧ e ≤ 9223372036854775807) : keyOf Tryz.prog 3 (.int .i64 e) = some (kyI e) := keyOf_int_mk Tryz.underlying3 (WalkArith.wf_i64 (by omega))
theorem MapS.look {Mb g : Nat} {done : List (Int × Int)} {W : World} (h : MapS Mb g done W) {e : Int} (he : -9223372036854775808 ≤ e ∧ e ≤ 9223372036854775807) : (Instr.lookup 94 (.map (some g)) (.int .i64 e) false).run Tryz.prog W = .ok (.agg #[.int .u64 ((hiN (rs (cf done e)) : Nat) : Int), .int .u64 ((loN (rs (cf done e)) : Nat) : Int)]) W := by
  obtain ⟨D, h1, h2⟩ := h.ex
  obtain ⟨v, ps, hrun, hv⟩ := h1.lookup keyed_int Tryz.underlying94 (zeroWide W) (wElem_mk 0) (key_int he)
  rw [h2.val] at hv
  rw [hrun, wElem_inv hv]
theorem MapS.store {Mb g : Nat} {done : List (Int × Int)} {W : World} (h : MapS Mb g done W) {e c : Int} (he : -9223372036854775808 ≤ e ∧ e ≤ 9223372036854775807) (hl : done.length ≤ 1000000000000000) : ∃ W', (Instr.mapUpdate 94 (.map (some g)) (.int .i64 e) (.agg #[.int .u64 ((hiN (rs (cf done e + c)) : Nat) : Int), .int .u64 ((loN (rs (cf done e + c)) : Nat) : Int)])).run Tryz.prog W = .ok () W' ∧ MapS Mb g (done ++ [(e, c)]) W' ∧ ∀ base, base ≤ g → base ≤ W.heap.size → Oth base [g] none W W' := by
  have hne := h.ne
  obtain ⟨D, h1, h2⟩ := h.ex
  obtain ⟨W', hrun, hown, hgr⟩ := h1.update keyed_int Tryz.underlying94 (by unfold maxLen; omega) (key_int he) (wElem_mk (cf done e + c))
  refine ⟨W', hrun, ⟨(hgr.block Mb h.mm.lt (fun q => by injection q with q; exact hne q)).trans h.mm, _, by rw [List.length_append]; exact hown, h2.put e c⟩, fun base hb hbs => ⟨(Below.refl base W).grown hgr hbs (fun j hj => by cases hj; exact hb), fun k hk h1 _ => hgr.block k hk (fun q => by injection q with q; exact h1 (by simp [q]))⟩⟩
set_option maxHeartbeats 2000000 in
set_option maxRecDepth 100000 in
theorem spclo_any (Mb g base : Nat) (e c : Int) (done : List (Int × Int)) (w : World) (hs : MapS Mb g done w) (he : -9223372036854775808 ≤ e ∧ e ≤ 9223372036854775807) (hl : done.length ≤ 1000000000000000) (hbg : base ≤ g) (hbw : base ≤ w.heap.size) :
    Calls Tryz.prog 53 #[.int .i64 e, .agg #[.int .u64 ((hiN (rs c) : Nat) : Int), .int .u64 ((loN (rs c) : Nat) : Int)], .pointer (some ⟨Mb, 0, none⟩)] w fun en w' => en = .returned (.tuple #[]) ∧ MapS Mb g (done ++ [(e, c)]) w' ∧ Oth base [g] none w w' := by
  have HBG := Lib.hid (And.intro hbg hbw)
  have HE := Lib.hid he
  have HL := Lib.hid hl
  have hW : ∀ (c1 c2 : Int) W, W = w.alloc (.cells #[.int .u64 c1, .int .u64 c2] 61) → MapS Mb g done W ∧ Arr W w.heap.size 61 [.int .u64 c1, .int .u64 c2] ∧ Below w.heap.size w W ∧ W.heap.size = w.heap.size + 1 := by
    intro c1 c2 W hW
    subst hW
    exact ⟨hs.kp ((Below.refl _ _).alloc (Nat.le_refl _) _), Arr.new _ _ [_, _], (Below.refl _ _).alloc (Nat.le_refl _) _, by simp⟩
  replace hW := hW ((hiN (rs c) : Nat) : Int) ((loN (rs c) : Nat) : Int)
  have HGW := Lib.hid hs.lt
  clear hs he hl hbg hbw
  obtain ⟨B, hB⟩ : ∃ B, B = w.heap.size := ⟨_, rfl⟩
  go_enter Tryz.func53, Tryz.ntmps53
  go_upto_region 1 with fail
  generalize (w.alloc (.cells #[.int .u64 ((hiN (rs c) : Nat) : Int), .int .u64 ((loN (rs c) : Nat) : Int)] 61)) = w3 at hW ⊢
  obtain ⟨hs3, qb, hb3, hs⟩ := hW w3 rfl
  rw [← hB] at qb hs HGW HBG ⊢
  have HS3 := Lib.hid hs3
  have QB := Lib.hid qb
  have HB3 := Lib.hid hb3
  have HSZ := Lib.hid hs
  have HBE := Lib.hid hB
  clear hW hs3 qb hb3 hs hB
  refine wp_region_phis 7 (by kernel_rfl) (by kernel_rfl) (by kernel_rfl) (by kernel_rfl) (by kernel_rfl) rfl (by kernel_rfl) (phiT (fun i => ([some (.map (some g)), some (.int .i64 e), some (.map (some g)), some (.int .i64 e), some (.agg #[.int .u64 ((hiN (rs (cf done e)) : Nat) : Int), .int .u64 ((loN (rs (cf done e)) : Nat) : Int)]), some (.agg #[.int .u64 ((hiN (rs c) : Nat) : Int), .int .u64 ((loN (rs c) : Nat) : Int)]), some (.agg #[.int .u64 ((hiN (rs (cf done e + c)) : Nat) : Int), .int .u64 ((loN (rs (cf done e + c)) : Nat) : Int)]), some (undef)] : List (Option Value)).getD i none) (fun i v w => True)) (fun i v w w' h hb => ?_) (fun i => false) (fun i v w hi h k hk => ?_) (fun _ W => MapS Mb g (done ++ [(e, c)]) W ∧ Oth base [g] none w3 W) ⟨?_, ?_, ?_, ?_, ?_, ?_, ?_, ?_, trivial⟩ ?_
  · unfold phiT at h ⊢
    split
    · next u hu => rw [hu] at h; exact h
    · next hu =>
      rw [hu] at h
      exact True.intro
  · simp only [Bool.or_eq_true, decide_eq_true_eq, Bool.false_eq_true] at hi
  · intro x w1 bA hbel hdep hdap hold hb
    refine ⟨fun _ => ?_, fun h => absurd h (by decide)⟩
    have e2 : bA.tmps[2]?.getD undef = .pointer (some ⟨Mb, 0, none⟩) := hb 2
    have cc := ((HS3.out.kp hbel).mm).cell 0
    refine phf_run (.map (some g)) rfl ?_ rfl
    clear hb hdep hdap hold
    go_simp
  · intro x w1 bA hbel hdep hdap hold hb
    refine ⟨fun _ => ?_, fun h => absurd h (by decide)⟩
    have e0 : bA.tmps[0]?.getD undef = .int .i64 e := hb 0
    refine phf_run (.int .i64 e) rfl ?_ rfl
    clear hb hdep hdap hold
    go_simp
  · intro x w1 bA hbel hdep hdap hold hb
    refine ⟨fun _ => ?_, fun h => absurd h (by decide)⟩
    have e2 : bA.tmps[2]?.getD undef = .pointer (some ⟨Mb, 0, none⟩) := hb 2
    have cc := ((HS3.out.kp hbel).mm).cell 0
    refine phf_run (.map (some g)) rfl ?_ rfl
    clear hb hdep hdap hold
    go_simp
  · intro x w1 bA hbel hdep hdap hold hb
    refine ⟨fun _ => ?_, fun h => absurd h (by decide)⟩
    have e0 : bA.tmps[0]?.getD undef = .int .i64 e := hb 0
    refine phf_run (.int .i64 e) rfl ?_ rfl
    clear hb hdep hdap hold
    go_simp
  · intro x w1 bA hbel hdep hdap hold hb
    refine ⟨fun _ => ?_, fun h => absurd h (by decide)⟩
    have e7 : bA.tmps[7]?.getD undef = .map (some g) := (hb 7).trans (hdep 2 (by decide))
    have e8 : bA.tmps[8]?.getD undef = .int .i64 e := (hb 8).trans (hdep 3 (by decide))
    have cl := (HS3.out.kp hbel).look HE.out
    refine phf_run (.agg #[.int .u64 ((hiN (rs (cf done e)) : Nat) : Int), .int .u64 ((loN (rs (cf done e)) : Nat) : Int)]) rfl ?_ rfl
    clear hb hdep hdap hold
    go_simp
  · intro x w1 bA hbel hdep hdap hold hb
    refine ⟨fun _ => ?_, fun h => absurd h (by decide)⟩
    have e4 : bA.tmps[4]?.getD undef = .pointer (some ⟨B, 0, none⟩) := hb 4
    have cc0 := (QB.out.below hbel QB.out.lt).cell 0
    have cc1 := (QB.out.below hbel QB.out.lt).cell 1
    refine phf_run (.agg #[.int .u64 ((hiN (rs c) : Nat) : Int), .int .u64 ((loN (rs c) : Nat) : Int)]) rfl ?_ rfl
    clear hb hdep hdap hold
    go_simp
  · intro x w1 bA hbel hdep hdap hold hb
    refine ⟨fun _ => ?_, fun h => absurd h (by decide)⟩
    have e9 : bA.tmps[9]?.getD undef = .agg #[.int .u64 ((hiN (rs (cf done e)) : Nat) : Int), .int .u64 ((loN (rs (cf done e)) : Nat) : Int)] := (hb 9).trans (hdep 4 (by decide))
    have e10 : bA.tmps[10]?.getD undef = .agg #[.int .u64 ((hiN (rs c) : Nat) : Int), .int .u64 ((loN (rs c) : Nat) : Int)] := (hb 10).trans (hdep 5 (by decide))
    refine phf_call ?_ ((wadd_any (cf done e) c w1).mono fun e w' h => ⟨_, h.1, h.2, rfl, fun e => Bool.noConfusion e⟩)
    clear hb hdep hdap hold
    go_simp
  · intro x w1 bA hbel hdep hdap hold hb
    refine ⟨fun h => absurd h (by decide), fun _ hall => ?_⟩
    have e5 : bA.tmps[5]?.getD undef = .map (some g) := (hb 5).trans (hdep 0 (by decide))
    have e6 : bA.tmps[6]?.getD undef = .int .i64 e := (hb 6).trans (hdep 1 (by decide))
    have e11 : bA.tmps[11]?.getD undef = .agg #[.int .u64 ((hiN (rs (cf done e + c)) : Nat) : Int), .int .u64 ((loN (rs (cf done e + c)) : Nat) : Int)] := (hb 11).trans (hdep 6 (by decide))
    clear hb hdep hdap hold
    have hs1 := HS3.out.kp hbel
    obtain ⟨W2, hrun, hm2, ho2⟩ := hs1.store (c := c) HE.out HL.out
    have HM2 := Lib.hid hm2
    have HO2 := Lib.hid (((Oth.refl1 base g w3).grow hbel (by have := HBG.out; have := HSZ.out; omega)).trans1 (ho2 base HBG.out.1 (by have := HBG.out; have := HSZ.out; have := hbel.size; omega)))
    clear hs1 hbel hm2 ho2
    refine phl_store (R := fun W => MapS Mb g (done ++ [(e, c)]) W ∧ Oth base [g] none w3 W) W2 ?_ rfl ⟨HM2.out, HO2.out⟩
    go_simp
  intro x w1 hR
  simp only [putAll, dstOf, Act.put, List.map_cons, List.map_nil, List.setIfInBounds_toArray, List.set_cons_succ, List.set_cons_zero, Nat.reduceAdd]
  have HR := Lib.hid hR
  clear hR
  go_wp2_with fail
  go_end0
  have hbe := HBE.out
  subst hbe
  exact ⟨rfl, HR.out.1, ((Oth.refl1 base g w).grow HB3.out HBG.out.2).trans1 HR.out.2⟩
end Go.Proofs.YtnmidhlghhephaaGreatDoor
