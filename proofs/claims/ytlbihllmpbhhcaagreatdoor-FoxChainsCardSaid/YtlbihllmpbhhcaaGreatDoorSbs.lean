/- word.Substitute. -/
import Derived.Test.YtlbihllmpbhhcaaGreatDoorInw
import Derived.Test.YtlbihllmpbhhcaaGreatDoorFnc
import Derived.Test.YtlbihllmpbhhcaaGreatDoorGvl
namespace Go.Proofs.YtlbihllmpbhhcaaGreatDoor
open Go.RowKit Go.Shelf
set_option linter.unusedVariables false
attribute [local go_sem] Oper.semAt_some

/-- the mark that a range over a function leaves among the deferred calls -/
def mark (D : Nat) : Deferred := { target := .collected D, args := #[] }
/-- the blocks of the marks -/
def Mk (N : Nat) (Ds : List Nat) (W : World) : Prop := Ds.Nodup ∧ ∀ D ∈ Ds, N ≤ D ∧ W.heap[D]? = some (.deferred (some []))
theorem Mk.lt {N : Nat} {Ds : List Nat} {W : World} (h : Mk N Ds W) : ∀ D ∈ Ds, D < W.heap.size := fun D hD => (Array.getElem?_eq_some_iff.1 (h.2 D hD).2).1
theorem Mk.keep {N : Nat} {Ds : List Nat} {W W' : World} (h : Mk N Ds W) (k : ∀ D ∈ Ds, W'.heap[D]? = W.heap[D]?) : Mk N Ds W' := ⟨h.1, fun D hD => ⟨(h.2 D hD).1, (k D hD).trans (h.2 D hD).2⟩⟩
theorem leaves_marks {F : Fence} {n : Nat} {P : Program} {fn : Func} {tmps : Array Value} {R : Ending → World → Prop} {N : Nat} (J : World → Prop)
    (hJ : ∀ W D, N ≤ D → J W → W.heap[D]? = some (.deferred (some [])) → J (W.putObj D (.deferred none)))
    (hR : ∀ W, J W → LeavesInM F n P fn tmps R [] .returning W) : ∀ (Ds : List Nat) (W : World), Mk N Ds W → J W → LeavesInM F n P fn tmps R (Ds.map mark) .returning W
  | [], W, _, h => hR W h
  | D :: Ds, W, hm, h => by
    have hD := hm.2 D (List.mem_cons_self ..)
    have hn := List.nodup_cons.1 hm.1
    refine ⟨by simp, .inl ⟨D, _, rfl, run_takeDeferred hD.2, leaves_marks J hJ hR Ds _ ⟨hn.2, fun E hE => ?_⟩ (hJ W D hD.1 h hD.2)⟩⟩
    have hE2 := hm.2 E (List.mem_cons_of_mem _ hE)
    exact ⟨hE2.1, (World.putObj_heap_other (fun e => hn.1 (by first | exact e ▸ hE | exact e.symm ▸ hE))).trans hE2.2⟩
theorem sbs_one (im : List (List Int)) (x : Int) : sbs im [x] = if 0 < x then im[(x - 1).toNat]?.getD [] else invW (im[(-x - 1).toNat]?.getD []) := by
  rw [sbs, sbs, List.append_nil]
theorem pshL_append (s a b : List Int) : pshL s (a ++ b) = pshL (pshL s a) b := by unfold pshL; rw [List.foldl_append]
theorem sbs_step {im : List (List Int)} {ws : List Int} {q : Nat} (h : q < ws.length) : pshL [] (sbs im (ws.take (q + 1))) = pshL (pshL [] (sbs im (ws.take q))) (sbs im [ws[q]]) := by
  rw [take_snocZ h, sbs_append, pshL_append]
theorem sbs_take_len {im : List (List Int)} (ws : List Int) (q : Nat) : (sbs im (ws.take q)).length ≤ (sbs im ws).length := by
  have h : sbs im ws = sbs im (ws.take q) ++ sbs im (ws.drop q) := by rw [← sbs_append, List.take_append_drop]
  rw [h, List.length_append]; omega
theorem valid_one (x : Int) (m : Nat) (W : World) (hm : m ≤ 1000) (hx : x ≠ 0) (h1 : x ≤ m) (h2 : -(m : Int) ≤ x) :
    Calls Tryz.prog 17 #[.slice (some ⟨W.heap.size, 0, none⟩) 1 1, .int .i64 (m : Int)] (W.alloc (.cells #[.int .i64 x] 3)) fun e w' => e = .returned (.bool true) ∧ (W.alloc (.cells #[.int .i64 x] 3)) = w' := by
  refine (wvalid_any _ [x] m _ (Ints.of_arr (xs := [x]) (Arr.new W 3 [.int .i64 x])) (by omega) (by simp)).mono fun e w' h => ⟨?_, h.2⟩
  rw [h.1, vldW_iff.2 (fun y hy => by rw [List.mem_singleton.1 hy]; omega)]
theorem pushed_img (v vk : Value) (R ls : List Int) (w W : World) (ho : OwnI 3 w.heap.size W v R) (hb : Below w.heap.size w W) (hk : Ints w vk ls) (hR : R.length ≤ 100000) (hl : ls.length ≤ 10000) (hx : ∀ x ∈ ls, -1000000000 ≤ x ∧ x ≤ 1000000000) :
    Calls Tryz.prog 33 #[v, vk] W fun e w' => ∃ A c, e = .returned (.slice A (pshL R ls).length c) ∧ PSt w.heap.size v W (.slice A (pshL R ls).length c) (pshL R ls) w' := by
  refine (push_any w.heap.size v vk R ls W ho (fun W' hkk => hk.keepW fun b hb' => (hkk b (Nat.lt_of_lt_of_le hb' hb.size) (fun e => by have := ho.block b e; omega)).trans (hb.block b hb')) hb.size (by omega) hx).mono ?_
  rintro e w' ⟨v', rfl, hst⟩
  obtain ⟨A, c, rfl⟩ := hst.own.form
  exact ⟨A, c, rfl, hst⟩
theorem Mk.push {n₀ : Nat} {Ds : List Nat} {v v' : Value} {R R' : List Int} {W W' : World} (h : Mk n₀ Ds W) (ho : OwnI 3 n₀ W v R) (hst : PSt n₀ v W v' R' W') : Mk n₀ Ds W' :=
  h.keep fun D hD => (hst.keepO ho (h.2 D hD).2 (fun cur e => by cases e)).trans (h.2 D hD).2.symm
theorem Mk.set {n₀ B : Nat} {Ds : List Nat} {t : TypeId} {v : Value} {W : World} (h : Mk n₀ Ds W) (hb : Boxed W B t v) (u : Value) : Mk n₀ Ds (W.setCell ⟨B, 0, none⟩ u) :=
  h.keep fun D hD => Below.heap_setCell W ⟨B, 0, none⟩ u D (fun e => by
    have h1 := (h.2 D hD).2
    have h2 : W.heap[B]? = _ := hb
    rw [show D = B from e, h2] at h1
    cases h1)
theorem Mk.alloc {n₀ : Nat} {Ds : List Nat} {W : World} (h : Mk n₀ Ds W) (o : Obj) : Mk n₀ Ds (W.alloc o) := h.keep fun D hD => Below.heap_alloc W o D (h.lt D hD)
/-- what the loop has, and a push of it -/
structure SbS (n₀ B : Nat) (w : World) (Ds : List Nat) (R : List Int) (W : World) : Prop where
  box : Ibox n₀ B R W
  bel : Below n₀ w W
  mks : Mk n₀ Ds W
  le : n₀ ≤ B
theorem SbS.alloc {n₀ B : Nat} {w W : World} {Ds : List Nat} {R : List Int} (h : SbS n₀ B w Ds R W) (o : Obj) : SbS n₀ B w Ds R (W.alloc o) := by
  obtain ⟨v, hv, hr, _⟩ := h.box
  have ho : OwnI 3 n₀ W v R := hr
  exact ⟨⟨v, hv.alloc _, ho.alloc o, trivial⟩, h.bel.alloc (Nat.le_trans h.le (Nat.le_of_lt hv.lt)) o, h.mks.alloc o, h.le⟩
theorem pushed_oneW (base : Nat) (v : Value) (R : List Int) (y : Int) (hy : -1000000000 ≤ y ∧ y ≤ 1000000000) (W : World) (ho : OwnI 3 base W v R) (hb : base ≤ W.heap.size) (hl : R.length ≤ 200000) :
    Calls Tryz.prog 33 #[v, .slice (some ⟨W.heap.size, 0, none⟩) 1 1] (W.alloc (.cells #[.int .i64 y] 3)) fun e w' => ∃ A c, e = .returned (.slice A (psh R y).length c) ∧ PSt base v (W.alloc (.cells #[.int .i64 y] 3)) (.slice A (psh R y).length c) (psh R y) w' := by
  refine (push_any base v (.slice (some ⟨W.heap.size, 0, none⟩) 1 1) R [y] _ (ho.alloc _) (fun W' hk => ?_) (by simp; omega) (by simp; omega) (fun x hx => by simp at hx; subst hx; exact hy)).mono ?_
  · have h1 : Arr W' W.heap.size 3 [.int .i64 y] := (hk W.heap.size (by simp) (fun e => by
      rcases ho.2 with ⟨rfl, _⟩ | ⟨k, cap, cur, rfl, _, hh, _⟩
      · simp [Value.ownBlock] at e
      · simp [Value.ownBlock] at e
        subst e
        have := (Array.getElem?_eq_some_iff.1 hh).1
        omega)).trans (heap_alloc_new W _)
    exact Ints.of_arr (xs := [y]) h1
  · rintro e w' ⟨v', rfl, hst⟩
    obtain ⟨A, c, rfl⟩ := hst.own.form
    exact ⟨A, c, rfl, hst⟩
theorem SbS.drew {n₀ B : Nat} {w W : World} {Ds : List Nat} {R : List Int} (h : SbS n₀ B w Ds R W) : SbS n₀ B w Ds R W.drew := ⟨h.box, h.bel.drew, h.mks, h.le⟩
theorem SbS.pushed {n₀ B : Nat} {w W W' : World} {Ds : List Nat} {R R' : List Int} {v : Value} {A : Option Addr} {c k : Nat} (h : SbS n₀ B w Ds R W) (hv : Boxed W B 38 v) (ho : OwnI 3 n₀ W v R) (hk : k = R'.length) (hst : PSt n₀ v W (.slice A k c) R' W') : SbS n₀ B w Ds R' (W'.setCell ⟨B, 0, none⟩ (.slice A k c)) := by
  have hbx : Boxed W' B 38 v := hst.keepO ho hv (Boxed.neInt (by decide) _)
  refine ⟨⟨_, hbx.set _, OwnI.farZ hst.own (fun e => ?_) _, trivial⟩, (h.bel.trans hst.bel).setCell (p := ⟨B, 0, none⟩) h.le _, (h.mks.push ho hst).set hbx _, h.le⟩
  rcases hst.own.2 with ⟨h1, _⟩ | ⟨k, cp, cur, h1, _, hh, _⟩
  · rw [h1] at e; cases e
  · rw [h1] at e
    simp [Value.ownBlock] at e
    subst e
    have h9 := hbx
    unfold Boxed at h9
    rw [h9] at hh
    injection hh with hh
    exact Boxed.neInt (by decide) _ _ hh
set_option maxRecDepth 100000 in
set_option maxHeartbeats 8000000 in
theorem substitute_any (vw vi : Value) (ws : List Int) (ims : List (List Int)) (w : World) (hw : Ints w vw ws) (hi : Wds w vi ims) (hl : ws.length ≤ 1000) (him : ims.length ≤ 1000) (hx : ∀ x ∈ ws, x ≠ 0 ∧ x ≤ ims.length ∧ -(ims.length : Int) ≤ x)
    (hm : ∀ m ∈ ims, m.length ≤ 10000 ∧ ∀ x ∈ m, -1000000000 ≤ x ∧ x ≤ 1000000000) (hlen : (sbs ims ws).length ≤ 50000) :
    Calls Tryz.prog 15 #[vw, vi] w fun e w' => ∃ v, e = .returned (.tuple #[v, .int .i64 0]) ∧ OwnI 3 w.heap.size w' v (pshL [] (sbs ims ws)) ∧ Below w.heap.size w w' := by
  have HW := Lib.hid hw
  have HI := Lib.hid hi
  have HX := Lib.hid hx
  have HM := Lib.hid hm
  have HLEN := Lib.hid hlen
  obtain ⟨A, c, rfl, -, -⟩ := hw
  obtain ⟨A1, c1, rfl, -⟩ := hi
  obtain ⟨n, hn⟩ : ∃ n, n = ws.length := ⟨_, rfl⟩
  obtain ⟨m, hmm⟩ : ∃ m, m = ims.length := ⟨_, rfl⟩
  rw [← hn] at hl HW ⊢
  rw [← hmm] at him HX HI ⊢
  have HN := Lib.hid hn
  have HMM := Lib.hid hmm
  clear hx hm hlen hn hmm
  refine (callsIn_wide (n := 9)).1 ?_
  refine callsIn_of_wp_marks Tryz.func15 rfl trivial ?_ rfl
  simp only [Tryz.ntmps15, List.size_toArray, List.length_cons, List.length_nil, Nat.reduceAdd, Nat.reduceSub, Array.replicate_succ, Array.replicate_zero, List.push_toArray, List.append_toArray, List.nil_append, List.cons_append]
  refine wpIn_wide.2 ?_
  go_wp2_with fail
  go_loopg [15] n (fun gk s15 wr => ∃ k : Nat, k ≤ n ∧ gk = n - k ∧ s15 = .int .i64 (k : Int) ∧ Below w.heap.size w wr)
  case atStart => exact ⟨0, Nat.zero_le _, rfl, rfl, Below.refl _ _⟩
  case round =>
    obtain ⟨k1, hk, rfl, rfl, hb⟩ := hrel
    by_cases hlt : k1 < n
    · have z1 : (k1 : Int) < (n : Int) := by omega
      have hkl : k1 < ws.length := by have := HN.out; omega
      obtain ⟨b, o, hA, _, hcell⟩ := (HW.out.below hb).at_ hkl
      subst hA
      have hxk := HX.out ws[k1] (List.getElem_mem hkl)
      generalize ws[k1] = x at *
      have HV := Lib.hid (valid_one x m wr him hxk.1 hxk.2.1 hxk.2.2)
      have HB := Lib.hid (hb.alloc hb.size (.cells #[.int .i64 x] 3))
      clear hxk
      go_wp2_with (go_at_call 17; refine HV.out.mono ?_; rintro e w4 ⟨rfl, rfl⟩)
      go_roundg (n - (k1 + 1))
      case measure => omega
      case rel => exact ⟨k1 + 1, by omega, rfl, by go_num, HB.out⟩
    · have z1 : ¬ (k1 : Int) < (n : Int) := by omega
      have hW : ∀ W, W = (wr.alloc (.cells #[.slice none 0 0] 38)) → Ibox w.heap.size wr.heap.size [] W ∧ Below w.heap.size w W := by
        rintro W rfl
        exact ⟨⟨_, Boxed.new wr 38 (.slice none 0 0), OwnI.nil _ _ _, trivial⟩, hb.alloc hb.size _⟩
      have hBB := hb.size
      go_wp2_with fail
      generalize (wr.alloc (.cells #[.slice none 0 0] 38)) = w3 at hW ⊢
      obtain ⟨hbx, hb3⟩ := hW w3 rfl
      clear hW hb
      generalize wr.heap.size = B at *
      have HST := Lib.hid (show SbS w.heap.size B w [] (pshL [] (sbs ims (ws.take 0))) w3 from ⟨hbx, hb3, by simp [Mk], hBB⟩)
      clear hbx hb3
      refine wp_loop_ghost_k (fun k' a' w' => ∃ (ds : List Deferred) (u10 u28 u29 u30 u31 u32 u33 u34 u35 u36 u37 u38 u39 u40 u41 u42 u43 u44 u45 u46 u47 u55 : Value), (∃ q : Nat, q ≤ n ∧ k' = n - q ∧ u28 = .int .i64 (q : Int) ∧ Hid (∃ Ds : List Nat, Ds.map mark = ds ∧ SbS w.heap.size B w Ds (pshL [] (sbs ims (ws.take q))) w')) ∧ a' = ⟨[.slice A n c, .slice A1 m c1, undef, undef, u4, u5, undef, u7, .pointer (some ⟨B, 0, none⟩), undef, u10, undef, undef, .slice A n c, .int .i64 (n : Int), .int .i64 (k1 : Int), .bool false, u17, u18, u19, u20, u21, u22, u23, u24, u25, .slice A n c, .int .i64 (n : Int), u28, u29, u30, u31, u32, u33, u34, u35, u36, u37, u38, u39, u40, u41, u42, u43, u44, u45, u46, u47, undef, undef, undef, undef, undef, undef, undef, u55, undef].toArray, ds⟩) n ?_ ?_
      · exact ⟨[], _, _, _, _, _, _, _, _, _, _, _, _, _, _, _, _, _, _, _, _, _, _, ⟨0, Nat.zero_le _, rfl, rfl, Lib.hid ⟨[], rfl, HST.out⟩⟩, rfl⟩
      · clear HST
        rintro gk _ wr2 ⟨ds, u10, u28, u29, u30, u31, u32, u33, u34, u35, u36, u37, u38, u39, u40, u41, u42, u43, u44, u45, u46, u47, u55, ⟨q, hq, rfl, rfl, HR0⟩, rfl⟩
        try dsimp only
        intro _ _ _ _
        obtain ⟨Ds, hds, hsb⟩ := HR0.out
        have HDS := Lib.hid hds
        have HR := Lib.hid hsb
        clear HR0 hds hsb
        by_cases hlt : q < n
        · have z1 : (q : Int) < (n : Int) := by omega
          have hkl : q < ws.length := by have := HN.out; omega
          obtain ⟨b, o, hA, _, hcell⟩ := (HW.out.below HR.out.bel).at_ hkl
          subst hA
          have hxk := HX.out ws[q] (List.getElem_mem hkl)
          have HS1 := Lib.hid (show pshL [] (sbs ims (ws.take (q + 1))) = pshL (pshL [] (sbs ims (ws.take q))) (sbs ims [ws[q]]) from sbs_step hkl)
          have hRl : (pshL [] (sbs ims (ws.take q))).length ≤ 100000 := by
            have h1 := pshL_len (sbs ims (ws.take q)) []
            have h2 := sbs_take_len (im := ims) ws q
            have h3 := HLEN.out
            simp at h1
            omega
          generalize ws[q] = x at *
          generalize pshL [] (sbs ims (ws.take q)) = R at *
          obtain ⟨v, hv, hr, -⟩ := HR.out.box
          have ho : OwnI 3 w.heap.size wr2 v R := hr
          have hy0 := hv.cell
          have hf0 := hv.frozen
          have HO := Lib.hid ho
          have HV := Lib.hid hv
          clear hr ho hv
          by_cases hpos : 0 < x
          · obtain ⟨j, hj⟩ : ∃ j : Nat, x - 1 = (j : Int) := ⟨(x - 1).toNat, by omega⟩
            have z3 : (j : Int) < (m : Int) := by omega
            have hjm : j < ims.length := by have := HMM.out; omega
            obtain ⟨b2, o2, vk, hA1, hc2, hik⟩ := HI.out.at_ hjm
            subst hA1
            have HC2 := Lib.hid hc2
            have hc3 := (HR.out.bel.cell (p := ⟨b2, o2 + j, none⟩) (block_lt_of_cell hc2)).trans hc2
            have hmj := HM.out _ (List.getElem_mem hjm)
            have HP := Lib.hid (fun W (hr : SbS w.heap.size B w Ds R W) (ho : OwnI 3 w.heap.size W v R) => pushed_img v vk R ims[j] w W ho hr.bel hik hRl hmj.1 hmj.2)
            have HS2 := Lib.hid (show sbs ims [x] = ims[j] from by
              rw [sbs_one, if_pos (by omega), show (x - 1).toNat = j by omega, List.getElem?_eq_getElem hjm]; rfl)
            clear hc2 hik hmj hxk
            have hjw : IntKind.i64.wrap (j : Int) = (j : Int) := IntWalk.i64_in _ (by omega)
            go_wp2_with fail
            go_still_tail 6, (by kernel_rfl)
            change wpList _ _ _ _ _ wr2.drew
            have HR3 := Lib.hid HR.out.drew
            have HO3 := Lib.hid HO.out.drew
            have HV3 := Lib.hid (show Boxed wr2.drew B 38 v from HV.out)
            clear hy0 hf0 hc3 hcell HO HV HR
            generalize wr2.drew = wr3 at *
            have HP3 := Lib.hid (HP.out wr3 HR3.out HO3.out)
            clear HP
            go_wp2_with (go_at_call 33; refine HP3.out.mono ?_; rintro e w4 ⟨A4, c4, rfl, hst⟩; have hbx : Boxed w4 B 38 v := hst.keepO HO3.out HV3.out (Boxed.neInt (by decide) _); have hy4 := hbx.cell; have hf4 := hbx.frozen)
            have HF := Lib.hid (HR3.out.pushed HV3.out HO3.out rfl hst)
            clear hst hbx hy4 hf4
            go_wp2_with fail
            go_roundg (n - (q + 1))
            case measure => omega
            case rel => exact ⟨q + 1, by omega, rfl, by go_num, Lib.hid ⟨Ds, HDS.out, by rw [HS1.out, HS2.out]; exact HF.out⟩⟩
          · obtain ⟨j, hj⟩ : ∃ j : Nat, -x - 1 = (j : Int) := ⟨(-x - 1).toNat, by omega⟩
            have z3 : (j : Int) < (m : Int) := by omega
            have hjm : j < ims.length := by have := HMM.out; omega
            obtain ⟨b2, o2, vk, hA1, hc2, hik⟩ := HI.out.at_ hjm
            subst hA1
            have hc3 := (HR.out.bel.cell (p := ⟨b2, o2 + j, none⟩) (block_lt_of_cell hc2)).trans hc2
            have hmj := HM.out _ (List.getElem_mem hjm)
            have HS2 := Lib.hid (show sbs ims [x] = invW ims[j] from by
              rw [sbs_one, if_neg (by omega), show (-x - 1).toNat = j by omega, List.getElem?_eq_getElem hjm]; rfl)
            have HIK := Lib.hid hik
            obtain ⟨A5, c5, rfl, -, -⟩ := hik
            generalize ims[j] = zs at *
            obtain ⟨ln, hln⟩ : ∃ k, k = zs.length := ⟨_, rfl⟩
            rw [← hln] at HIK hmj hc3
            have HLN := Lib.hid hln
            have HBW := Lib.hid ((callsIn_wide (n := 5)).1 (bwd_in Fence.wide 5 trivial rfl A5 ln c5 wr2))
            have HMJ := Lib.hid hmj
            clear hc2 hmj hxk hln
            go_wp2_with (go_at_call 34; refine HBW.out.mono ?_; rintro e w4 ⟨rfl, rfl⟩)
            have hW : ∀ W, W = (wr2.alloc (.cells #[.slice A5 ln c5] 38)) → SbS w.heap.size B w Ds R W ∧ Boxed W wr2.heap.size 38 (.slice A5 ln c5) ∧ W.heap.size = wr2.heap.size + 1 ∧ B < wr2.heap.size ∧ ∀ D ∈ Ds, D < wr2.heap.size := by
              rintro W rfl
              exact ⟨HR.out.alloc _, Boxed.new wr2 38 (.slice A5 ln c5), by simp, HV.out.lt, HR.out.mks.lt⟩
            have HBS := Lib.hid HR.out.bel.size
            clear HBW HR HO HV hy0 hf0 hc3 hcell
            generalize (wr2.alloc (.cells #[.slice A5 ln c5] 38)) = w5 at hW ⊢
            obtain ⟨hs5, hbs5, hsz5, hB5, hD5⟩ := hW w5 rfl
            clear hW
            generalize wr2.heap.size = Bs at *
            have HS5 := Lib.hid hs5
            have HBB := Lib.hid hbs5
            have HSZ := Lib.hid hsz5
            have HB5 := Lib.hid hB5
            have HD5 := Lib.hid hD5
            clear hs5 hbs5 hsz5 hB5 hD5 hBB
            refine (wpIn_wide (n := 9)).1 ?_
            refine wpIn_rangeFunc_ownG rfl (by decide) (gf := 51) (lb := #[.pointer (some ⟨Bs, 0, none⟩)]) rfl trivial (enters_of Tryz.func51 (by kernel_rfl) rfl)
              (bwd_stops Fence.wide (9 - 1) trivial rfl (by decide) Bs w.heap.size (.slice A5 ln c5) zs HMJ.out.2 (by have := HMJ.out.1; have := HLN.out; omega) w5 (by have := HSZ.out; omega) HS5.out.bel.size HBB.out.cell (by rw [HLN.out] at HIK ⊢; exact HIK.out.below HS5.out.bel) (fun W hb => by rw [HLN.out] at HIK ⊢; exact HIK.out.below (HS5.out.bel.trans hb)) (fun b o n' c' e hz => by
                rw [HLN.out] at HIK e
                obtain ⟨b', o', ⟨c'', e'⟩, hlt, _⟩ := ints_atZ HIK.out hz
                rw [e'] at e
                injection e with e1 _ _
                injection e1 with e1
                injection e1 with e1 _
                subst e1
                exact hlt)) (fun h k => h.trans k) (fun W l o o' hl ho hc hw => ⟨belowK_b (w := w5) HS5.out.bel.size W l o o' hl ho hc hw, World.putObj_heap_other (by have := HSZ.out; omega)⟩) (Below.refl _ _) (fun _ => rfl)
              (fun pre W => (Ibox w.heap.size B (pshL R (negS pre)) W ∧ KB w.heap.size Bs w5 W) ∧ Mk w.heap.size Ds W)
              (fun _ _ _ => False)
              (OwnFrom.and (Ibox.from w.heap.size B Bs w5.heap.size w5 _ HS5.out.bel.size HS5.out.bel.size (by have := HSZ.out; have := HB5.out; omega) (by have := HSZ.out; omega)) (fun s W W' row hs hg hr => hs.keep fun D hD => hg.block D (hs.lt D hD) (fun e => by have h1 := (hr D e.symm).1; have h2 := HD5.out D hD; have h3 := HSZ.out; omega)))
              (fun _ _ _ _ _ hs _ _ => hs)
              ⟨⟨HS5.out.box, KB.refl _ _ _⟩, HS5.out.mks⟩
              (fun x' => { tmps := (.slice (some ⟨b, o, none⟩) n c :: .slice (some ⟨b2, o2, none⟩) m c1 :: undef :: undef :: u4 :: u5 :: undef :: u7 :: .pointer (some ⟨B, 0, none⟩) :: undef :: .int .i64 x :: undef :: .int .i64 x'.2.1 :: .slice (some ⟨b, o, none⟩) n c :: .int .i64 (n : Int) :: .int .i64 (k1 : Int) :: .bool false :: u17 :: u18 :: u19 :: u20 :: u21 :: u22 :: u23 :: u24 :: u25 :: .slice (some ⟨b, o, none⟩) n c :: .int .i64 (n : Int) :: .int .i64 (q : Int) :: .bool true :: .pointer (some ⟨b, o + q, none⟩) :: .int .i64 x :: .int .i64 x :: .bool false :: u34 :: u35 :: u36 :: u37 :: u38 :: u39 :: u40 :: .slice (some ⟨b2, o2, none⟩) m c1 :: .int .i64 x :: .int .i64 (-x) :: .int .i64 (j : Int) :: .pointer (some ⟨b2, o2 + j, none⟩) :: .slice A5 ln c5 :: .func (.func 51) #[] #[.pointer (some ⟨Bs, 0, none⟩)] :: .int .i64 x'.1 :: .int .i64 x'.2.1 :: undef :: undef :: undef :: undef :: undef :: u55 :: undef :: []).toArray, defers := [] }) ?assign ?body ?done ?stop
            case assign =>
              intro l x' W K hK
              gi_wp2
              exact hK
            case body =>
              rintro l pre ⟨x1, y, hy⟩ W ⟨⟨⟨v2, hv, hr, _⟩, hkb⟩, hmk⟩ hlp
              have hy0 := hv.cell
              have hown' : OwnI 3 w.heap.size W v2 (pshL R (negS pre)) := hr
              have hsz : w5.heap.size ≤ W.heap.size := hkb.1.size
              have hRl2 : (pshL R (negS pre)).length ≤ 200000 := by
                have h2 := pshL_len (negS pre) R
                have h3 : (negS pre).length = pre.length := by unfold negS; simp
                have h4 := HMJ.out.1
                have h5 := HLN.out
                omega
              have HP := Lib.hid (pushed_oneW w.heap.size v2 (pshL R (negS pre)) (-y) (by omega) W hown' (Nat.le_trans HS5.out.bel.size hsz) hRl2)
              have HPS := Lib.hid (show pshL R (negS (pre ++ [(x1, ⟨y, hy⟩)])) = psh (pshL R (negS pre)) (-y) from by rw [negS_snoc, pshL_snoc])
              have HO := Lib.hid hown'
              have HV := Lib.hid hv
              have HK := Lib.hid hkb
              have HMK := Lib.hid hmk
              have HSZ2 := Lib.hid hsz
              clear hr hown' hkb hlp hmk hsz
              have hn2 : 1 ≤ 9 - 1 - 1 := by omega
              dsimp only
              gi_wp2_with (refine ⟨trivial, ?_⟩; gi_at_call 33; refine (CallsIn.inRound l (callsIn_wide.2 HP.out)).mono ?_; rintro e w4 ⟨A4, c4, rfl, hst⟩; have hbx : Boxed w4 B 38 v2 := hst.keepO (HO.out.alloc _) (HV.out.alloc _) (Boxed.neInt (by decide) _); have hy4 := hbx.cell; have hf4 := hbx.frozen)
              have s1 : SbS w.heap.size B w Ds (pshL R (negS pre)) (W.alloc (.cells #[.int .i64 (-y)] 3)) := SbS.alloc ⟨⟨v2, HV.out, HO.out, trivial⟩, HS5.out.bel.trans HK.out.1, HMK.out, HS5.out.le⟩ _
              have s2 := s1.pushed (HV.out.alloc _) (HO.out.alloc _) rfl hst
              have hbw : Below w.heap.size W w4 := ((Below.refl _ W).alloc (Nat.le_trans HS5.out.bel.size HSZ2.out) _).trans hst.bel
              have hkf : KeepsFrom w5.heap.size W w4 := ⟨hbw.size, fun k o hk ho hc => hst.keepO (HO.out.alloc _) ((Below.heap_alloc _ _ _ (Array.getElem?_eq_some_iff.1 ho).1).trans ho) (fun cur e => by subst e; cases hc)⟩
              have hbb : w4.heap[Bs]? = W.heap[Bs]? := by
                have h0 : W.heap[Bs]? = some (.cells #[.slice A5 ln c5] 38 (0, 0)) := HK.out.2.trans HBB.out
                rw [h0]
                exact hst.keepO (HO.out.alloc _) ((Below.heap_alloc _ _ _ (by have := HSZ.out; have := HSZ2.out; omega)).trans h0) (Boxed.neInt (by decide) _)
              have hkb2 : KB w.heap.size Bs W (w4.setCell ⟨B, 0, none⟩ (.slice A4 (psh (pshL R (negS pre)) (-y)).length c4)) := ⟨hbw.setCell (p := ⟨B, 0, none⟩) HS5.out.le _, (Below.heap_setCell _ _ _ _ (show Bs ≠ B by have := HB5.out; omega)).trans hbb⟩
              exact ⟨hkf.trans ((KeepsOthers.setCell _ _ _).from _), hkb2, ⟨by rw [HPS.out]; exact s2.box, HK.out.trans hkb2⟩, s2.mks⟩
            case done =>
              rintro D ys W hD hys ⟨⟨hib, hkb⟩, hmk⟩ hK
              have HF := Lib.hid (show SbS w.heap.size B w (D :: Ds) (pshL R (invW zs)) W from ⟨by rw [← negS_all hys]; exact hib, HS5.out.bel.trans hkb.1, ⟨List.nodup_cons.2 ⟨fun e => by have h2 := HD5.out D e; have h3 := HSZ.out; omega, hmk.1⟩, fun E hE => by
                rcases List.mem_cons.1 hE with rfl | hE
                · exact ⟨Nat.le_trans HS5.out.bel.size hD, hK⟩
                · exact hmk.2 E hE⟩, HS5.out.le⟩)
              clear hib hkb hmk hK hys
              have HDS2 := Lib.hid (show (D :: Ds).map mark = { target := .collected D, args := #[] } :: ds from by rw [List.map_cons, HDS.out]; rfl)
              go_wp2_with fail
              go_roundg (n - (q + 1))
              case measure => omega
              case rel => exact ⟨q + 1, by omega, rfl, by go_num, Lib.hid ⟨D :: Ds, HDS2.out, by rw [HS1.out, HS2.out]; exact HF.out⟩⟩
            case stop =>
              rintro D c pre W _ _ h _
              exact h.elim
        · have z1 : ¬ (q : Int) < (n : Int) := by omega
          have HS1 := Lib.hid (show pshL [] (sbs ims (ws.take q)) = pshL [] (sbs ims ws) from by rw [List.take_of_length_le (by have := HN.out; omega)])
          obtain ⟨v, hv, hr, -⟩ := HR.out.box
          have hy0 := hv.cell
          have hf0 := hv.frozen
          have HO := Lib.hid (show OwnI 3 w.heap.size wr2 v (pshL [] (sbs ims (ws.take q))) from hr)
          clear hr hv
          go_wp2_with fail
          have hds := HDS.out
          subst hds
          refine leaves_marks (N := w.heap.size) (fun W => OwnI 3 w.heap.size W v (pshL [] (sbs ims (ws.take q))) ∧ Below w.heap.size w W) ?_ ?_ Ds wr2 HR.out.mks ⟨HO.out, HR.out.bel⟩
          · rintro W D hD ⟨h1, h2⟩ hK
            exact ⟨ownsRow_putObj h1 (.deferred none) hK rfl, h2.trans (belowK_b (w := w) (Nat.le_refl _) W D _ _ hD hK rfl rfl)⟩
          · rintro W ⟨h1, h2⟩
            exact ⟨_, results_tmp2 rfl _ _ _, v, rfl, by rw [← HS1.out]; exact h1, h2⟩
end Go.Proofs.YtlbihllmpbhhcaaGreatDoor
