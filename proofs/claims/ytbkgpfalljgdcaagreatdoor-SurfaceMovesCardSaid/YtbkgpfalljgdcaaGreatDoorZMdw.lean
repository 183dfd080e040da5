/- polymatrix.field.det: the walk. -/
import Derived.Test.YtbkgpfalljgdcaaGreatDoorZMdt
import Derived.Test.YtbkgpfalljgdcaaGreatDoorZEnd
import Derived.BigRegion
import Derived.BigQuiet
namespace Go.Proofs.YtbkgpfalljgdcaaGreatDoor
open Go.RowKit
set_option linter.unusedVariables false

section
variable {P : Program} {b : Act} {o : Oper} {w : World}
theorem mdw_call {R : World → Prop} {f : FuncId} {args : Array Value} (h : (execOp b.eval o).run P w = .ok (.enter f args) w) (hc : Calls P f args w fun e w' => ∃ v, e = .returned v ∧ R w') : o.wp P b w (fun a' w' => ∃ v, a' = b.put o.dst v ∧ R w') NoQ := by
  unfold Oper.wp; rw [h]
  simp only [Oper.upon]
  refine hc.mono ?_
  rintro e w' ⟨v, rfl, hv⟩
  exact ⟨v, rfl, hv⟩
end
/-- the state of det -/
structure DtS (p rt R n fb : Nat) (bs : List Nat) (w0 : World) (cur : List (List Nat)) (bs' : List Nat) (w : World) : Prop where
  mu : MU w R bs' n cur
  sub : ∀ b ∈ bs', b ∈ bs
  wr : Wr (R :: bs) w0 w
  fld : Arr w fb 117 [.int .u64 (p : Int), .int .u64 (rt : Int)]
  len : cur.length = n
  lt : Ltm p cur
  cl : Cl n cur
section
variable {p rt R n fb : Nat} {bs : List Nat} {w0 : World} {cur : List (List Nat)} {bs' : List Nat} {w w' : World}
theorem DtS.below (h : DtS p rt R n fb bs w0 cur bs' w) (hb : Below w.heap.size w w') : DtS p rt R n fb bs w0 cur bs' w' :=
  ⟨h.mu.below hb, h.sub, h.wr.trans (Wr.of_below hb), h.fld.below hb h.fld.lt, h.len, h.lt, h.cl⟩
theorem DtS.next (h : DtS p rt R n fb bs w0 cur bs' w) (nf : fb ∉ R :: bs) {cur' : List (List Nat)} {bs'' : List Nat} (h1 : MU w' R bs'' n cur') (h2 : ∀ b ∈ bs'', b ∈ bs') (h3 : Wr (R :: bs') w w') (hl : cur'.length = n) (hlt : Ltm p cur') (hcl : Cl n cur') : DtS p rt R n fb bs w0 cur' bs'' w' :=
  have hs : ∀ x ∈ R :: bs', x ∈ R :: bs := fun x hx => by
    rcases List.mem_cons.1 hx with e | e
    · rw [e]; simp
    · exact List.mem_cons_of_mem _ (h.sub x e)
  ⟨h1, fun b hb => h.sub b (h2 b hb), h.wr.trans (h3.mono hs), h.fld.wr h3 (fun q => nf (hs _ q)), hl, hlt, hcl⟩
end
theorem MU.setRowW {w w' : World} {R C : Nat} {bs : List Nat} {A : List (List Nat)} (h : MU w R bs C A) {i b : Nat} (hi : bs[i]? = some b) (o : Wr [b] w w') {r : List Nat} (hr : r.length = C) (ha : Arr w' b 115 (uc r)) : MU w' R bs C (A.set i r) := by
  have hiA := h.ilt hi
  refine ⟨by simp [h.len], h.inj, h.notR, h.outer.wr o (fun e => h.neR hi (List.mem_singleton.1 e).symm), fun k c hk => ?_, fun k hk => ?_⟩
  · rw [gr_set _ _ _ _ hiA]
    by_cases e : k = i
    · subst e
      rw [hi] at hk
      injection hk with hk
      subst hk
      rw [if_pos rfl]; exact ha
    · rw [if_neg e]
      exact (h.row k c hk).wr o (fun q => h.ne hk hi e (List.mem_singleton.1 q))
  · rw [gr_set _ _ _ _ hiA]
    by_cases e : k = i
    · rw [if_pos e]; exact hr
    · rw [if_neg e]; exact h.cols k (by simpa using hk)
set_option maxHeartbeats 4000000 in
set_option maxRecDepth 100000 in
theorem fdet_any (p rt R n : Nat) (bs : List Nat) (A : List (List Nat)) (w : World) (h : MU w R bs n A) (hl : A.length = n) (hn : n ≤ 1000) (hp0 : 2 < p) (hp : p < 9223372036854775808) (hA : Ltm p A) :
    Calls Tryz.prog 97 #[.agg #[.int .u64 (p : Int), .int .u64 (rt : Int)], .slice (some ⟨R, 0, none⟩) n n] w fun e w' => e = .returned (.int .u64 ((detG p n A 0 1 : Nat) : Int)) ∧ Wr (R :: bs) w w' := by
  obtain ⟨T, hT⟩ : ∃ T, T = detG p n A 0 1 := ⟨_, rfl⟩
  rw [← hT]
  have HT := Lib.hid hT
  clear hT
  have nf : w.heap.size ∉ R :: bs := fun q => by
    rcases List.mem_cons.1 q with e | e
    · have := h.outer.lt; omega
    · have := h.lt _ e; omega
  have HS0 := Lib.hid (show DtS p rt R n w.heap.size bs w A bs (w.alloc (.cells #[.int .u64 (p : Nat), .int .u64 (rt : Nat)] 117)) from
    ⟨h.alloc _, fun _ q => q, (Wr.refl _ _).alloc _, Arr.new w 117 [_, _], hl, hA, fun i hi => h.cols i hi⟩)
  have HNF := Lib.hid nf
  clear h hl hA nf
  go_enter Tryz.func97, Tryz.ntmps97
  go_upto_region 1 with fail
  generalize w.alloc (.cells #[.int .u64 (p : Nat), .int .u64 (rt : Nat)] 117) = w1 at HS0 ⊢
  generalize w.heap.size = fb at *
  go_wp2_with fail
  go_loopg [5, 6, 7, 8, 9, 10, 12, 15] n (fun gk s5 s6 s7 s8 s9 s10 s12 s15 wr => ∃ (cur : List (List Nat)) (k d : Nat) (bs' : List Nat), s5 = .int .u64 (d : Int) ∧ s15 = .int .i64 (k : Int) ∧ gk = n - k ∧ k ≤ n ∧ d < p ∧ Hid (detG p (n - k) cur k d = T) ∧ DtS p rt R n fb bs w cur bs' wr)
  case atStart => exact ⟨A, 0, 1, bs, rfl, rfl, rfl, Nat.zero_le _, by omega, Lib.hid HT.out.symm, HS0.out⟩
  case round =>
    clear HS0 HT
    obtain ⟨cur, k, d, bs', rfl, rfl, rfl, hkn, hd, HT, hS⟩ := hrel
    obtain ⟨wo, rfl⟩ : ∃ wo : World, wo = wr := ⟨_, rfl⟩
    by_cases hlt : k < n
    · have z1 : (k : Int) < (n : Int) := by omega
      have HS := Lib.hid hS
      clear hS
      go_upto_region 5 with fail
      have hS1 := HS.out.below ((Below.refl _ _).alloc (Nat.le_refl _) (.cells #[.int .i64 (k : Int)] 3))
      have hkb : Arr (wo.alloc (.cells #[.int .i64 (k : Int)] 3)) wo.heap.size 3 [.int .i64 (k : Int)] := Arr.new wo 3 [.int .i64 (k : Int)]
      have HNK := Lib.hid (show wo.heap.size ∉ R :: bs' ∧ wo.heap.size ≠ fb from ⟨fun q => by
        rcases List.mem_cons.1 q with e | e
        · have := HS.out.mu.outer.lt; omega
        · have := HS.out.mu.lt _ e; omega, by have := HS.out.fld.lt; omega⟩)
      generalize wo.alloc (.cells #[.int .i64 (k : Int)] 3) = w2 at *
      generalize wo.heap.size = kb at *
      clear HS
      have y0 := hkb.cell 0
      have HS1 := Lib.hid hS1
      have HKB := Lib.hid hkb
      clear hS1 hkb
      go_upto_block 2 with fail
      obtain ⟨x, hx⟩ : ∃ x, x = pvF cur k k (n - k) := ⟨_, rfl⟩
      have hxr := pvF_range (n - k) k (A := cur) (k := k)
      rw [← hx] at hxr
      have HX := Lib.hid hx
      clear hx
      go_cut [7, 15] from 15 to 102 (fun s7 s15 wx => s7 = .int .i64 (x : Int) ∧ s15 = .int .i64 (k : Int) ∧ Below w2.heap.size w2 wx)
      case first =>
        clear y0
        go_wp2_with fail
        go_loopg [7] (n - k) (fun gk s7 wr => ∃ i : Nat, k ≤ i ∧ i ≤ n ∧ gk = n - i ∧ s7 = .int .i64 (i : Int) ∧ Hid (pvF cur k i (n - i) = x) ∧ Below w2.heap.size w2 wr)
        case atStart => exact ⟨k, Nat.le_refl _, hkn, rfl, rfl, Lib.hid HX.out.symm, Below.refl _ _⟩
        case round =>
          clear HX
          obtain ⟨i, hki, hin, rfl, rfl, HP, hb⟩ := hrel
          have HB := Lib.hid hb
          clear hb
          by_cases hit : i < n
          · have z2 : (i : Int) < (n : Int) := by omega
            have hS2 := HS1.out.below HB.out
            have y0 := (HKB.out.below HB.out HKB.out.lt).cell 0
            obtain ⟨b, hbi, hbm⟩ := hS2.mu.bl (i := i) (by rw [hS2.len]; exact hit)
            have c1 := hS2.mu.cellR hbi
            have c2 := hS2.mu.cell hbi hlt
            clear hS2 hbi hbm
            by_cases h0 : ge cur i k = 0
            · have HP2 := Lib.hid (show pvF cur k (i + 1) (n - (i + 1)) = x by rw [← HP.out, show n - i = n - (i + 1) + 1 by omega, pvF_miss h0])
              have z3 : (((ge cur i k : Nat) : Int) == 0) = true := by rw [h0]; rfl
              clear h0 HP
              generalize ge cur i k = v at *
              go_upto_region 6 with fail
              go_quiet (fail)
              go_wp2_with fail
              go_roundg (n - (i + 1))
              case measure => omega
              case rel => exact ⟨i + 1, by omega, by omega, rfl, by go_num, HP2, bdrewN HB.out _⟩
            · have HXI := Lib.hid (show x = i by rw [← HP.out, show n - i = n - (i + 1) + 1 by omega, pvF_hit h0])
              have z3 : (((ge cur i k : Nat) : Int) == 0) = false := by rw [beq_eq_false_iff_ne]; omega
              clear h0 HP
              generalize ge cur i k = v at *
              go_upto_region 6 with fail
              go_quiet (fail)
              go_wp2_with fail
              go_meet
              exact ⟨by rw [HXI.out], rfl, bdrewN HB.out _⟩
          · have z2 : ¬ ((i : Int) < (n : Int)) := by omega
            have HXI := Lib.hid (show x = i by rw [← HP.out, show n - i = 0 by omega, pvF])
            clear HP
            go_upto_region 6 with fail
            go_quiet (fail)
            go_wp2_with fail
            go_meet
            exact ⟨by rw [HXI.out], rfl, bdrewN HB.out _⟩
      case rest =>
        obtain ⟨rfl, rfl, hb⟩ := hcut
        have hS2 := HS1.out.below hb
        have hk2 := HKB.out.below hb HKB.out.lt
        clear HS1 HKB hb y0
        have y0 := hk2.cell 0
        by_cases hxn : x < n
        · have z2 : ((x : Int) == (n : Int)) = false := by rw [beq_eq_false_iff_ne]; omega
          have HT2 := Lib.hid (show detG p (n - (k + 1)) (mdN p k (swR cur x k)) (k + 1) (mdD p d (ge (swR cur x k) k k) x k) = T by
            have h1 := HT.out
            rw [show n - k = n - (k + 1) + 1 by omega, detG_some (x := x) (by rw [hS2.len]; exact HX.out.symm) (by rw [hS2.len]; exact hxn)] at h1
            exact h1)
          have HPO := Lib.hid (show ge (swR cur x k) k k ≠ 0 by
            unfold ge
            rw [gr_swR (by rw [hS2.len]; exact hxn) (by rw [hS2.len]; exact hlt), if_pos rfl]
            have h1 := pvF_pos (n - k) k (A := cur) (k := k) (by rw [← HX.out]; omega)
            rw [← HX.out] at h1
            exact h1)
          have HA1 := Lib.hid (show (swR cur x k).length = n ∧ Ltm p (swR cur x k) ∧ Cl n (swR cur x k) from
            ⟨by rw [swR_length]; exact hS2.len, hS2.lt.swR (by rw [hS2.len]; exact hxn) (by rw [hS2.len]; exact hlt), hS2.cl.swR (by rw [hS2.len]; exact hxn) (by rw [hS2.len]; exact hlt)⟩)
          clear HT HX
          have HS2 := Lib.hid hS2
          have HK2 := Lib.hid hk2
          clear hS2 hk2
          go_upto_if 41 with fail
          go_cut [5, 15] from 15 to 102 (fun s5 s15 wx => s5 = .int .u64 (((if x = k then d else subF p 0 d : Nat)) : Int) ∧ s15 = .int .i64 (k : Int) ∧ Arr wx kb 3 [.int .i64 (k : Int)] ∧ ∃ bs1, (∀ b ∈ bs1, b ∈ bs') ∧ DtS p rt R n fb bs w (swR cur x k) bs1 wx)
          case first =>
            by_cases e : x = k
            · have z3 : ((x : Int) != (k : Int)) = false := by simp; omega
              have E := Lib.hid e
              clear e
              go_wp2_with fail
              go_meet
              exact ⟨by rw [if_pos E.out], rfl, HK2.out, bs', fun _ q => q, by rw [E.out, swR_self]; exact HS2.out⟩
            · have z3 : ((x : Int) != (k : Int)) = true := by simp; omega
              have z4 : (x : Int) < (n : Int) := by omega
              obtain ⟨bx, hbx, hbxm⟩ := HS2.out.mu.bl (i := x) (by rw [HS2.out.len]; exact hxn)
              obtain ⟨bk, hbk, hbkm⟩ := HS2.out.mu.bl (i := k) (by rw [HS2.out.len]; exact hlt)
              have c1 := HS2.out.mu.cellR hbx
              have c2 := HS2.out.mu.cellR hbk
              have c3 := HS2.out.mu.outer.frozen x
              have c4 := HS2.out.mu.outer.frozen k
              have HSW := Lib.hid (show MU (((wc.setCell ⟨R, x, none⟩ (.slice (some ⟨bk, 0, none⟩) n n)).setCell ⟨R, k, none⟩ (.slice (some ⟨bx, 0, none⟩) n n)).drew) R ((bs'.set x bk).set k bx) n (swR cur x k) ∧ (∀ q ∈ (bs'.set x bk).set k bx, q ∈ bs') ∧ Wr (R :: bs') wc (((wc.setCell ⟨R, x, none⟩ (.slice (some ⟨bk, 0, none⟩) n n)).setCell ⟨R, k, none⟩ (.slice (some ⟨bx, 0, none⟩) n n)).drew) from swap_all HS2.out.mu hbx hbk)
              have HSU := Lib.hid (fun W => fsub_any p rt 0 d W hp (by omega) hd)
              have HE := Lib.hid e
              have z6 : ¬ ((x : Int) = (k : Int)) := by omega
              have z7 : kb ≠ R := fun q => HNK.out.1 (by rw [q]; simp)
              have z8 : fb ≠ R := fun q => HNF.out (by rw [q]; simp)
              have z5 : ¬ x = k := e
              have c5 := HS2.out.fld.cell 0
              have c6 := HS2.out.fld.cell 1
              have HBX := Lib.hid hbx
              have HBK := Lib.hid hbk
              clear hbx hbk e hbxm hbkm
              go_upto_region 11 with fail
              go_region
              have hN := HS2.out.next HNF.out HSW.out.1 HSW.out.2.1 HSW.out.2.2 HA1.out.1 HA1.out.2.1 HA1.out.2.2
              have hK3 := HK2.out.wr HSW.out.2.2 (fun q => by
                rcases List.mem_cons.1 q with e | e
                · exact z7 e
                · exact HNK.out.1 (List.mem_cons_of_mem _ e))
              have HMM := Lib.hid HSW.out.2.1
              clear HSW HS2 HK2 y0  c1 c2 c3 c4 c5 c6
              generalize ((wc.setCell ⟨R, x, none⟩ (.slice (some ⟨bk, 0, none⟩) n n)).setCell ⟨R, k, none⟩ (.slice (some ⟨bx, 0, none⟩) n n)).drew = w4 at *
              have c5 := hN.fld.cell 0
              have c6 := hN.fld.cell 1
              have HN := Lib.hid hN
              have HK3 := Lib.hid hK3
              clear hN hK3
              go_wp2_with (go_at_call 117; refine (HSU.out _).mono ?_; rintro e w' ⟨rfl, hb⟩)
              go_meet
              exact ⟨by rw [if_neg HE.out], rfl, HK3.out.below hb HK3.out.lt, _, HMM.out, HN.out.below hb⟩
          case rest =>
            obtain ⟨rfl, rfl, hk3, bs1, hs1, hS3⟩ := hcut
            clear HS2 HK2 y0 z2
            obtain ⟨A1, hA1⟩ : ∃ A1, A1 = swR cur x k := ⟨_, rfl⟩
            rw [← hA1] at hS3 HA1 HPO HT2
            clear hA1
            have hd1 : (if x = k then d else subF p 0 d) < p := by
              split
              · exact hd
              · exact subF_lt (by omega) hd
            have HDD := Lib.hid (show mdD p d (ge A1 k k) x k = (if x = k then d else subF p 0 d) * ge A1 k k % p from rfl)
            rw [HDD.out] at HT2
            clear HDD
            generalize (if x = k then d else subF p 0 d) = d1 at *
            obtain ⟨bk, hbk, hbkm⟩ := hS3.mu.bl (i := k) (by rw [hS3.len]; exact hlt)
            have c1 := hS3.mu.cellR hbk
            have y0 := hk3.cell 0
            have hv1 := HA1.out.2.1 k k
            have HVV := Lib.hid (show ge A1 k k = ge A1 k k from rfl)
            have HS3 := Lib.hid hS3
            have HK3 := Lib.hid hk3
            have HBK := Lib.hid hbk
            have HS1 := Lib.hid hs1
            clear hS3 hk3 hbk hs1
            go_upto_region 14 with fail
            have hB4 := (Below.refl wc.heap.size wc).alloc (Nat.le_refl _) (.cells #[.slice (some ⟨bk, 0, none⟩) n n] 118)
            have hS4 := HS3.out.below hB4
            have hK4 := HK3.out.below hB4 HK3.out.lt
            have hP4 : Arr (wc.alloc (.cells #[.slice (some ⟨bk, 0, none⟩) n n] 118)) wc.heap.size 118 [.slice (some ⟨bk, 0, none⟩) n n] := Arr.new wc 118 [.slice (some ⟨bk, 0, none⟩) n n]
            have HNP := Lib.hid (show wc.heap.size ∉ bs1 from fun q => by have := HS3.out.mu.lt _ q; omega)
            clear hB4 HS3 HK3 y0 c1
            generalize wc.alloc (.cells #[.slice (some ⟨bk, 0, none⟩) n n] 118) = w4 at *
            generalize wc.heap.size = pv at *
            have HF := Lib.hid hS4.fld
            have HK := Lib.hid hK4
            have HPV := Lib.hid hP4
            have HS4 := Lib.hid hS4
            have HZ := Lib.hid z1
            have HC := Lib.hid (fun W (hb : Below w4.heap.size w4 W) => (HS4.out.below hb).mu.cell HBK.out hlt)
            obtain ⟨pvv, hpvv⟩ : ∃ v, v = ge A1 k k := ⟨_, rfl⟩
            rw [← hpvv] at HC hv1 HT2 HPO
            have HPE := Lib.hid hpvv
            clear hpvv hS4 hK4 hP4 HVV
            have HM := Lib.hid (fun W => fmul_any p rt d1 pvv W (by omega) (by omega) (by omega) (by omega))
            have HI := Lib.hid (fun W => finverse_any p rt pvv W hp0 hp (by omega))
            have hd2 : d1 * pvv % p < p := Nat.mod_lt _ (by omega)
            have hiv := fInv_lt (show 1 < p by omega) pvv
            have HIV := Lib.hid (show mdN p k A1 = updR A1 (k + 1) n (mdR p k (fInv p pvv) (gr A1 k)) by unfold mdN; rw [HA1.out.1, HPE.out])
            rw [HIV.out] at HT2
            clear HIV
            generalize d1 * pvv % p = d2 at *
            generalize fInv p pvv = iv at *
            refine wp_region_phy (fun a b => Below a.heap.size a b) (fun h k => h.trans (k.mono h.size)) ((Below.refl _ _).drew) (by kernel_rfl) (by kernel_rfl) (by kernel_rfl) (by kernel_rfl) (phiT (fun i => ([some (.agg #[.int .u64 (p : Int), .int .u64 (rt : Int)]), some (.int .u64 ((d1 : Nat) : Int)), some (.slice (some ⟨bk, 0, none⟩) n n), some (.int .i64 (k : Int)), some (.pointer (some ⟨bk, k, none⟩)), some (.int .u64 ((pvv : Nat) : Int)), some (.int .u64 ((d2 : Nat) : Int)), some (.int .u64 ((d2 : Nat) : Int))] : List (Option Value)).getD i none) (fun i v w => True)) (fun i v w w' h hb => ?_) ⟨?_, ?_, ?_, ?_, ?_, ?_, ?_, ?_, trivial⟩ ?_
            · unfold phiT at h ⊢
              split
              · next u hu => rw [hu] at h; exact h
              · next hu =>
                rw [hu] at h
                exact True.intro
            · intro x w1 bA hT hdep hold hb
              refine .inl ⟨trivial, ?_⟩
              have e2 : bA.tmps[2]?.getD undef = .pointer (some ⟨fb, 0, none⟩) := hb 2
              have cc0 := (HF.out.below hT HF.out.lt).cell 0
              have cc1 := (HF.out.below hT HF.out.lt).cell 1
              refine phx_run (.agg #[.int .u64 (p : Int), .int .u64 (rt : Int)]) ?_ (Below.refl _ _) rfl
              clear hb hdep hold
              go_simp
            · intro x w1 bA hT hdep hold hb
              refine .inl ⟨trivial, ?_⟩
              have e5 : bA.tmps[5]?.getD undef = .int .u64 ((d1 : Nat) : Int) := (hb 5).trans (hold 7 (by decide))
              refine phx_run (.int .u64 ((d1 : Nat) : Int)) ?_ (Below.refl _ _) rfl
              clear hb hdep hold
              go_simp
            · intro x w1 bA hT hdep hold hb
              refine .inl ⟨trivial, ?_⟩
              have e8 : bA.tmps[8]?.getD undef = .pointer (some ⟨pv, 0, none⟩) := hb 8
              have cc := (HPV.out.below hT HPV.out.lt).cell 0
              refine phx_run (.slice (some ⟨bk, 0, none⟩) n n) ?_ (Below.refl _ _) rfl
              clear hb hdep hold
              go_simp
            · intro x w1 bA hT hdep hold hb
              refine .inl ⟨trivial, ?_⟩
              have e6 : bA.tmps[6]?.getD undef = .pointer (some ⟨kb, 0, none⟩) := hb 6
              have cc := (HK.out.below hT HK.out.lt).cell 0
              refine phx_run (.int .i64 (k : Int)) ?_ (Below.refl _ _) rfl
              clear hb hdep hold
              go_simp
            · intro x w1 bA hT hdep hold hb
              refine .inl ⟨trivial, ?_⟩
              have e65 : bA.tmps[65]?.getD undef = .slice (some ⟨bk, 0, none⟩) n n := (hb 65).trans (hdep 2 (by decide))
              have e66 : bA.tmps[66]?.getD undef = .int .i64 (k : Int) := (hb 66).trans (hdep 3 (by decide))
              have zz := HZ.out
              refine phx_run (.pointer (some ⟨bk, k, none⟩)) ?_ (Below.refl _ _) rfl
              clear hb hdep hold
              go_simp
            · intro x w1 bA hT hdep hold hb
              refine .inl ⟨trivial, ?_⟩
              have e67 : bA.tmps[67]?.getD undef = .pointer (some ⟨bk, k, none⟩) := (hb 67).trans (hdep 4 (by decide))
              have cc := HC.out w1 hT
              refine phx_run (.int .u64 ((pvv : Nat) : Int)) ?_ (Below.refl _ _) rfl
              clear hb hdep hold
              go_simp
            · intro x w1 bA hT hdep hold hb
              refine .inl ⟨trivial, ?_⟩
              have e63 : bA.tmps[63]?.getD undef = .agg #[.int .u64 (p : Int), .int .u64 (rt : Int)] := (hb 63).trans (hdep 0 (by decide))
              have e64 : bA.tmps[64]?.getD undef = .int .u64 ((d1 : Nat) : Int) := (hb 64).trans (hdep 1 (by decide))
              have e68 : bA.tmps[68]?.getD undef = .int .u64 ((pvv : Nat) : Int) := (hb 68).trans (hdep 5 (by decide))
              refine phx_call ?_ ((HM.out w1).mono fun e w' h => ⟨_, h.1, h.2, rfl⟩)
              clear hb hdep hold
              go_simp
            · intro x w1 bA hT hdep hold hb
              refine .inl ⟨trivial, ?_⟩
              have e69 : bA.tmps[69]?.getD undef = .int .u64 ((d2 : Nat) : Int) := (hb 69).trans (hdep 6 (by decide))
              refine phx_run (.int .u64 ((d2 : Nat) : Int)) ?_ (Below.refl _ _) rfl
              clear hb hdep hold
              go_simp
            intro x w1 hT hall
            have x0e : x 0 = .agg #[.int .u64 (p : Int), .int .u64 (rt : Int)] := hall 0 (by decide)
            have x1e : x 1 = .int .u64 ((d1 : Nat) : Int) := hall 1 (by decide)
            have x2e : x 2 = .slice (some ⟨bk, 0, none⟩) n n := hall 2 (by decide)
            have x3e : x 3 = .int .i64 (k : Int) := hall 3 (by decide)
            have x4e : x 4 = .pointer (some ⟨bk, k, none⟩) := hall 4 (by decide)
            have x5e : x 5 = .int .u64 ((pvv : Nat) : Int) := hall 5 (by decide)
            have x6e : x 6 = .int .u64 ((d2 : Nat) : Int) := hall 6 (by decide)
            have x7e : x 7 = .int .u64 ((d2 : Nat) : Int) := hall 7 (by decide)
            simp only [putAll, dstOf, Act.put, List.map_cons, List.map_nil, List.setIfInBounds_toArray, List.set_cons_succ, List.set_cons_zero, Nat.reduceAdd, x0e, x1e, x2e, x3e, x4e, x5e, x6e, x7e]
            clear x0e x1e x2e x3e x4e x5e x6e x7e hall
            have hS5 := HS4.out.below hT
            have hk5 := HK.out.below hT HK.out.lt
            have hp5 := HPV.out.below hT HPV.out.lt
            obtain ⟨w5, rfl⟩ : ∃ w5 : World, w5 = w1 := ⟨_, rfl⟩
            clear HF HK HPV HS4 HC HM hT
            have HF := Lib.hid hS5.fld
            have HK := Lib.hid hk5
            have HPV := Lib.hid hp5
            have HS5 := Lib.hid hS5
            have HC := Lib.hid (fun W (hb : Below w5.heap.size w5 W) => (by have h1 := (HS5.out.below hb).mu.cell HBK.out hlt; rw [← HPE.out] at h1; exact h1 : W.cell? ⟨bk, k, none⟩ = some (.int .u64 (pvv : Nat))))
            clear hS5 hk5 hp5
            go_upto_region 15 with fail
            refine wp_region_phy (fun a b => Below a.heap.size a b) (fun h k => h.trans (k.mono h.size)) ((Below.refl _ _).drew) (by kernel_rfl) (by kernel_rfl) (by kernel_rfl) (by kernel_rfl) (phiT (fun i => ([some (.agg #[.int .u64 (p : Int), .int .u64 (rt : Int)]), some (.slice (some ⟨bk, 0, none⟩) n n), some (.int .i64 (k : Int)), some (.pointer (some ⟨bk, k, none⟩)), some (.int .u64 ((pvv : Nat) : Int)), some (.int .u64 ((iv : Nat) : Int)), some (.int .u64 ((iv : Nat) : Int))] : List (Option Value)).getD i none) (fun i v w => True)) (fun i v w w' h hb => ?_) ⟨?_, ?_, ?_, ?_, ?_, ?_, ?_, trivial⟩ ?_
            · unfold phiT at h ⊢
              split
              · next u hu => rw [hu] at h; exact h
              · next hu =>
                rw [hu] at h
                exact True.intro
            · intro x w1 bA hT hdep hold hb
              refine .inl ⟨trivial, ?_⟩
              have e2 : bA.tmps[2]?.getD undef = .pointer (some ⟨fb, 0, none⟩) := hb 2
              have cc0 := (HF.out.below hT HF.out.lt).cell 0
              have cc1 := (HF.out.below hT HF.out.lt).cell 1
              refine phx_run (.agg #[.int .u64 (p : Int), .int .u64 (rt : Int)]) ?_ (Below.refl _ _) rfl
              clear hb hdep hold
              go_simp
            · intro x w1 bA hT hdep hold hb
              refine .inl ⟨trivial, ?_⟩
              have e8 : bA.tmps[8]?.getD undef = .pointer (some ⟨pv, 0, none⟩) := hb 8
              have cc := (HPV.out.below hT HPV.out.lt).cell 0
              refine phx_run (.slice (some ⟨bk, 0, none⟩) n n) ?_ (Below.refl _ _) rfl
              clear hb hdep hold
              go_simp
            · intro x w1 bA hT hdep hold hb
              refine .inl ⟨trivial, ?_⟩
              have e6 : bA.tmps[6]?.getD undef = .pointer (some ⟨kb, 0, none⟩) := hb 6
              have cc := (HK.out.below hT HK.out.lt).cell 0
              refine phx_run (.int .i64 (k : Int)) ?_ (Below.refl _ _) rfl
              clear hb hdep hold
              go_simp
            · intro x w1 bA hT hdep hold hb
              refine .inl ⟨trivial, ?_⟩
              have e71 : bA.tmps[71]?.getD undef = .slice (some ⟨bk, 0, none⟩) n n := (hb 71).trans (hdep 1 (by decide))
              have e72 : bA.tmps[72]?.getD undef = .int .i64 (k : Int) := (hb 72).trans (hdep 2 (by decide))
              have zz := HZ.out
              refine phx_run (.pointer (some ⟨bk, k, none⟩)) ?_ (Below.refl _ _) rfl
              clear hb hdep hold
              go_simp
            · intro x w1 bA hT hdep hold hb
              refine .inl ⟨trivial, ?_⟩
              have e73 : bA.tmps[73]?.getD undef = .pointer (some ⟨bk, k, none⟩) := (hb 73).trans (hdep 3 (by decide))
              have cc := HC.out w1 hT
              refine phx_run (.int .u64 ((pvv : Nat) : Int)) ?_ (Below.refl _ _) rfl
              clear hb hdep hold
              go_simp
            · intro x w1 bA hT hdep hold hb
              refine .inl ⟨trivial, ?_⟩
              have e70 : bA.tmps[70]?.getD undef = .agg #[.int .u64 (p : Int), .int .u64 (rt : Int)] := (hb 70).trans (hdep 0 (by decide))
              have e74 : bA.tmps[74]?.getD undef = .int .u64 ((pvv : Nat) : Int) := (hb 74).trans (hdep 4 (by decide))
              refine phx_call ?_ ((HI.out w1).mono fun e w' h => ⟨_, h.1, h.2, rfl⟩)
              clear hb hdep hold
              go_simp
            · intro x w1 bA hT hdep hold hb
              refine .inl ⟨trivial, ?_⟩
              have e75 : bA.tmps[75]?.getD undef = .int .u64 ((iv : Nat) : Int) := (hb 75).trans (hdep 5 (by decide))
              refine phx_run (.int .u64 ((iv : Nat) : Int)) ?_ (Below.refl _ _) rfl
              clear hb hdep hold
              go_simp
            intro x w1 hT hall
            have x0e : x 0 = .agg #[.int .u64 (p : Int), .int .u64 (rt : Int)] := hall 0 (by decide)
            have x1e : x 1 = .slice (some ⟨bk, 0, none⟩) n n := hall 1 (by decide)
            have x2e : x 2 = .int .i64 (k : Int) := hall 2 (by decide)
            have x3e : x 3 = .pointer (some ⟨bk, k, none⟩) := hall 3 (by decide)
            have x4e : x 4 = .int .u64 ((pvv : Nat) : Int) := hall 4 (by decide)
            have x5e : x 5 = .int .u64 ((iv : Nat) : Int) := hall 5 (by decide)
            have x6e : x 6 = .int .u64 ((iv : Nat) : Int) := hall 6 (by decide)
            simp only [putAll, dstOf, Act.put, List.map_cons, List.map_nil, List.setIfInBounds_toArray, List.set_cons_succ, List.set_cons_zero, Nat.reduceAdd, x0e, x1e, x2e, x3e, x4e, x5e, x6e]
            clear x0e x1e x2e x3e x4e x5e x6e hall
            have hS6 := HS5.out.below hT
            have hk6 := HK.out.below hT HK.out.lt
            have hp6 := HPV.out.below hT HPV.out.lt
            obtain ⟨w6, rfl⟩ : ∃ w6 : World, w6 = w1 := ⟨_, rfl⟩
            clear HF HK HPV HS5 HC HI hT
            have y0 := hk6.cell 0
            have HK6 := Lib.hid hk6
            have HP6 := Lib.hid hp6
            have HS6 := Lib.hid hS6
            clear hk6 hp6 hS6 z1
            have z1 : (k : Int) < (n : Int) := HZ.out
            have HUP := Lib.hid (fun x => (show (updR A1 (k + 1) x (mdR p k iv (gr A1 k))).length = n ∧ Ltm p (updR A1 (k + 1) x (mdR p k iv (gr A1 k))) ∧ Cl n (updR A1 (k + 1) x (mdR p k iv (gr A1 k))) from
              ⟨by rw [updR_length]; exact HA1.out.1, HA1.out.2.1.updR HA1.out.2.2 (by omega) (fun r _ hr j => mdR_lt (by omega) hr j), HA1.out.2.2.updR (fun r hr => by rw [mdR_length]; exact hr)⟩))
            by_cases hlast : k + 1 = n
            · have z2 : ¬ ((k : Int) + 1 < (n : Int)) := by omega
              have HLA := Lib.hid hlast
              clear hlast
              have hz : n - (k + 1) = 0 := by have := HLA.out; omega
              have HNN := Lib.hid (show updR A1 (k + 1) n (mdR p k iv (gr A1 k)) = A1 by rw [HLA.out, updR_start])
              rw [HNN.out] at HT2
              go_wp2_with fail
              go_loopg [12, 82] 0 (fun gk s12 s82 wr => gk = 0 ∧ s82 = .int .i64 0 ∧ w6 = wr)
              case atStart => exact ⟨rfl, rfl, rfl⟩
              case round =>
                obtain ⟨rfl, rfl, rfl⟩ := hrel
                go_wp2_with fail
                go_roundg (n - (k + 1))
                case measure => omega
                case rel => exact ⟨A1, k + 1, d2, bs1, rfl, by go_num, rfl, by omega, hd2, HT2, HS6.out⟩
            · have z2 : (k : Int) + 1 < (n : Int) := by omega
              go_wp2_with fail
              generalize hLL : n - (k + 1) = L at *
              have HLN := Lib.hid (show k + 1 + L = n by omega)
              have hL2 : L ≤ 1000 := by omega
              clear hLL y0
              go_loopg [12, 82] L (fun gk s12 s82 wr => ∃ y : Nat, y ≤ L ∧ gk = L - y ∧ s82 = .int .i64 (y : Int) ∧ DtS p rt R n fb bs w (updR A1 (k + 1) (k + 1 + y) (mdR p k iv (gr A1 k))) bs1 wr ∧ Arr wr kb 3 [.int .i64 (k : Int)] ∧ Arr wr pv 118 [.slice (some ⟨bk, 0, none⟩) n n])
              case atStart => exact ⟨0, Nat.zero_le _, rfl, rfl, by rw [Nat.add_zero, updR_start]; exact HS6.out, HK6.out, HP6.out⟩
              case round =>
                clear HS6 HK6 HP6
                obtain ⟨y, hy, rfl, rfl, hS7, hk7, hp7⟩ := hrel
                obtain ⟨wp, rfl⟩ : ∃ wp : World, wp = wr := ⟨_, rfl⟩
                have y0 := hk7.cell 0
                by_cases hyt : y < L
                · have z3 : (y : Int) < (L : Int) := by omega
                  have hin : k + 1 + y < n := by have := HLN.out; omega
                  obtain ⟨bd, hbd, hbdm⟩ := hS7.mu.bl (i := k + 1 + y) (by rw [hS7.len]; exact hin)
                  have c1 := hS7.mu.cellR hbd
                  have c2 := hS7.mu.cell hbd hlt
                  unfold ge at c2
                  rw [gr_updR_at] at c2
                  have HST := Lib.hid (updR_step (A := A1) (lo := k + 1) (x := k + 1 + y) (f := mdR p k iv (gr A1 k)) (Nat.le_add_right _ _) (by rw [HA1.out.1]; exact hin))
                  have hvr : gn (gr A1 (k + 1 + y)) k < p := HA1.out.2.1 _ k
                  by_cases h0 : gn (gr A1 (k + 1 + y)) k = 0
                  · have HEQ := Lib.hid (show updR A1 (k + 1) (k + 1 + (y + 1)) (mdR p k iv (gr A1 k)) = updR A1 (k + 1) (k + 1 + y) (mdR p k iv (gr A1 k)) by
                      rw [← Nat.add_assoc, ← HST.out]
                      unfold mdR
                      rw [if_pos h0]
                      have := set_gr_self (updR A1 (k + 1) (k + 1 + y) (mdR p k iv (gr A1 k))) (k + 1 + y)
                      rw [gr_updR_at] at this
                      exact this)
                    rw [h0] at c2
                    have HS7 := Lib.hid hS7
                    have HK7 := Lib.hid hk7
                    have HP7 := Lib.hid hp7
                    clear hS7 hk7 hp7 hbd h0
                    go_wp2_with fail
                    go_roundg (L - (y + 1))
                    case measure => omega
                    case rel => exact ⟨y + 1, by omega, rfl, by go_num, by rw [HEQ.out]; exact HS7.out, HK7.out, HP7.out⟩
                  · have hcl := HA1.out.2.2 (k + 1 + y) (by rw [HA1.out.1]; exact hin)
                    have HER := Lib.hid (show mdR p k iv (gr A1 k) (gr A1 (k + 1 + y)) = cmbF p (gn (gr A1 (k + 1 + y)) k * iv % p) k n (gr A1 k) (gr A1 (k + 1 + y)) by
                      unfold mdR; rw [if_neg h0, hcl])
                    have HML := Lib.hid (fun W => fmul_any p rt (gn (gr A1 (k + 1 + y)) k) iv W (by omega) (by omega) (by omega) (by omega))
                    have hfr : gn (gr A1 (k + 1 + y)) k * iv % p < p := Nat.mod_lt _ (by omega)
                    have hne : bd ≠ bk := hS7.mu.ne hbd HBK.out (by omega)
                    have hdk : bd ≠ kb := fun e => HNK.out.1 (by rw [← e]; exact List.mem_cons_of_mem _ (HS1.out bd hbdm))
                    have hdp : bd ≠ pv := fun e => HNP.out (by rw [← e]; exact hbdm)
                    have hdf : bd ≠ fb := fun e => HNF.out (by rw [← e]; exact List.mem_cons_of_mem _ (hS7.sub bd hbdm))
                    have HBD := Lib.hid hbd
                    have HS7 := Lib.hid hS7
                    have HF := Lib.hid hS7.fld
                    have HK := Lib.hid hk7
                    have HPV := Lib.hid hp7
                    have HCD := Lib.hid (fun W (hb : Below wp.heap.size wp W) => (by
                      have h1 := (HS7.out.below hb).mu.cell HBD.out hlt
                      unfold ge at h1
                      rw [gr_updR_at] at h1
                      exact h1 : W.cell? ⟨bd, k, none⟩ = some (.int .u64 (gn (gr A1 (k + 1 + y)) k : Nat))))
                    have HCB := Lib.hid (fun W (hb : Below wp.heap.size wp W) => fcombine_any p rt bd bk kb pv fb n (gr A1 (k + 1 + y)) (gr A1 k) (gn (gr A1 (k + 1 + y)) k * iv % p) k W
                      (by have := (HS7.out.below hb).mu.row _ bd HBD.out; rw [gr_updR_at] at this; exact this) (by have := (HS7.out.below hb).mu.row k bk HBK.out; rw [gr_updR (by rw [HA1.out.1]; exact hlt), if_neg (by omega)] at this; exact this)
                      (HK.out.below hb HK.out.lt) (HPV.out.below hb HPV.out.lt) (HF.out.below hb HF.out.lt) hne hdk hdp hdf hcl (HA1.out.2.2 k (by rw [HA1.out.1]; exact hlt)) hn hlt hp0 hp hfr (fun j => HA1.out.2.1 _ j) (fun j => HA1.out.2.1 k j))
                    have HNX := Lib.hid (fun (W w9 : World) (hb : Below wp.heap.size wp w9) (ha : Arr W bd 115 (uc (cmbF p (gn (gr A1 (k + 1 + y)) k * iv % p) k n (gr A1 k) (gr A1 (k + 1 + y))))) (ho : Wr [bd] w9 W) => (show DtS p rt R n fb bs w (updR A1 (k + 1) (k + 1 + (y + 1)) (mdR p k iv (gr A1 k))) bs1 W ∧ Arr W kb 3 [.int .i64 (k : Int)] ∧ Arr W pv 118 [.slice (some ⟨bk, 0, none⟩) n n] from by
                      have hS8 := HS7.out.below hb
                      have hu := HUP.out (k + 1 + (y + 1))
                      refine ⟨hS8.next HNF.out ?_ (fun _ q => q) (ho.mono (fun q hq => List.mem_cons_of_mem _ (List.mem_singleton.1 hq ▸ hbdm))) hu.1 hu.2.1 hu.2.2, (HK.out.below hb HK.out.lt).wr ho (fun q => hdk (List.mem_singleton.1 q).symm), (HPV.out.below hb HPV.out.lt).wr ho (fun q => hdp (List.mem_singleton.1 q).symm)⟩
                      rw [← Nat.add_assoc, ← HST.out, HER.out]
                      exact hS8.mu.setRowW HBD.out ho (by rw [cmbF_length]; exact hcl) ha))
                    have z4 : (((gn (gr A1 (k + 1 + y)) k : Nat) : Int) != 0) = true := by simp; omega
                    have HC2 := Lib.hid c2
                    clear HST HER h0 hS7 hk7 hp7 hbd hcl
                    generalize gn (gr A1 (k + 1 + y)) k * iv % p = fr at *
                    generalize gn (gr A1 (k + 1 + y)) k = vr at *
                    generalize gr A1 (k + 1 + y) = rr at *
                    have c2 := HC2.out
                    go_upto_region 21 with fail
                    clear c1 c2 y0 z4 HC2
                    refine wp_region_phx (fun a b => Below a.heap.size a b) (fun h k => h.trans (k.mono h.size)) ((Below.refl _ _).drew) 9 (by kernel_rfl) (by kernel_rfl) (by kernel_rfl) (by kernel_rfl) rfl (by kernel_rfl) (phiT (fun i => ([some (.func (.func 118) #[] #[.pointer (some ⟨kb, 0, none⟩), .pointer (some ⟨pv, 0, none⟩), .pointer (some ⟨fb, 0, none⟩)]), some (.slice (some ⟨bd, 0, none⟩) n n), some (.agg #[.int .u64 (p : Int), .int .u64 (rt : Int)]), some (.slice (some ⟨bd, 0, none⟩) n n), some (.int .i64 (k : Int)), some (.pointer (some ⟨bd, k, none⟩)), some (.int .u64 ((vr : Nat) : Int)), some (.int .u64 ((iv : Nat) : Int)), some (.int .u64 ((fr : Nat) : Int)), some (undef)] : List (Option Value)).getD i none) (fun i v w => True)) (fun i v w w' h hb => ?_) (fun _ W => ∃ w9, Below wp.heap.size wp w9 ∧ Arr W bd 115 (uc (cmbF p fr k n (gr A1 k) rr)) ∧ Wr [bd] w9 W) ⟨?_, ?_, ?_, ?_, ?_, ?_, ?_, ?_, ?_, ?_, trivial⟩ ?_
                    · unfold phiT at h ⊢
                      split
                      · next u hu => rw [hu] at h; exact h
                      · next hu =>
                        rw [hu] at h
                        exact True.intro
                    · intro x w1 bA hT hdep hold hb
                      refine ⟨fun _ => ?_, fun h => absurd h (by decide)⟩
                      refine .inl ⟨trivial, ?_⟩
                      have e10 : bA.tmps[10]?.getD undef = .func (.func 118) #[] #[.pointer (some ⟨kb, 0, none⟩), .pointer (some ⟨pv, 0, none⟩), .pointer (some ⟨fb, 0, none⟩)] := hb 10
                      refine phx_run (.func (.func 118) #[] #[.pointer (some ⟨kb, 0, none⟩), .pointer (some ⟨pv, 0, none⟩), .pointer (some ⟨fb, 0, none⟩)]) ?_ (Below.refl _ _) rfl
                      clear hb hdep hold
                      go_simp
                    · intro x w1 bA hT hdep hold hb
                      refine ⟨fun _ => ?_, fun h => absurd h (by decide)⟩
                      refine .inl ⟨trivial, ?_⟩
                      have e12 : bA.tmps[12]?.getD undef = .slice (some ⟨bd, 0, none⟩) n n := hb 12
                      refine phx_run (.slice (some ⟨bd, 0, none⟩) n n) ?_ (Below.refl _ _) rfl
                      clear hb hdep hold
                      go_simp
                    · intro x w1 bA hT hdep hold hb
                      refine ⟨fun _ => ?_, fun h => absurd h (by decide)⟩
                      refine .inl ⟨trivial, ?_⟩
                      have e2 : bA.tmps[2]?.getD undef = .pointer (some ⟨fb, 0, none⟩) := hb 2
                      have cc0 := (HF.out.below hT HF.out.lt).cell 0
                      have cc1 := (HF.out.below hT HF.out.lt).cell 1
                      refine phx_run (.agg #[.int .u64 (p : Int), .int .u64 (rt : Int)]) ?_ (Below.refl _ _) rfl
                      clear hb hdep hold
                      go_simp
                    · intro x w1 bA hT hdep hold hb
                      refine ⟨fun _ => ?_, fun h => absurd h (by decide)⟩
                      refine .inl ⟨trivial, ?_⟩
                      have e12 : bA.tmps[12]?.getD undef = .slice (some ⟨bd, 0, none⟩) n n := hb 12
                      refine phx_run (.slice (some ⟨bd, 0, none⟩) n n) ?_ (Below.refl _ _) rfl
                      clear hb hdep hold
                      go_simp
                    · intro x w1 bA hT hdep hold hb
                      refine ⟨fun _ => ?_, fun h => absurd h (by decide)⟩
                      refine .inl ⟨trivial, ?_⟩
                      have e6 : bA.tmps[6]?.getD undef = .pointer (some ⟨kb, 0, none⟩) := hb 6
                      have cc := (HK.out.below hT HK.out.lt).cell 0
                      refine phx_run (.int .i64 (k : Int)) ?_ (Below.refl _ _) rfl
                      clear hb hdep hold
                      go_simp
                    · intro x w1 bA hT hdep hold hb
                      refine ⟨fun _ => ?_, fun h => absurd h (by decide)⟩
                      refine .inl ⟨trivial, ?_⟩
                      have e94 : bA.tmps[94]?.getD undef = .slice (some ⟨bd, 0, none⟩) n n := (hb 94).trans (hdep 3 (by decide))
                      have e95 : bA.tmps[95]?.getD undef = .int .i64 (k : Int) := (hb 95).trans (hdep 4 (by decide))
                      have zz := HZ.out
                      refine phx_run (.pointer (some ⟨bd, k, none⟩)) ?_ (Below.refl _ _) rfl
                      clear hb hdep hold
                      go_simp
                    · intro x w1 bA hT hdep hold hb
                      refine ⟨fun _ => ?_, fun h => absurd h (by decide)⟩
                      refine .inl ⟨trivial, ?_⟩
                      have e96 : bA.tmps[96]?.getD undef = .pointer (some ⟨bd, k, none⟩) := (hb 96).trans (hdep 5 (by decide))
                      have cc := HCD.out w1 hT
                      refine phx_run (.int .u64 ((vr : Nat) : Int)) ?_ (Below.refl _ _) rfl
                      clear hb hdep hold
                      go_simp
                    · intro x w1 bA hT hdep hold hb
                      refine ⟨fun _ => ?_, fun h => absurd h (by decide)⟩
                      refine .inl ⟨trivial, ?_⟩
                      have e9 : bA.tmps[9]?.getD undef = .int .u64 ((iv : Nat) : Int) := hb 9
                      refine phx_run (.int .u64 ((iv : Nat) : Int)) ?_ (Below.refl _ _) rfl
                      clear hb hdep hold
                      go_simp
                    · intro x w1 bA hT hdep hold hb
                      refine ⟨fun _ => ?_, fun h => absurd h (by decide)⟩
                      refine .inl ⟨trivial, ?_⟩
                      have e93 : bA.tmps[93]?.getD undef = .agg #[.int .u64 (p : Int), .int .u64 (rt : Int)] := (hb 93).trans (hdep 2 (by decide))
                      have e97 : bA.tmps[97]?.getD undef = .int .u64 ((vr : Nat) : Int) := (hb 97).trans (hdep 6 (by decide))
                      have e98 : bA.tmps[98]?.getD undef = .int .u64 ((iv : Nat) : Int) := (hb 98).trans (hdep 7 (by decide))
                      refine phx_call ?_ ((HML.out w1).mono fun e w' h => ⟨_, h.1, h.2, rfl⟩)
                      clear hb hdep hold
                      go_simp
                    · intro x w1 bA hT hdep hold hb
                      refine ⟨fun h => absurd h (by decide), fun _ hall => ?_⟩
                      refine ⟨trivial, ?_⟩
                      have e91 : bA.tmps[91]?.getD undef = .func (.func 118) #[] #[.pointer (some ⟨kb, 0, none⟩), .pointer (some ⟨pv, 0, none⟩), .pointer (some ⟨fb, 0, none⟩)] := (hb 91).trans (hdep 0 (by decide))
                      have e92 : bA.tmps[92]?.getD undef = .slice (some ⟨bd, 0, none⟩) n n := (hb 92).trans (hdep 1 (by decide))
                      have e99 : bA.tmps[99]?.getD undef = .int .u64 ((fr : Nat) : Int) := (hb 99).trans (hdep 8 (by decide))
                      clear hb hdep hold
                      have HTT := Lib.hid hT
                      clear hT
                      refine mdw_call (R := fun W => ∃ w9, Below wp.heap.size wp w9 ∧ Arr W bd 115 (uc (cmbF p fr k n (gr A1 k) rr)) ∧ Wr [bd] w9 W) ?_ ((HCB.out w1 HTT.out).mono fun e w' h => ⟨_, h.1, w1, HTT.out, h.2.1, h.2.2⟩)
                      go_simp
                    intro x' w8 hR
                    obtain ⟨w9, hw9, ha, ho⟩ := hR
                    have HN8 := Lib.hid (HNX.out w8 w9 hw9 ha ho)
                    simp only [putAll, dstOf, Act.put, List.map_cons, List.map_nil, List.setIfInBounds_toArray, List.set_cons_succ, List.set_cons_zero, Nat.reduceAdd]
                    clear hw9 ha ho HNX HCB HML HCD HF HK HPV HS7
                    go_wp2_with fail
                    go_roundg (L - (y + 1))
                    case measure => omega
                    case rel => exact ⟨y + 1, by omega, rfl, by go_num, HN8.out⟩
                · have z3 : ¬ ((y : Int) < (L : Int)) := by omega
                  have HXN := Lib.hid (show k + 1 + y = n by have := HLN.out; omega)
                  have HS7 := Lib.hid hS7
                  clear hS7 hk7 hp7
                  go_wp2_with fail
                  go_roundg (n - (k + 1))
                  case measure => omega
                  case rel => exact ⟨updR A1 (k + 1) n (mdR p k iv (gr A1 k)), k + 1, d2, bs1, rfl, by go_num, rfl, by omega, hd2, Lib.hid (by rw [show n - (k + 1) = L by have := HLN.out; omega]; exact HT2.out), by have e := HS7.out; rw [HXN.out] at e; exact e⟩
        · have z2 : ((x : Int) == (n : Int)) = true := by rw [beq_iff_eq]; omega
          have HE := Lib.hid (show T = 0 by
            have h1 := HT.out
            rw [show n - k = n - (k + 1) + 1 by omega, detG_none (by rw [hS2.len, ← HX.out]; exact hxn)] at h1
            exact h1.symm)
          have HW := Lib.hid hS2.wr
          clear HT HX hS2 hk2
          go_wp2_with fail
          go_ret
          exact ⟨by rw [HE.out]; rfl, HW.out⟩
    · have z1 : ¬ ((k : Int) < (n : Int)) := by omega
      have HE := Lib.hid (show d = T by have := HT.out; rw [show n - k = 0 by omega] at this; exact this)
      have HW := Lib.hid hS.wr
      clear hS HT
      go_wp2_with fail
      go_ret
      exact ⟨by rw [HE.out]; rfl, HW.out⟩
end Go.Proofs.YtbkgpfalljgdcaaGreatDoor
