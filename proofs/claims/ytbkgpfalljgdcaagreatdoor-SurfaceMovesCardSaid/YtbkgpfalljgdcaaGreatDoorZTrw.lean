/- polymatrix.field.transform: the walk. -/
import Derived.Test.YtbkgpfalljgdcaaGreatDoorZEnd
import Derived.Test.YtbkgpfalljgdcaaGreatDoorZMdw
namespace Go.Proofs.YtbkgpfalljgdcaaGreatDoor
open Go.RowKit
set_option linter.unusedVariables false

section
variable {P : Program} {w : World} {T : World → World → Prop} {Φ : Nat → Value → World → Prop} {i : Nat} {b : Act} {o : Oper}
theorem phx_skip (W : World) (h : (execOp b.eval o).run P w = .ok .skip W) (ho : o.dst = none) (hT : T w W) (hv : Φ i undef W) : o.wp P b w (PhxPost T w Φ i b o.dst) NoQ := by
  unfold Oper.wp; rw [h]; exact ⟨undef, by rw [ho], hT, hv⟩
end
theorem info_u64 : (Tryz.prog.info? 115).map (fun i => (i.zero, i.size, i.bytes)) = some (some (.int .u64 0), 1, 8) := by kernel_rfl
theorem mk_u64 (n : Nat) (hn : n ≤ 1000000) (W : World) : (Instr.makeSlice 118 (.int .i64 (n : Int)) (.int .i64 (n : Int))).run Tryz.prog W = .ok (.slice (some ⟨W.heap.size, 0, none⟩) n n) (W.alloc (.cells (rowOf (List.replicate n (.int .u64 0))) 115)) := by
  obtain ⟨i, hi, hz, hs, hb⟩ : ∃ i, Tryz.prog.info? 115 = some i ∧ i.zero = some (.int .u64 0) ∧ i.size = 1 ∧ i.bytes = 8 := by
    have h := info_u64
    cases hi : Tryz.prog.info? 115 with
    | none => rw [hi] at h; cases h
    | some i =>
      rw [hi] at h
      simp only [Option.map_some, Option.some.injEq, Prod.mk.injEq] at h
      exact ⟨i, rfl, h.1, h.2.1, h.2.2⟩
  exact run_make_one (P := Tryz.prog) 118 115 i (.int .u64 0) Tryz.underlying118 hi hz hs rfl (by omega) n (by omega) W
theorem two_made (w : World) (h : Nat) : let X := ((w.alloc (.cells (rowOf (List.replicate h (.int .u64 0))) 115)).alloc (.cells (rowOf (List.replicate h (.int .u64 0))) 115)).drew; Arr X w.heap.size 115 (uc (List.replicate h 0)) ∧ Arr X (w.heap.size + 1) 115 (uc (List.replicate h 0)) ∧ Below w.heap.size w X := by
  intro X
  have hu : uc (List.replicate h 0) = List.replicate h (.int .u64 0) := by simp [uc]
  rw [hu]
  have h1 := Arr.new w 115 (List.replicate h (.int .u64 0))
  have h2 := Arr.new (w.alloc (.cells (rowOf (List.replicate h (.int .u64 0))) 115)) 115 (List.replicate h (.int .u64 0))
  have e : (w.alloc (.cells (rowOf (List.replicate h (.int .u64 0))) 115)).heap.size = w.heap.size + 1 := by simp
  rw [e] at h2
  exact ⟨h1.alloc _, h2, (((Below.refl _ _).alloc (Nat.le_refl _) _).alloc (by rw [e]; omega) _).drew⟩
theorem two_set {w1 w : World} {g1 g2 h i : Nat} {fE fO : Nat → Nat} (hb : Below w1.heap.size w1 w) (e1 : w1.heap.size ≤ g1) (e2 : w1.heap.size ≤ g2) (hg : g1 ≠ g2) (hi : i < h) (a1 : Arr w g1 115 (uc (filN h fE i))) (a2 : Arr w g2 115 (uc (filN h fO i))) :
    let X := ((w.setCell ⟨g1, i, none⟩ (.int .u64 (fE i : Nat))).setCell ⟨g2, i, none⟩ (.int .u64 (fO i : Nat))).drew; Arr X g1 115 (uc (filN h fE (i + 1))) ∧ Arr X g2 115 (uc (filN h fO (i + 1))) ∧ Below w1.heap.size w1 X := by
  intro X
  have b1 := a1.set i (.int .u64 (fE i : Nat))
  rw [uc_set, filN_step fE hi] at b1
  have o1 := (Onl.refl g1 w).setCell i (.int .u64 (fE i : Nat))
  have c2 := a2.onl o1 (fun e => hg e.symm)
  have b2 := c2.set i (.int .u64 (fO i : Nat))
  rw [uc_set, filN_step fO hi] at b2
  have o2 := (Onl.refl g2 (w.setCell ⟨g1, i, none⟩ (.int .u64 (fE i : Nat)))).setCell i (.int .u64 (fO i : Nat))
  exact ⟨b1.onl o2.drew hg, b2, ((hb.setCell (p := ⟨g1, i, none⟩) e1 _).setCell (p := ⟨g2, i, none⟩) e2 _).drew⟩
/-- behind a transformation -/
def TrR (p d : Nat) (c : List Nat) (root : Nat) (w0 : World) (m : Nat) (v : Value) (w : World) : Prop := ∃ g : Nat, v = .slice (some ⟨g, 0, none⟩) m m ∧ w0.heap.size ≤ g ∧ Arr w g 115 (uc (trF p d c root))
theorem TrR.below {p d : Nat} {c : List Nat} {root : Nat} {w0 : World} {m : Nat} {v : Value} {w w' : World} (h : TrR p d c root w0 m v w) (hb : Below w.heap.size w w') : TrR p d c root w0 m v w' := by
  obtain ⟨g, h1, h2, h3⟩ := h
  exact ⟨g, h1, h2, h3.below hb h3.lt⟩
theorem TrR.early {p d : Nat} {c : List Nat} {root : Nat} {w0 w1 : World} {m : Nat} {v : Value} {w : World} (h : TrR p d c root w1 m v w) (hb : Below w0.heap.size w0 w1) : TrR p d c root w0 m v w := by
  obtain ⟨g, h1, h2, h3⟩ := h
  exact ⟨g, h1, Nat.le_trans hb.size h2, h3⟩
set_option maxHeartbeats 4000000 in
set_option maxRecDepth 100000 in
theorem ftransform_zero (p rt b root : Nat) (c : List Nat) (w : World) (hc : Arr w b 115 (uc c)) (hl : c.length = 1) :
    Calls Tryz.prog 98 #[.agg #[.int .u64 (p : Int), .int .u64 (rt : Int)], .slice (some ⟨b, 0, none⟩) 1 1, .int .u64 (root : Nat)] w fun e w' => ∃ v, e = .returned v ∧ TrR p 0 c root w 1 v w' ∧ Below w.heap.size w w' := by
  have c1 := (hc.cell 0).trans (uc_get (by omega))
  have hB := (Below.refl w.heap.size w).alloc (Nat.le_refl _) (.cells #[.int .u64 (p : Nat), .int .u64 (rt : Nat)] 117)
  have c2 := ((hc.below hB hc.lt).cell 0).trans (uc_get (show 0 < c.length by omega))
  have HB := Lib.hid hB
  have HTR := Lib.hid (show trF p 0 c root = [gn c 0] from rfl)
  clear hc hl hB
  go_enter Tryz.func98, Tryz.ntmps98
  go_upto_region 1 with fail
  generalize w.alloc (.cells #[.int .u64 (p : Nat), .int .u64 (rt : Nat)] 117) = w1 at *
  clear c1
  generalize gn c 0 = v at *
  go_wp2_with fail
  go_ret
  refine ⟨_, rfl, ⟨_, rfl, HB.out.size, ?_⟩, HB.out.alloc HB.out.size _⟩
  rw [HTR.out]
  exact Arr.new w1 115 [.int .u64 (v : Nat)]
set_option maxHeartbeats 4000000 in
set_option maxRecDepth 100000 in
theorem ftransform_any : ∀ (d p rt b root m : Nat) (c : List Nat) (w : World) (hc : Arr w b 115 (uc c)) (hl : c.length = m) (hm : m = 2 ^ d) (hd : d ≤ 17) (hp0 : 2 < p) (hp : p < 9223372036854775808) (hr : root < p) (hcs : ∀ j, gn c j < p),
    Calls Tryz.prog 98 #[.agg #[.int .u64 (p : Int), .int .u64 (rt : Int)], .slice (some ⟨b, 0, none⟩) m m, .int .u64 (root : Nat)] w fun e w' => ∃ v, e = .returned v ∧ TrR p d c root w m v w' ∧ Below w.heap.size w w' := by
  intro d
  induction d with
  | zero =>
    intro p rt b root m c w hc hl hm hd hp0 hp hr hcs
    subst hm
    exact ftransform_zero p rt b root c w hc hl
  | succ d ih =>
    intro p rt b root m c w hc hl hm hd hp0 hp hr hcs
    obtain ⟨h, hh⟩ : ∃ h, h = 2 ^ d := ⟨_, rfl⟩
    have h1 : 1 ≤ h := by rw [hh]; exact Nat.one_le_two_pow
    have h2 : h ≤ 65536 := by rw [hh]; exact Nat.pow_le_pow_right (by omega) (show d ≤ 16 by omega)
    have hm2 : m = 2 * h := by rw [hm, Nat.pow_succ, hh]; omega
    have HTR := Lib.hid (show trF p (d + 1) c root = (List.range (2 * h)).map (bfly p root h (trF p d (evL c h) (root * root % p)) (trF p d (odL c h) (root * root % p))) by rw [trF, ← hh])
    have HCS := Lib.hid hcs
    have HL := Lib.hid (show c.length = 2 * h by omega)
    have hr2 : root * root % p < p := Nat.mod_lt _ (by omega)
    have HIE := Lib.hid (fun (g : Nat) (W : World) (hg : Arr W g 115 (uc (evL c h))) => ih p rt g (root * root % p) h (evL c h) W hg (evL_length _ _) hh (by omega) hp0 hp hr2 (map_range_lt (by omega) (fun _ => hcs _)))
    have HIO := Lib.hid (fun (g : Nat) (W : World) (hg : Arr W g 115 (uc (odL c h))) => ih p rt g (root * root % p) h (odL c h) W hg (odL_length _ _) hh (by omega) hp0 hp hr2 (map_range_lt (by omega) (fun _ => hcs _)))
    have HEL := Lib.hid (fun j => trF_lt (show 0 < p by omega) d (evL c h) (root * root % p) (map_range_lt (by omega) (fun _ => hcs _)) j)
    have HOL := Lib.hid (fun j => trF_lt (show 0 < p by omega) d (odL c h) (root * root % p) (map_range_lt (by omega) (fun _ => hcs _)) j)
    have HLE := Lib.hid (show (trF p d (evL c h) (root * root % p)).length = h ∧ (trF p d (odL c h) (root * root % p)).length = h from ⟨by rw [trF_length, hh], by rw [trF_length, hh]⟩)
    have HMR := Lib.hid (fun W => fmul_any p rt root root W (by omega) (by omega) (by omega) (by omega))
    clear ih hcs hl hm hh hd
    subst hm2
    generalize root * root % p = r2 at *
    have hB := (Below.refl w.heap.size w).alloc (Nat.le_refl _) (.cells #[.int .u64 (p : Nat), .int .u64 (rt : Nat)] 117)
    have HC1 := Lib.hid (hc.below hB hc.lt)
    have HF1 := Lib.hid (show Arr (w.alloc (.cells #[.int .u64 (p : Nat), .int .u64 (rt : Nat)] 117)) w.heap.size 117 [.int .u64 (p : Int), .int .u64 (rt : Int)] from Arr.new w 117 [_, _])
    have HB1 := Lib.hid hB
    clear hB hc
    go_enter Tryz.func98, Tryz.ntmps98
    go_upto_region 1 with fail
    generalize w.alloc (.cells #[.int .u64 (p : Nat), .int .u64 (rt : Nat)] 117) = w1 at *
    have HS1 := Lib.hid (show w.heap.size ≤ w1.heap.size from HB1.out.size)
    generalize hw0 : w.heap.size = w0s at *
    have HW0 := Lib.hid hw0
    clear hw0
    have z1 : ((((2 * h : Nat)) : Int) == 1) = false := by rw [beq_eq_false_iff_ne]; omega
    go_upto_region 4 with fail
    go_cut [8, 9] (fun s8 s9 wx => ∃ g1 g2 : Nat, s8 = .slice (some ⟨g1, 0, none⟩) h h ∧ s9 = .slice (some ⟨g2, 0, none⟩) h h ∧ g1 ≠ g2 ∧ w1.heap.size ≤ g1 ∧ w1.heap.size ≤ g2 ∧ Arr wx g1 115 (uc (List.replicate h 0)) ∧ Arr wx g2 115 (uc (List.replicate h 0)) ∧ Below w1.heap.size w1 wx)
    case first =>
      have hmk := fun W => mk_u64 h (by omega) W
      go_region
      all_goals go_wp2_with fail
      all_goals go_meet
      · have q := two_made w1 h
        exact ⟨_, _, rfl, rfl, by omega, by omega, by omega, q.1, q.2.1, q.2.2⟩
      · have q := two_made w1 h
        exact ⟨_, _, rfl, rfl, by omega, by omega, by omega, q.2.1, q.1, q.2.2⟩
    case rest =>
      obtain ⟨g1, g2, rfl, rfl, hg, e1, e2, a1, a2, hb⟩ := hcut
      obtain ⟨fE, hfE⟩ : ∃ f : Nat → Nat, f = fun j => gn c (2 * j) := ⟨_, rfl⟩
      obtain ⟨fO, hfO⟩ : ∃ f : Nat → Nat, f = fun j => gn c (2 * j + 1) := ⟨_, rfl⟩
      have HFE := Lib.hid hfE
      have HFO := Lib.hid hfO
      rw [← filN_zero h fE] at a1
      rw [← filN_zero h fO] at a2
      have HA1 := Lib.hid a1
      have HA2 := Lib.hid a2
      have HB := Lib.hid hb
      have HBL := Lib.hid HC1.out.lt
      clear a1 a2 hb hfE hfO z1
      go_wp2_with fail
      go_loopg [10, 31] h (fun gk s10 s31 wr => ∃ i : Nat, i ≤ h ∧ gk = h - i ∧ s31 = .int .i64 (i : Int) ∧ Arr wr g1 115 (uc (filN h fE i)) ∧ Arr wr g2 115 (uc (filN h fO i)) ∧ Below w1.heap.size w1 wr)
      case atStart => exact ⟨0, Nat.zero_le _, rfl, rfl, HA1.out, HA2.out, HB.out⟩
      case round =>
        clear HA1 HA2 HB
        obtain ⟨i, hi, rfl, rfl, a1, a2, hb⟩ := hrel
        obtain ⟨wo, rfl⟩ : ∃ wo : World, wo = wr := ⟨_, rfl⟩
        by_cases hit : i < h
        · have z1 : (i : Int) < (h : Int) := by omega
          have z2 : 2 * (i : Int) < ((2 * h : Nat) : Int) := by omega
          have z3 : 2 * (i : Int) + 1 < ((2 * h : Nat) : Int) := by omega
          have hcw := HC1.out.below hb HC1.out.lt
          have c1 := (hcw.cell (2 * i)).trans (uc_get (by rw [HL.out]; omega))
          have c2 := (hcw.cell (2 * i + 1)).trans (uc_get (by rw [HL.out]; omega))
          have n1 : b ≠ g1 := by have := HBL.out; omega
          have n2 : b ≠ g2 := by have := HBL.out; omega
          have f1 := a1.frozen i
          have f2 := a2.frozen i
          have c3 := (a1.cell i).trans (uc_get (by rw [filN_length]; exact hit))
          have c4 := (a2.cell i).trans (uc_get (by rw [filN_length]; exact hit))
          have HQ := Lib.hid (two_set hb e1 e2 hg hit a1 a2)
          rw [show fE i = gn c (2 * i) by rw [HFE.out], show fO i = gn c (2 * i + 1) by rw [HFO.out]] at HQ
          generalize gn c (2 * i) = x1 at *
          generalize gn c (2 * i + 1) = x2 at *
          generalize gn (filN h fE i) i = x3 at *
          generalize gn (filN h fO i) i = x4 at *
          clear hcw a1 a2 hb
          go_upto_region 8 with fail
          go_region
          go_wp2_with fail
          go_roundg (h - (i + 1))
          case measure => omega
          case rel => exact ⟨i + 1, by omega, rfl, by go_num, HQ.out⟩
        · have z1 : ¬ ((i : Int) < (h : Int)) := by omega
          have e3 : i = h := by omega
          rw [e3, filN_all, HFE.out] at a1
          rw [e3, filN_all, HFO.out] at a2
          clear e3
          have hF := HF1.out.below hb HF1.out.lt
          have y0 := hF.cell 0
          have y1 := hF.cell 1
          have HA1 := Lib.hid (show Arr wo g1 115 (uc (evL c h)) from a1)
          have HA2 := Lib.hid (show Arr wo g2 115 (uc (odL c h)) from a2)
          have HB := Lib.hid hb
          have HFF := Lib.hid hF
          clear a1 a2 hb hF HFE HFO HF1 HC1
          go_upto_region 11 with (go_at_call 95; refine (HMR.out _).mono ?_; rintro e w' ⟨rfl, hbm⟩)
          obtain ⟨w5, rfl⟩ : ∃ w5 : World, w5 = w' := ⟨_, rfl⟩
          have HF := Lib.hid (HFF.out.below hbm HFF.out.lt)
          have ha1 := HA1.out.below hbm HA1.out.lt
          have ha2 := HA2.out.below hbm HA2.out.lt
          have HB5 := Lib.hid (HB1.out.trans ((HB.out.trans (hbm.mono HB.out.size)).mono HS1.out))
          have HS5 := Lib.hid (show w0s ≤ w5.heap.size from Nat.le_trans HS1.out (Nat.le_trans HB.out.size hbm.size))
          have HE := Lib.hid (fun W (hb : Below w5.heap.size w5 W) => HIE.out g1 W (ha1.below hb ha1.lt))
          have HO := Lib.hid (fun W (hb : Below w5.heap.size w5 W) => HIO.out g2 W (ha2.below hb ha2.lt))
          clear ha1 ha2 hbm HFF HA1 HA2 HB HIE HIO HMR y0 y1 z1 HB1 HS1 HBL
          refine wp_region_phy (fun a b => Below a.heap.size a b) (fun h k => h.trans (k.mono h.size)) ((Below.refl _ _).drew) (by kernel_rfl) (by kernel_rfl) (by kernel_rfl) (by kernel_rfl) (phiT (fun i => ([some (.agg #[.int .u64 (p : Int), .int .u64 (rt : Int)]), some (.slice (some ⟨g1, 0, none⟩) h h), some (.int .u64 ((r2 : Nat) : Int)), none, some (.agg #[.int .u64 (p : Int), .int .u64 (rt : Int)]), some (.slice (some ⟨g2, 0, none⟩) h h), some (.int .u64 ((r2 : Nat) : Int)), none, none, none] : List (Option Value)).getD i none) (fun i v w => (if i = 3 then (fun v w => TrR p d (evL c h) r2 w5 h v w) v w else (if i = 7 then (fun v w => TrR p d (odL c h) r2 w5 h v w) v w else (if i = 8 then (fun v w => TrR p d (evL c h) r2 w5 h v w) v w else (if i = 9 then (fun v w => TrR p d (odL c h) r2 w5 h v w) v w else True)))))) (fun i v w w' h hb => ?_) ⟨?_, ?_, ?_, ?_, ?_, ?_, ?_, ?_, ?_, ?_, trivial⟩ ?_
          · unfold phiT at h ⊢
            split
            · next u hu => rw [hu] at h; exact h
            · next hu =>
              rw [hu] at h
              simp only at h ⊢
              by_cases q3 : i = 3
              · rw [if_pos q3] at h ⊢; exact h.below hb
              · rw [if_neg q3] at h ⊢
                by_cases q7 : i = 7
                · rw [if_pos q7] at h ⊢; exact h.below hb
                · rw [if_neg q7] at h ⊢
                  by_cases q8 : i = 8
                  · rw [if_pos q8] at h ⊢; exact h.below hb
                  · rw [if_neg q8] at h ⊢
                    by_cases q9 : i = 9
                    · rw [if_pos q9] at h ⊢; exact h.below hb
                    · rw [if_neg q9] at h ⊢
                      trivial
          · intro x w1 bA hT hdep hold hb
            refine .inl ⟨trivial, ?_⟩
            have e3 : bA.tmps[3]?.getD undef = .pointer (some ⟨w0s, 0, none⟩) := hb 3
            have cc0 := (HF.out.below hT HF.out.lt).cell 0
            have cc1 := (HF.out.below hT HF.out.lt).cell 1
            refine phx_run (.agg #[.int .u64 (p : Int), .int .u64 (rt : Int)]) ?_ (Below.refl _ _) rfl
            clear hb hdep hold
            go_simp
          · intro x w1 bA hT hdep hold hb
            refine .inl ⟨trivial, ?_⟩
            have e8 : bA.tmps[8]?.getD undef = .slice (some ⟨g1, 0, none⟩) h h := (hb 8).trans (hold 8 (by decide))
            refine phx_run (.slice (some ⟨g1, 0, none⟩) h h) ?_ (Below.refl _ _) rfl
            clear hb hdep hold
            go_simp
          · intro x w1 bA hT hdep hold hb
            refine .inl ⟨trivial, ?_⟩
            have e11 : bA.tmps[11]?.getD undef = .int .u64 ((r2 : Nat) : Int) := hb 11
            refine phx_run (.int .u64 ((r2 : Nat) : Int)) ?_ (Below.refl _ _) rfl
            clear hb hdep hold
            go_simp
          · intro x w1 bA hT hdep hold hb
            refine .inl ⟨trivial, ?_⟩
            have e56 : bA.tmps[56]?.getD undef = .agg #[.int .u64 (p : Int), .int .u64 (rt : Int)] := (hb 56).trans (hdep 0 (by decide))
            have e57 : bA.tmps[57]?.getD undef = .slice (some ⟨g1, 0, none⟩) h h := (hb 57).trans (hdep 1 (by decide))
            have e58 : bA.tmps[58]?.getD undef = .int .u64 ((r2 : Nat) : Int) := (hb 58).trans (hdep 2 (by decide))
            refine phx_call ?_ ((HE.out w1 hT).mono fun e w' q => (by obtain ⟨v, q1, q2, q3⟩ := q; exact ⟨v, q1, q3, q2.early hT⟩))
            clear hb hdep hold
            go_simp
          · intro x w1 bA hT hdep hold hb
            refine .inl ⟨trivial, ?_⟩
            have e3 : bA.tmps[3]?.getD undef = .pointer (some ⟨w0s, 0, none⟩) := hb 3
            have cc0 := (HF.out.below hT HF.out.lt).cell 0
            have cc1 := (HF.out.below hT HF.out.lt).cell 1
            refine phx_run (.agg #[.int .u64 (p : Int), .int .u64 (rt : Int)]) ?_ (Below.refl _ _) rfl
            clear hb hdep hold
            go_simp
          · intro x w1 bA hT hdep hold hb
            refine .inl ⟨trivial, ?_⟩
            have e9 : bA.tmps[9]?.getD undef = .slice (some ⟨g2, 0, none⟩) h h := (hb 9).trans (hold 9 (by decide))
            refine phx_run (.slice (some ⟨g2, 0, none⟩) h h) ?_ (Below.refl _ _) rfl
            clear hb hdep hold
            go_simp
          · intro x w1 bA hT hdep hold hb
            refine .inl ⟨trivial, ?_⟩
            have e11 : bA.tmps[11]?.getD undef = .int .u64 ((r2 : Nat) : Int) := hb 11
            refine phx_run (.int .u64 ((r2 : Nat) : Int)) ?_ (Below.refl _ _) rfl
            clear hb hdep hold
            go_simp
          · intro x w1 bA hT hdep hold hb
            refine .inl ⟨trivial, ?_⟩
            have e60 : bA.tmps[60]?.getD undef = .agg #[.int .u64 (p : Int), .int .u64 (rt : Int)] := (hb 60).trans (hdep 4 (by decide))
            have e61 : bA.tmps[61]?.getD undef = .slice (some ⟨g2, 0, none⟩) h h := (hb 61).trans (hdep 5 (by decide))
            have e62 : bA.tmps[62]?.getD undef = .int .u64 ((r2 : Nat) : Int) := (hb 62).trans (hdep 6 (by decide))
            refine phx_call ?_ ((HO.out w1 hT).mono fun e w' q => (by obtain ⟨v, q1, q2, q3⟩ := q; exact ⟨v, q1, q3, q2.early hT⟩))
            clear hb hdep hold
            go_simp
          · intro x w1 bA hT hdep hold hb
            refine .inl ⟨trivial, ?_⟩
            have p59 := hdep 3 (by decide)
            have e59 : bA.tmps[59]?.getD undef = x 3 := hb 59
            generalize x 3 = x59 at *
            have P59 := Lib.hid (show (fun v w => TrR p d (evL c h) r2 w5 h v w) x59 w1 from p59)
            clear p59
            refine phx_run (x59) ?_ (Below.refl _ _) (P59.out)
            clear hb hdep hold
            go_simp
          · intro x w1 bA hT hdep hold hb
            refine .inl ⟨trivial, ?_⟩
            have p63 := hdep 7 (by decide)
            have e63 : bA.tmps[63]?.getD undef = x 7 := hb 63
            generalize x 7 = x63 at *
            have P63 := Lib.hid (show (fun v w => TrR p d (odL c h) r2 w5 h v w) x63 w1 from p63)
            clear p63
            refine phx_run (x63) ?_ (Below.refl _ _) (P63.out)
            clear hb hdep hold
            go_simp
          intro x w1 hT hall
          have x0e : x 0 = .agg #[.int .u64 (p : Int), .int .u64 (rt : Int)] := hall 0 (by decide)
          have x1e : x 1 = .slice (some ⟨g1, 0, none⟩) h h := hall 1 (by decide)
          have x2e : x 2 = .int .u64 ((r2 : Nat) : Int) := hall 2 (by decide)
          have p59 := hall 3 (by decide)
          have x4e : x 4 = .agg #[.int .u64 (p : Int), .int .u64 (rt : Int)] := hall 4 (by decide)
          have x5e : x 5 = .slice (some ⟨g2, 0, none⟩) h h := hall 5 (by decide)
          have x6e : x 6 = .int .u64 ((r2 : Nat) : Int) := hall 6 (by decide)
          have p63 := hall 7 (by decide)
          have p8 := hall 8 (by decide)
          have p9 := hall 9 (by decide)
          simp only [putAll, dstOf, Act.put, List.map_cons, List.map_nil, List.setIfInBounds_toArray, List.set_cons_succ, List.set_cons_zero, Nat.reduceAdd, x0e, x1e, x2e, x4e, x5e, x6e]
          clear x0e x1e x2e x4e x5e x6e hall
          have P8 : TrR p d (evL c h) r2 w5 h (x 8) w1 := p8
          have P9 : TrR p d (odL c h) r2 w5 h (x 9) w1 := p9
          clear p59 p63 p8 p9
          generalize x 8 = v8 at *
          generalize x 9 = v9 at *
          obtain ⟨gE, rfl, hgE, aE⟩ := P8
          obtain ⟨gO, rfl, hgO, aO⟩ := P9
          obtain ⟨w6, rfl⟩ : ∃ w6 : World, w6 = w1 := ⟨_, rfl⟩
          obtain ⟨E, hE⟩ : ∃ E, E = trF p d (evL c h) r2 := ⟨_, rfl⟩
          obtain ⟨O, hO⟩ : ∃ O, O = trF p d (odL c h) r2 := ⟨_, rfl⟩
          rw [← hE] at aE HEL HLE HTR
          rw [← hO] at aO HOL HLE HTR
          clear hE hO
          obtain ⟨F, hF⟩ : ∃ F : Nat → Nat, F = bfly p root h E O := ⟨_, rfl⟩
          rw [← hF] at HTR
          have HFD := Lib.hid hF
          clear hF
          have hmk := fun W => mk_u64 (2 * h) (by omega) W
          rw [show (((2 * h : Nat)) : Int) = 2 * (h : Int) by omega] at hmk
          have hF6 := HF.out.below hT HF.out.lt
          have HB6 := Lib.hid (HB5.out.trans (hT.mono HS5.out))
          have HS6 := Lib.hid (show w0s ≤ w6.heap.size from Nat.le_trans HS5.out hT.size)
          clear hT hgE hgO HF HB5 HS5 HE HO
          have hAl := (Below.refl w6.heap.size w6).alloc (Nat.le_refl _) (.cells (rowOf (List.replicate (2 * h) (.int .u64 0))) 115)
          have HGE := Lib.hid (aE.below hAl aE.lt)
          have HGO := Lib.hid (aO.below hAl aO.lt)
          have HF := Lib.hid (hF6.below hAl hF6.lt)
          have HNF := Lib.hid (show w0s ∉ [w6.heap.size] from fun q => by have := List.mem_singleton.1 q; have := hF6.lt; omega)
          have HNE := Lib.hid (show gE ∉ [w6.heap.size] from fun q => by have := List.mem_singleton.1 q; have := aE.lt; omega)
          have HNO := Lib.hid (show gO ∉ [w6.heap.size] from fun q => by have := List.mem_singleton.1 q; have := aO.lt; omega)
          have HB7 := Lib.hid (HB6.out.trans (hAl.mono HS6.out))
          have HGV := Lib.hid (show Arr (w6.alloc (.cells (rowOf (List.replicate (2 * h) (.int .u64 0))) 115)) w6.heap.size 115 (uc (filH h F 0)) by
            rw [filH_zero, show uc (List.replicate (2 * h) 0) = List.replicate (2 * h) (.int .u64 0) by simp [uc]]
            exact Arr.new w6 115 (List.replicate (2 * h) (.int .u64 0)))
          clear aE aO hF6 hAl HB6
          go_upto_region 13 with fail
          generalize w6.alloc (.cells (rowOf (List.replicate (2 * h) (.int .u64 0))) 115) = w7 at *
          generalize w6.heap.size = gv at *
          clear hmk
          go_wp2_with fail
          go_loopg [13, 14, 15, 68] h (fun gk s13 s14 s15 s68 wr => ∃ ix : Nat, ix ≤ h ∧ gk = h - ix ∧ s13 = .int .u64 (twF p root ix : Nat) ∧ s68 = .int .i64 (ix : Int) ∧ Arr wr gv 115 (uc (filH h F ix)) ∧ Wr [gv] w7 wr)
          case atStart => exact ⟨0, Nat.zero_le _, rfl, rfl, rfl, HGV.out, Wr.refl _ _⟩
          case round =>
            clear HGV
            obtain ⟨ix, hi, rfl, rfl, rfl, av, ho⟩ := hrel
            obtain ⟨wo, rfl⟩ : ∃ wo : World, wo = wr := ⟨_, rfl⟩
            by_cases hit : ix < h
            · have z1 : (ix : Int) < (h : Int) := by omega
              have hF := HF.out.wr ho HNF.out
              have hG := HGE.out.wr ho HNE.out
              have hO := HGO.out.wr ho HNO.out
              have htv := twF_lt (show 1 < p by omega) root ix
              have HFI := Lib.hid (show F ix = addF p (gn E ix) (twF p root ix * gn O ix % p) ∧ F (ix + h) = subF p (gn E ix) (twF p root ix * gn O ix % p) by
                rw [HFD.out]
                unfold bfly
                rw [if_pos hit, if_neg (by omega), Nat.add_sub_cancel]
                exact ⟨rfl, rfl⟩)
              have HTW := Lib.hid (show (.int .u64 ((twF p root ix : Int) * (root : Int) % (p : Int)) : Value) = .int .u64 ((twF p root (ix + 1) : Nat) : Int) by rw [show twF p root (ix + 1) = twF p root ix * root % p from rfl]; push_cast; rfl)
              have hov := HOL.out ix
              have hev := HEL.out ix
              have hxv : twF p root ix * gn O ix % p < p := Nat.mod_lt _ (by omega)
              have HM := Lib.hid (fun W => fmul_any p rt (twF p root ix) (gn O ix) W (by omega) (by omega) (by omega) (by omega))
              have HM2 := Lib.hid (fun W => fmul_any p rt (twF p root ix) root W (by omega) (by omega) (by omega) (by omega))
              have HAD := Lib.hid (fun W => fadd_any p rt (gn E ix) (twF p root ix * gn O ix % p) W hp hev hxv)
              have HSB := Lib.hid (fun W => fsub_any p rt (gn E ix) (twF p root ix * gn O ix % p) W hp hev hxv)
              have HCO := Lib.hid (fun W (hb : Below wo.heap.size wo W) => ((hO.below hb hO.lt).cell ix).trans (uc_get (by rw [HLE.out.2]; exact hit)))
              have HEV := Lib.hid (show gn E ix = gn E ix from rfl)
              obtain ⟨ev, hevd⟩ : ∃ v, v = gn E ix := ⟨_, rfl⟩
              rw [← hevd] at HFI hev HAD HSB
              have HEV := Lib.hid hevd.symm
              clear hevd
              generalize gn O ix = ov at *
              generalize twF p root ix = tv at *
              generalize tv * ov % p = xv at *
              generalize addF p ev xv = sa at *
              generalize subF p ev xv = sb at *
              have HLI := Lib.hid (show ix < E.length by rw [HLE.out.1]; exact hit)
              have HIH := Lib.hid hit
              have HIJ := Lib.hid (show ix ≠ ix + h by omega)
              have HZ := Lib.hid z1
              have HZ2 := Lib.hid (show (ix : Int) + (h : Int) < 1000000 by omega)
              have HZ3 := Lib.hid (show (ix : Int) < 2 * (h : Int) by omega)
              have HZ6 := Lib.hid (show 0 ≤ (ix : Int) + (h : Int) by omega)
              have HZW := Lib.hid (show IntKind.i64.wrap ((ix : Int) + (h : Int)) = (ix : Int) + (h : Int) by simp only [IntKind.wrap, IntKind.bits, IntKind.signed]; simp; omega)
              have HZ4 := Lib.hid (show (ix : Int) + (h : Int) < 2 * (h : Int) by omega)
              have HZ5 := Lib.hid (show ((ix : Int) + (h : Int)).toNat = ix + h by omega)
              have HF9 := HF
              clear HF
              have HF := Lib.hid hF
              have HGE9 := HGE
              have HGW := Lib.hid hG
              have HAV := Lib.hid av
              have HWO := Lib.hid ho
              clear hF hG hO av ho
              go_upto_region 17 with fail
              refine wp_region_phy (fun a b => Below a.heap.size a b) (fun h k => h.trans (k.mono h.size)) ((Below.refl _ _).drew) (by kernel_rfl) (by kernel_rfl) (by kernel_rfl) (by kernel_rfl) (phiT (fun i => ([some (.agg #[.int .u64 (p : Int), .int .u64 (rt : Int)]), some (.int .u64 ((tv : Nat) : Int)), some (.slice (some ⟨gO, 0, none⟩) h h), some (.int .i64 (ix : Int)), some (.pointer (some ⟨gO, ix, none⟩)), some (.int .u64 ((ov : Nat) : Int)), some (.int .u64 ((xv : Nat) : Int)), some (.int .u64 ((xv : Nat) : Int))] : List (Option Value)).getD i none) (fun i v w => True)) (fun i v w w' h hb => ?_) ⟨?_, ?_, ?_, ?_, ?_, ?_, ?_, ?_, trivial⟩ ?_
              · unfold phiT at h ⊢
                split
                · next u hu => rw [hu] at h; exact h
                · next hu =>
                  rw [hu] at h
                  exact True.intro
              · intro x w1 bA hT hdep hold hb
                refine .inl ⟨trivial, ?_⟩
                have e3 : bA.tmps[3]?.getD undef = .pointer (some ⟨w0s, 0, none⟩) := hb 3
                have cc0 := (HF.out.below hT HF.out.lt).cell 0
                have cc1 := (HF.out.below hT HF.out.lt).cell 1
                refine phx_run (.agg #[.int .u64 (p : Int), .int .u64 (rt : Int)]) ?_ (Below.refl _ _) rfl
                clear hb hdep hold
                go_simp
              · intro x w1 bA hT hdep hold hb
                refine .inl ⟨trivial, ?_⟩
                have e13 : bA.tmps[13]?.getD undef = .int .u64 ((tv : Nat) : Int) := hb 13
                refine phx_run (.int .u64 ((tv : Nat) : Int)) ?_ (Below.refl _ _) rfl
                clear hb hdep hold
                go_simp
              · intro x w1 bA hT hdep hold hb
                refine .inl ⟨trivial, ?_⟩
                have e9 : bA.tmps[9]?.getD undef = .slice (some ⟨gO, 0, none⟩) h h := hb 9
                refine phx_run (.slice (some ⟨gO, 0, none⟩) h h) ?_ (Below.refl _ _) rfl
                clear hb hdep hold
                go_simp
              · intro x w1 bA hT hdep hold hb
                refine .inl ⟨trivial, ?_⟩
                have e14 : bA.tmps[14]?.getD undef = .int .i64 (ix : Int) := hb 14
                refine phx_run (.int .i64 (ix : Int)) ?_ (Below.refl _ _) rfl
                clear hb hdep hold
                go_simp
              · intro x w1 bA hT hdep hold hb
                refine .inl ⟨trivial, ?_⟩
                have e73 : bA.tmps[73]?.getD undef = .slice (some ⟨gO, 0, none⟩) h h := (hb 73).trans (hdep 2 (by decide))
                have e74 : bA.tmps[74]?.getD undef = .int .i64 (ix : Int) := (hb 74).trans (hdep 3 (by decide))
                have zz := HZ.out
                refine phx_run (.pointer (some ⟨gO, ix, none⟩)) ?_ (Below.refl _ _) rfl
                clear hb hdep hold
                go_simp
              · intro x w1 bA hT hdep hold hb
                refine .inl ⟨trivial, ?_⟩
                have e75 : bA.tmps[75]?.getD undef = .pointer (some ⟨gO, ix, none⟩) := (hb 75).trans (hdep 4 (by decide))
                have cc := HCO.out w1 hT
                refine phx_run (.int .u64 ((ov : Nat) : Int)) ?_ (Below.refl _ _) rfl
                clear hb hdep hold
                go_simp
              · intro x w1 bA hT hdep hold hb
                refine .inl ⟨trivial, ?_⟩
                have e71 : bA.tmps[71]?.getD undef = .agg #[.int .u64 (p : Int), .int .u64 (rt : Int)] := (hb 71).trans (hdep 0 (by decide))
                have e72 : bA.tmps[72]?.getD undef = .int .u64 ((tv : Nat) : Int) := (hb 72).trans (hdep 1 (by decide))
                have e76 : bA.tmps[76]?.getD undef = .int .u64 ((ov : Nat) : Int) := (hb 76).trans (hdep 5 (by decide))
                refine phx_call ?_ ((HM.out w1).mono fun e w' h => ⟨_, h.1, h.2, rfl⟩)
                clear hb hdep hold
                go_simp
              · intro x w1 bA hT hdep hold hb
                refine .inl ⟨trivial, ?_⟩
                have e77 : bA.tmps[77]?.getD undef = .int .u64 ((xv : Nat) : Int) := (hb 77).trans (hdep 6 (by decide))
                refine phx_run (.int .u64 ((xv : Nat) : Int)) ?_ (Below.refl _ _) rfl
                clear hb hdep hold
                go_simp
              intro x w1 hT hall
              have x0e : x 0 = .agg #[.int .u64 (p : Int), .int .u64 (rt : Int)] := hall 0 (by decide)
              have x1e : x 1 = .int .u64 ((tv : Nat) : Int) := hall 1 (by decide)
              have x2e : x 2 = .slice (some ⟨gO, 0, none⟩) h h := hall 2 (by decide)
              have x3e : x 3 = .int .i64 (ix : Int) := hall 3 (by decide)
              have x4e : x 4 = .pointer (some ⟨gO, ix, none⟩) := hall 4 (by decide)
              have x5e : x 5 = .int .u64 ((ov : Nat) : Int) := hall 5 (by decide)
              have x6e : x 6 = .int .u64 ((xv : Nat) : Int) := hall 6 (by decide)
              have x7e : x 7 = .int .u64 ((xv : Nat) : Int) := hall 7 (by decide)
              simp only [putAll, dstOf, Act.put, List.map_cons, List.map_nil, List.setIfInBounds_toArray, List.set_cons_succ, List.set_cons_zero, Nat.reduceAdd, x0e, x1e, x2e, x3e, x4e, x5e, x6e, x7e]
              clear x0e x1e x2e x3e x4e x5e x6e x7e hall
              obtain ⟨w8, rfl⟩ : ∃ w8 : World, w8 = w1 := ⟨_, rfl⟩
              have hF8 := HF.out.below hT HF.out.lt
              have hG8 := HGW.out.below hT HGW.out.lt
              have hV8 := HAV.out.below hT HAV.out.lt
              have HW8 := Lib.hid (HWO.out.trans (Wr.of_below hT))
              clear HF HGW HAV HWO hT HCO HM HGE
              have HF := Lib.hid hF8
              have HGE := Lib.hid hG8
              have HGV := Lib.hid hV8
              clear hF8 hG8 hV8
              go_upto_region 18 with fail
              refine wp_region_phy (fun a b => Tw gv ix (ix + h) (.int .u64 (sa : Nat)) (.int .u64 (sb : Nat)) a b) (fun h k => h.trans k) (Tw.of_below (Below.refl _ _).drew) (by kernel_rfl) (by kernel_rfl) (by kernel_rfl) (by kernel_rfl) (phiT (fun i => ([some (.slice (some ⟨gv, 0, none⟩) (2 * h) (2 * h)), some (.int .i64 (ix : Int)), some (.slice (some ⟨gv, 0, none⟩) (2 * h) (2 * h)), some (.int .i64 (ix : Int)), some (.int .i64 (h : Int)), some (.int .i64 ((ix : Int) + (h : Int))), some (.agg #[.int .u64 (p : Int), .int .u64 (rt : Int)]), some (.slice (some ⟨gE, 0, none⟩) h h), some (.int .i64 (ix : Int)), some (.pointer (some ⟨gE, ix, none⟩)), some (.int .u64 ((ev : Nat) : Int)), some (.int .u64 ((xv : Nat) : Int)), some (.int .u64 ((sa : Nat) : Int)), some (.agg #[.int .u64 (p : Int), .int .u64 (rt : Int)]), some (.slice (some ⟨gE, 0, none⟩) h h), some (.int .i64 (ix : Int)), some (.pointer (some ⟨gE, ix, none⟩)), some (.int .u64 ((ev : Nat) : Int)), some (.int .u64 ((xv : Nat) : Int)), some (.int .u64 ((sb : Nat) : Int)), some (.pointer (some ⟨gv, ix, none⟩)), none, some (.pointer (some ⟨gv, ix + h, none⟩)), none] : List (Option Value)).getD i none) (fun i v w => (if i = 21 then (fun v w => At_ gv ix (.int .u64 (sa : Nat)) w) v w else (if i = 23 then (fun v w => At_ gv (ix + h) (.int .u64 (sb : Nat)) w) v w else True)))) (fun i v w w' h hb => ?_) ⟨?_, ?_, ?_, ?_, ?_, ?_, ?_, ?_, ?_, ?_, ?_, ?_, ?_, ?_, ?_, ?_, ?_, ?_, ?_, ?_, ?_, ?_, ?_, ?_, trivial⟩ ?_
              · unfold phiT at h ⊢
                split
                · next u hu => rw [hu] at h; exact h
                · next hu =>
                  rw [hu] at h
                  simp only at h ⊢
                  by_cases q21 : i = 21
                  · rw [if_pos q21] at h ⊢; exact h.tw1 hb
                  · rw [if_neg q21] at h ⊢
                    by_cases q23 : i = 23
                    · rw [if_pos q23] at h ⊢; exact h.tw2 hb
                    · rw [if_neg q23] at h ⊢
                      trivial
              · intro x w1 bA hT hdep hold hb
                refine .inl ⟨trivial, ?_⟩
                have e12 : bA.tmps[12]?.getD undef = .slice (some ⟨gv, 0, none⟩) (2 * h) (2 * h) := hb 12
                refine phx_run (.slice (some ⟨gv, 0, none⟩) (2 * h) (2 * h)) ?_ (Tw.of_below (Below.refl _ _)) rfl
                clear hb hdep hold
                go_simp
              · intro x w1 bA hT hdep hold hb
                refine .inl ⟨trivial, ?_⟩
                have e14 : bA.tmps[14]?.getD undef = .int .i64 (ix : Int) := hb 14
                refine phx_run (.int .i64 (ix : Int)) ?_ (Tw.of_below (Below.refl _ _)) rfl
                clear hb hdep hold
                go_simp
              · intro x w1 bA hT hdep hold hb
                refine .inl ⟨trivial, ?_⟩
                have e12 : bA.tmps[12]?.getD undef = .slice (some ⟨gv, 0, none⟩) (2 * h) (2 * h) := hb 12
                refine phx_run (.slice (some ⟨gv, 0, none⟩) (2 * h) (2 * h)) ?_ (Tw.of_below (Below.refl _ _)) rfl
                clear hb hdep hold
                go_simp
              · intro x w1 bA hT hdep hold hb
                refine .inl ⟨trivial, ?_⟩
                have e14 : bA.tmps[14]?.getD undef = .int .i64 (ix : Int) := hb 14
                refine phx_run (.int .i64 (ix : Int)) ?_ (Tw.of_below (Below.refl _ _)) rfl
                clear hb hdep hold
                go_simp
              · intro x w1 bA hT hdep hold hb
                refine .inl ⟨trivial, ?_⟩
                have e7 : bA.tmps[7]?.getD undef = .int .i64 (h : Int) := hb 7
                refine phx_run (.int .i64 (h : Int)) ?_ (Tw.of_below (Below.refl _ _)) rfl
                clear hb hdep hold
                go_simp
              · intro x w1 bA hT hdep hold hb
                refine .inl ⟨trivial, ?_⟩
                have e81 : bA.tmps[81]?.getD undef = .int .i64 (ix : Int) := (hb 81).trans (hdep 3 (by decide))
                have e82 : bA.tmps[82]?.getD undef = .int .i64 (h : Int) := (hb 82).trans (hdep 4 (by decide))
                have zz := HZ2.out
                have zw := HZW.out
                refine phx_run (.int .i64 ((ix : Int) + (h : Int))) ?_ (Tw.of_below (Below.refl _ _)) rfl
                clear hb hdep hold
                go_simp
              · intro x w1 bA hT hdep hold hb
                refine .inl ⟨trivial, ?_⟩
                have e3 : bA.tmps[3]?.getD undef = .pointer (some ⟨w0s, 0, none⟩) := hb 3
                have cc0 := (HF.out.wr hT.1 HNF.out).cell 0
                have cc1 := (HF.out.wr hT.1 HNF.out).cell 1
                refine phx_run (.agg #[.int .u64 (p : Int), .int .u64 (rt : Int)]) ?_ (Tw.of_below (Below.refl _ _)) rfl
                clear hb hdep hold
                go_simp
              · intro x w1 bA hT hdep hold hb
                refine .inl ⟨trivial, ?_⟩
                have e8 : bA.tmps[8]?.getD undef = .slice (some ⟨gE, 0, none⟩) h h := hb 8
                refine phx_run (.slice (some ⟨gE, 0, none⟩) h h) ?_ (Tw.of_below (Below.refl _ _)) rfl
                clear hb hdep hold
                go_simp
              · intro x w1 bA hT hdep hold hb
                refine .inl ⟨trivial, ?_⟩
                have e14 : bA.tmps[14]?.getD undef = .int .i64 (ix : Int) := hb 14
                refine phx_run (.int .i64 (ix : Int)) ?_ (Tw.of_below (Below.refl _ _)) rfl
                clear hb hdep hold
                go_simp
              · intro x w1 bA hT hdep hold hb
                refine .inl ⟨trivial, ?_⟩
                have e85 : bA.tmps[85]?.getD undef = .slice (some ⟨gE, 0, none⟩) h h := (hb 85).trans (hdep 7 (by decide))
                have e86 : bA.tmps[86]?.getD undef = .int .i64 (ix : Int) := (hb 86).trans (hdep 8 (by decide))
                have zz := HZ.out
                refine phx_run (.pointer (some ⟨gE, ix, none⟩)) ?_ (Tw.of_below (Below.refl _ _)) rfl
                clear hb hdep hold
                go_simp
              · intro x w1 bA hT hdep hold hb
                refine .inl ⟨trivial, ?_⟩
                have e87 : bA.tmps[87]?.getD undef = .pointer (some ⟨gE, ix, none⟩) := (hb 87).trans (hdep 9 (by decide))
                have cc := (HGE.out.wr hT.1 HNE.out).cell ix
                rw [uc_get (HLI.out)] at cc
                rw [HEV.out] at cc
                refine phx_run (.int .u64 ((ev : Nat) : Int)) ?_ (Tw.of_below (Below.refl _ _)) rfl
                clear hb hdep hold
                go_simp
              · intro x w1 bA hT hdep hold hb
                refine .inl ⟨trivial, ?_⟩
                have e15 : bA.tmps[15]?.getD undef = .int .u64 ((xv : Nat) : Int) := hb 15
                refine phx_run (.int .u64 ((xv : Nat) : Int)) ?_ (Tw.of_below (Below.refl _ _)) rfl
                clear hb hdep hold
                go_simp
              · intro x w1 bA hT hdep hold hb
                refine .inl ⟨trivial, ?_⟩
                have e84 : bA.tmps[84]?.getD undef = .agg #[.int .u64 (p : Int), .int .u64 (rt : Int)] := (hb 84).trans (hdep 6 (by decide))
                have e88 : bA.tmps[88]?.getD undef = .int .u64 ((ev : Nat) : Int) := (hb 88).trans (hdep 10 (by decide))
                have e89 : bA.tmps[89]?.getD undef = .int .u64 ((xv : Nat) : Int) := (hb 89).trans (hdep 11 (by decide))
                refine phx_call ?_ ((HAD.out w1).mono fun e w' h => ⟨_, h.1, Tw.of_below h.2, rfl⟩)
                clear hb hdep hold
                go_simp
              · intro x w1 bA hT hdep hold hb
                refine .inl ⟨trivial, ?_⟩
                have e3 : bA.tmps[3]?.getD undef = .pointer (some ⟨w0s, 0, none⟩) := hb 3
                have cc0 := (HF.out.wr hT.1 HNF.out).cell 0
                have cc1 := (HF.out.wr hT.1 HNF.out).cell 1
                refine phx_run (.agg #[.int .u64 (p : Int), .int .u64 (rt : Int)]) ?_ (Tw.of_below (Below.refl _ _)) rfl
                clear hb hdep hold
                go_simp
              · intro x w1 bA hT hdep hold hb
                refine .inl ⟨trivial, ?_⟩
                have e8 : bA.tmps[8]?.getD undef = .slice (some ⟨gE, 0, none⟩) h h := hb 8
                refine phx_run (.slice (some ⟨gE, 0, none⟩) h h) ?_ (Tw.of_below (Below.refl _ _)) rfl
                clear hb hdep hold
                go_simp
              · intro x w1 bA hT hdep hold hb
                refine .inl ⟨trivial, ?_⟩
                have e14 : bA.tmps[14]?.getD undef = .int .i64 (ix : Int) := hb 14
                refine phx_run (.int .i64 (ix : Int)) ?_ (Tw.of_below (Below.refl _ _)) rfl
                clear hb hdep hold
                go_simp
              · intro x w1 bA hT hdep hold hb
                refine .inl ⟨trivial, ?_⟩
                have e92 : bA.tmps[92]?.getD undef = .slice (some ⟨gE, 0, none⟩) h h := (hb 92).trans (hdep 14 (by decide))
                have e93 : bA.tmps[93]?.getD undef = .int .i64 (ix : Int) := (hb 93).trans (hdep 15 (by decide))
                have zz := HZ.out
                refine phx_run (.pointer (some ⟨gE, ix, none⟩)) ?_ (Tw.of_below (Below.refl _ _)) rfl
                clear hb hdep hold
                go_simp
              · intro x w1 bA hT hdep hold hb
                refine .inl ⟨trivial, ?_⟩
                have e94 : bA.tmps[94]?.getD undef = .pointer (some ⟨gE, ix, none⟩) := (hb 94).trans (hdep 16 (by decide))
                have cc := (HGE.out.wr hT.1 HNE.out).cell ix
                rw [uc_get (HLI.out)] at cc
                rw [HEV.out] at cc
                refine phx_run (.int .u64 ((ev : Nat) : Int)) ?_ (Tw.of_below (Below.refl _ _)) rfl
                clear hb hdep hold
                go_simp
              · intro x w1 bA hT hdep hold hb
                refine .inl ⟨trivial, ?_⟩
                have e15 : bA.tmps[15]?.getD undef = .int .u64 ((xv : Nat) : Int) := hb 15
                refine phx_run (.int .u64 ((xv : Nat) : Int)) ?_ (Tw.of_below (Below.refl _ _)) rfl
                clear hb hdep hold
                go_simp
              · intro x w1 bA hT hdep hold hb
                refine .inl ⟨trivial, ?_⟩
                have e91 : bA.tmps[91]?.getD undef = .agg #[.int .u64 (p : Int), .int .u64 (rt : Int)] := (hb 91).trans (hdep 13 (by decide))
                have e95 : bA.tmps[95]?.getD undef = .int .u64 ((ev : Nat) : Int) := (hb 95).trans (hdep 17 (by decide))
                have e96 : bA.tmps[96]?.getD undef = .int .u64 ((xv : Nat) : Int) := (hb 96).trans (hdep 18 (by decide))
                refine phx_call ?_ ((HSB.out w1).mono fun e w' h => ⟨_, h.1, Tw.of_below h.2, rfl⟩)
                clear hb hdep hold
                go_simp
              · intro x w1 bA hT hdep hold hb
                refine .inl ⟨trivial, ?_⟩
                have e78 : bA.tmps[78]?.getD undef = .slice (some ⟨gv, 0, none⟩) (2 * h) (2 * h) := (hb 78).trans (hdep 0 (by decide))
                have e79 : bA.tmps[79]?.getD undef = .int .i64 (ix : Int) := (hb 79).trans (hdep 1 (by decide))
                have zz := HZ3.out
                refine phx_run (.pointer (some ⟨gv, ix, none⟩)) ?_ (Tw.of_below (Below.refl _ _)) rfl
                clear hb hdep hold
                go_simp
              · intro x w1 bA hT hdep hold hb
                refine .inl ⟨trivial, ?_⟩
                have e90 : bA.tmps[90]?.getD undef = .int .u64 ((sa : Nat) : Int) := (hb 90).trans (hdep 12 (by decide))
                have e98 : bA.tmps[98]?.getD undef = .pointer (some ⟨gv, ix, none⟩) := (hb 98).trans (hdep 20 (by decide))
                obtain ⟨vv, cco, ccf⟩ := hT.cellw (k := ix) HGV.out (by rw [uc_length, filH_length]; have := HIH.out; omega)
                refine phx_skip (w1.setCell ⟨gv, ix, none⟩ (.int .u64 (sa : Nat))) ?_ rfl (Tw.st1 HIJ.out) (hT.new HGV.out (by rw [uc_length, filH_length]; have := HIH.out; omega) _)
                clear hb hdep hold
                go_simp
              · intro x w1 bA hT hdep hold hb
                refine .inl ⟨trivial, ?_⟩
                have e80 : bA.tmps[80]?.getD undef = .slice (some ⟨gv, 0, none⟩) (2 * h) (2 * h) := (hb 80).trans (hdep 2 (by decide))
                have e83 : bA.tmps[83]?.getD undef = .int .i64 ((ix : Int) + (h : Int)) := (hb 83).trans (hdep 5 (by decide))
                have zz := HZ4.out
                have zt := HZ5.out
                have z0 := HZ6.out
                refine phx_run (.pointer (some ⟨gv, ix + h, none⟩)) ?_ (Tw.of_below (Below.refl _ _)) rfl
                clear hb hdep hold
                go_simp
              · intro x w1 bA hT hdep hold hb
                refine .inl ⟨trivial, ?_⟩
                have e97 : bA.tmps[97]?.getD undef = .int .u64 ((sb : Nat) : Int) := (hb 97).trans (hdep 19 (by decide))
                have e99 : bA.tmps[99]?.getD undef = .pointer (some ⟨gv, ix + h, none⟩) := (hb 99).trans (hdep 22 (by decide))
                obtain ⟨vv, cco, ccf⟩ := hT.cellw (k := ix + h) HGV.out (by rw [uc_length, filH_length]; have := HIH.out; omega)
                refine phx_skip (w1.setCell ⟨gv, ix + h, none⟩ (.int .u64 (sb : Nat))) ?_ rfl (Tw.st2 HIJ.out) (hT.new HGV.out (by rw [uc_length, filH_length]; have := HIH.out; omega) _)
                clear hb hdep hold
                go_simp
              intro x w1 hT hall
              have x0e : x 0 = .slice (some ⟨gv, 0, none⟩) (2 * h) (2 * h) := hall 0 (by decide)
              have x1e : x 1 = .int .i64 (ix : Int) := hall 1 (by decide)
              have x2e : x 2 = .slice (some ⟨gv, 0, none⟩) (2 * h) (2 * h) := hall 2 (by decide)
              have x3e : x 3 = .int .i64 (ix : Int) := hall 3 (by decide)
              have x4e : x 4 = .int .i64 (h : Int) := hall 4 (by decide)
              have x5e : x 5 = .int .i64 ((ix : Int) + (h : Int)) := hall 5 (by decide)
              have x6e : x 6 = .agg #[.int .u64 (p : Int), .int .u64 (rt : Int)] := hall 6 (by decide)
              have x7e : x 7 = .slice (some ⟨gE, 0, none⟩) h h := hall 7 (by decide)
              have x8e : x 8 = .int .i64 (ix : Int) := hall 8 (by decide)
              have x9e : x 9 = .pointer (some ⟨gE, ix, none⟩) := hall 9 (by decide)
              have x10e : x 10 = .int .u64 ((ev : Nat) : Int) := hall 10 (by decide)
              have x11e : x 11 = .int .u64 ((xv : Nat) : Int) := hall 11 (by decide)
              have x12e : x 12 = .int .u64 ((sa : Nat) : Int) := hall 12 (by decide)
              have x13e : x 13 = .agg #[.int .u64 (p : Int), .int .u64 (rt : Int)] := hall 13 (by decide)
              have x14e : x 14 = .slice (some ⟨gE, 0, none⟩) h h := hall 14 (by decide)
              have x15e : x 15 = .int .i64 (ix : Int) := hall 15 (by decide)
              have x16e : x 16 = .pointer (some ⟨gE, ix, none⟩) := hall 16 (by decide)
              have x17e : x 17 = .int .u64 ((ev : Nat) : Int) := hall 17 (by decide)
              have x18e : x 18 = .int .u64 ((xv : Nat) : Int) := hall 18 (by decide)
              have x19e : x 19 = .int .u64 ((sb : Nat) : Int) := hall 19 (by decide)
              have x20e : x 20 = .pointer (some ⟨gv, ix, none⟩) := hall 20 (by decide)
              have pst21 := hall 21 (by decide)
              have x22e : x 22 = .pointer (some ⟨gv, ix + h, none⟩) := hall 22 (by decide)
              have pst23 := hall 23 (by decide)
              simp only [putAll, dstOf, Act.put, List.map_cons, List.map_nil, List.setIfInBounds_toArray, List.set_cons_succ, List.set_cons_zero, Nat.reduceAdd, x0e, x1e, x2e, x3e, x4e, x5e, x6e, x7e, x8e, x9e, x10e, x11e, x12e, x13e, x14e, x15e, x16e, x17e, x18e, x19e, x20e, x22e]
              clear x0e x1e x2e x3e x4e x5e x6e x7e x8e x9e x10e x11e x12e x13e x14e x15e x16e x17e x18e x19e x20e x22e hall
              have hst1 : At_ gv ix (.int .u64 (sa : Nat)) w1 := pst21
              have hst2 : At_ gv (ix + h) (.int .u64 (sb : Nat)) w1 := pst23
              clear pst21 pst23
              have hF0 := HF.out.wr hT.1 HNF.out
              have HW9 := Lib.hid (HW8.out.trans hT.1)
              have HGV2 := Lib.hid (show Arr w1 gv 115 (uc (filH h F (ix + 1))) by
                rw [← HFI.out.1] at hT hst1
                rw [← HFI.out.2] at hT hst2
                exact Tw.end_ HIH.out hT HGV.out hst1 hst2)
              clear hT hst1 hst2 HF HGE HGV HW8
              have y0 := hF0.cell 0
              have y1 := hF0.cell 1
              clear hF0
              go_wp2_with (go_at_call 95; refine (HM2.out _).mono ?_; rintro e w' ⟨rfl, hbm⟩)
              go_roundg (h - (ix + 1))
              case measure => omega
              case rel => exact ⟨ix + 1, by omega, rfl, HTW.out, by go_num, HGV2.out.below hbm HGV2.out.lt, HW9.out.trans (Wr.of_below hbm)⟩
            · have z1 : ¬ ((ix : Int) < (h : Int)) := by omega
              have e3 : ix = h := by omega
              rw [e3, filH_all, ← HTR.out] at av
              clear e3
              have HAV := Lib.hid av
              have HO := Lib.hid ho
              clear av ho
              go_wp2_with fail
              go_ret
              have hw0 := HW0.out
              have hs6 := HS6.out
              exact ⟨_, rfl, ⟨gv, rfl, by omega, HAV.out⟩, by rw [hw0]; exact HB7.out.trans (HO.out.below (by have := HB7.out.size; omega) (fun q hq => by rw [List.mem_singleton.1 hq]; exact hs6))⟩
end Go.Proofs.YtbkgpfalljgdcaaGreatDoor
