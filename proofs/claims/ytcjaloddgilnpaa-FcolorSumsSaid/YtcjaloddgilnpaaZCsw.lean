/- intmatrix.isolate's closure for the rows. -/
/- intmatrix.isolate's closure for the columns. -/
import Derived.Test.YtcjaloddgilnpaaZTab
import Derived.BigRegion
namespace Go.Proofs.Ytcjaloddgilnpaa
open Go.RowKit
set_option linter.unusedVariables false

def rowPre (k i : Nat) (A : List (List Nat)) : List (List Nat) := if ge A i k % ge A k k ≠ 0 then swR A k i else A
def rowStep (m k i : Nat) (A : List (List Nat)) : List (List Nat) :=
  (rowPre k i A).set i (cmb m (ge (rowPre k i A) i k / ge (rowPre k i A) k k) k (gr (rowPre k i A) i).length (gr (rowPre k i A) k) (gr (rowPre k i A) i))
/-- every element is less than m -/
def Ltm (m : Nat) (A : List (List Nat)) : Prop := ∀ i j, ge A i j < m
theorem rowPre_length (k i : Nat) (A : List (List Nat)) : (rowPre k i A).length = A.length := by unfold rowPre; split <;> simp [swR_length]
theorem Ltm.swR {m : Nat} {A : List (List Nat)} (h : Ltm m A) {i k : Nat} (hi : i < A.length) (hk : k < A.length) : Ltm m (swR A i k) := by
  intro x y
  unfold ge
  rw [gr_swR hi hk]
  split
  · exact h i y
  · split
    · exact h k y
    · exact h x y
theorem Ltm.rowPre {m : Nat} {A : List (List Nat)} (h : Ltm m A) {i k : Nat} (hi : i < A.length) (hk : k < A.length) : Ltm m (rowPre k i A) := by
  unfold Go.Proofs.Ytcjaloddgilnpaa.rowPre; split
  · exact h.swR hk hi
  · exact h
theorem rowPre_pos {A : List (List Nat)} {i k : Nat} (hi : i < A.length) (hk : k < A.length) (h0 : ge A k k ≠ 0) : ge (rowPre k i A) k k ≠ 0 := by
  unfold rowPre
  split
  · next h =>
    unfold ge
    rw [gr_swR hk hi]
    split
    · next e => exact h0
    · rw [if_pos rfl]
      intro q
      apply h
      show gn (gr A i) k % _ = 0
      rw [q, Nat.zero_mod]
  · exact h0
/-- the boxes of isolate's closures -/
structure Bx (w : World) (ab kb mb R n k m : Nat) : Prop where
  a : Arr w ab 79 [.slice (some ⟨R, 0, none⟩) n n]
  k : Arr w kb 3 [.int .i64 (k : Int)]
  m : Arr w mb 72 [.int .u64 (m : Int)]
theorem Bx.wr {L : List Nat} {w w' : World} {ab kb mb R n k m : Nat} (h : Bx w ab kb mb R n k m) (o : Wr L w w') (ha : ab ∉ L) (hk : kb ∉ L) (hm : mb ∉ L) : Bx w' ab kb mb R n k m := ⟨h.a.wr o ha, h.k.wr o hk, h.m.wr o hm⟩
theorem Bx.drewN {w : World} {ab kb mb R n k m : Nat} (h : Bx w ab kb mb R n k m) (q : Nat) : Bx (w.drewN q) ab kb mb R n k m := ⟨h.a, h.k, h.m⟩
theorem quo_nat (a b : Nat) : (a : Int) / (b : Int) = ((a / b : Nat) : Int) := by simp
attribute [local go_sem ↓] Go.wp_at_zero Go.wp_at_succ
set_option maxHeartbeats 4000000 in
set_option maxRecDepth 100000 in
theorem rowStep_any (ab kb mb R : Nat) (bs : List Nat) (C : Nat) (A : List (List Nat)) (k i m : Nat) (w : World) (h : MU w R bs C A) (hx : Bx w ab kb mb R A.length k m)
    (n1 : ab ∉ R :: bs) (n2 : kb ∉ R :: bs) (n3 : mb ∉ R :: bs) (hA : A.length ≤ 1000) (hC : C ≤ 1000) (hi : i < A.length) (hk : k < A.length) (hkC : k < C) (hik : i ≠ k) (h0 : ge A k k ≠ 0) (hs : Ltm m A) (hm : m ≤ 4611686018427387904) :
    Calls Try.prog 91 #[.int .i64 (i : Nat), .pointer (some ⟨ab, 0, none⟩), .pointer (some ⟨kb, 0, none⟩), .pointer (some ⟨mb, 0, none⟩)] w fun e w' => e = .returned (.tuple #[]) ∧ ∃ bs', MU w' R bs' C (rowStep m k i A) ∧ (∀ b ∈ bs', b ∈ bs) ∧ Wr (R :: bs) w w' := by
  have q1 : ab ≠ R := fun e => n1 (by simp [e])
  have q2 : kb ≠ R := fun e => n2 (by simp [e])
  have q1' : R ≠ ab := q1.symm
  have q2' : R ≠ kb := q2.symm
  have N1 := Lib.hid n1
  have N2 := Lib.hid n2
  have N3 := Lib.hid n3
  clear n1 n2 n3
  obtain ⟨bi, hbi, hbim⟩ := h.bl hi
  obtain ⟨bk, hbk, hbkm⟩ := h.bl hk
  have y0 := hx.a.cell 0
  have y1 := hx.k.cell 0
  have z1 : (i : Int) < (A.length : Int) := by omega
  have z2 : (k : Int) < (A.length : Int) := by omega
  have z3 : (k : Int) < (C : Int) := by omega
  have c1 := h.cellR hbi
  have c2 := h.cellR hbk
  have c3 := h.cell hbi hkC
  have c4 := h.cell hbk hkC
  have zf1 := h.outer.frozen i
  have zf2 := h.outer.frozen k
  have HS := Lib.hid hs
  have HH := Lib.hid h
  have HX := Lib.hid hx
  have HX0 := Lib.hid hx
  have HBI := Lib.hid hbi
  have HBK := Lib.hid hbk
  have e1 := rem_nat (ge A i k) (ge A k k)
  have z4 : ((ge A k k : Nat) : Int) ≠ 0 := by omega
  have z5 : (((ge A k k : Nat) : Int) == 0) = false := by simp; omega
  have HP := Lib.hid (rowPre_pos hi hk h0)
  have HP1 := Lib.hid (fun q : ge A i k % ge A k k ≠ 0 => show rowPre k i A = swR A k i from if_pos q)
  have HP2 := Lib.hid (fun q : ¬ ge A i k % ge A k k ≠ 0 => show rowPre k i A = A from if_neg q)
  have b1 := hs i k
  have b2 := hs k k
  generalize ge A i k % ge A k k = t at *
  generalize ge A i k = vi at *
  generalize ge A k k = vk at *
  clear h hx hbi hbk hs
  go_enter Try.func91, Try.ntmps91
  go_wp2_with fail
  go_quiet (fail)
  go_upto_region 1 with fail
  have HW0 := Lib.hid (fun q => (⟨HH.out.drewN _, (Wr.refl (R :: bs) w).drewN _, HX.out.drewN _⟩ : MU (w.drewN (nq + q)) R bs C A ∧ Wr (R :: bs) w (w.drewN (nq + q)) ∧ Bx (w.drewN (nq + q)) ab kb mb R A.length k m))
  generalize nq = n0 at *
  go_quiet (fail)
  have h1 : MU ((w.drewN n0).drewN nq) R bs C A ∧ Wr (R :: bs) w ((w.drewN n0).drewN nq) ∧ Bx ((w.drewN n0).drewN nq) ab kb mb R A.length k m := by rw [drewN_add]; exact HW0.out nq
  generalize (w.drewN n0).drewN nq = W at *
  obtain ⟨h1, h2, h3⟩ := h1
  clear HW0 HH HX c1 c2 c3 c4 zf1 zf2 y0 y1
  have y0 := h3.a.cell 0
  have y1 := h3.k.cell 0
  have c1 := h1.cellR HBI.out
  have c2 := h1.cellR HBK.out
  have zf1 := h1.outer.frozen i
  have zf2 := h1.outer.frozen k
  have HH := Lib.hid h1
  have HWW := Lib.hid h2
  have HX := Lib.hid h3
  clear h1 h2 h3
  go_upto_if 32 with fail
  go_cut [5, 6] (fun s5 s6 wx => ∃ bs1 p q, s5 = .slice (some ⟨p, 0, none⟩) C C ∧ s6 = .slice (some ⟨q, 0, none⟩) C C ∧ bs1[i]? = some p ∧ bs1[k]? = some q ∧ MU wx R bs1 C (rowPre k i A) ∧ (∀ b ∈ bs1, b ∈ bs) ∧ Wr (R :: bs) w wx)
  case first =>
    by_cases ht : t = 0
    · have z6 : ((t : Int) != 0) = false := by simp; omega
      have HT := Lib.hid ht
      clear ht
      go_wp2_with fail
      go_meet
      exact ⟨bs, bi, bk, rfl, rfl, HBI.out, HBK.out, by rw [HP2.out (fun q => q HT.out)]; exact HH.out, fun _ h => h, HWW.out⟩
    · have z6 : ((t : Int) != 0) = true := by simp; omega
      have HS3 := Lib.hid (swap_all HH.out HBK.out HBI.out)
      have HL1 := Lib.hid (show i < bs.length ∧ k < bs.length from ⟨by rw [HH.out.len]; exact hi, by rw [HH.out.len]; exact hk⟩)
      go_upto_region 3 with fail
      go_region
      go_wp2_with fail
      go_meet
      have e2 := HS3.out
      refine ⟨_, bk, bi, rfl, rfl, ?_, ?_, by rw [HP1.out ht]; exact e2.1, e2.2.1, HWW.out.trans e2.2.2⟩
      · rw [List.getElem?_set]; simp [HL1.out.1]
      · rw [List.getElem?_set, if_neg hik, List.getElem?_set]; simp [HL1.out.2]
  case rest =>
    clear y0 y1 c1 c2 zf1 zf2
    obtain ⟨bs1, p, q, rfl, rfl, hp, hq, h1, hs1, hw1⟩ := hcut
    obtain ⟨B, hB⟩ : ∃ B, B = rowPre k i A := ⟨_, rfl⟩
    have HST := Lib.hid (show rowStep m k i A = B.set i (cmb m (ge B i k / ge B k k) k (gr B i).length (gr B k) (gr B i)) by rw [hB]; rfl)
    have HLB := Lib.hid (show B.length = A.length by rw [hB]; exact rowPre_length _ _ _)
    have HSB := Lib.hid (show Ltm m B by rw [hB]; exact HS.out.rowPre hi hk)
    rw [← hB] at h1 HP
    clear hB HP1 HP2 HS HBI HBK HH HX HWW
    have h3 := HX0.out.wr hw1 N1.out N2.out N3.out
    have y1 := h3.k.cell 0
    have c3 := h1.cell hp hkC
    have c4 := h1.cell hq hkC
    have e1 := quo_nat (ge B i k) (ge B k k)
    have HCB := Lib.hid (show ge B i k < m ∧ ge B k k < m from ⟨HSB.out i k, HSB.out k k⟩)
    have hvl : ge B i k / ge B k k < m := Nat.lt_of_le_of_lt (Nat.div_le_self _ _) HCB.out.1
    have hpq : p ≠ q := h1.ne hp hq hik
    have HM := Lib.hid h1
    have HWX := Lib.hid hw1
    have HX := Lib.hid h3
    have HPI := Lib.hid hp
    have HQK := Lib.hid hq
    have hp0 := HP.out
    have z6 : ((ge B k k : Nat) : Int) ≠ 0 := by omega
    have z7 : (((ge B k k : Nat) : Int) == 0) = false := by simp; omega
    have hkk := HCB.out.1
    have hkk2 := HCB.out.2
    obtain ⟨v, hv⟩ : ∃ v, v = ge B i k / ge B k k := ⟨_, rfl⟩
    rw [← hv] at HST e1 hvl
    clear hv
    generalize ge B i k = ui at *
    generalize ge B k k = uk at *
    clear h1 hw1 h3 hp hq
    go_upto_region 4 with fail
    go_quiet (fail)
    go_upto_region 6 with fail
    have h1 : MU (wc.drewN nq) R bs1 C B ∧ Wr (R :: bs) w (wc.drewN nq) ∧ Bx (wc.drewN nq) ab kb mb R A.length k m := ⟨HM.out.drewN _, HWX.out.drewN _, HX.out.drewN _⟩
    generalize wc.drewN nq = W0 at *
    clear HM HWX HX e1 y1 c3 c4
    obtain ⟨h1, h2, h3⟩ := h1
    have HM := Lib.hid h1
    have HWX := Lib.hid h2
    have HX := Lib.hid h3
    have hpb : p ∈ bs := hs1 p (List.mem_of_getElem? HPI.out)
    have nm : mb ≠ p := fun e => N3.out (by rw [e]; simp [hpb])
    have HCP := Lib.hid (show (gr B i).length = C from h1.cols i (h1.ilt HPI.out))
    have HCQ := Lib.hid (show (gr B k).length = C from h1.cols k (h1.ilt HQK.out))
    have HRP := Lib.hid (h1.row i p HPI.out)
    have HRQ := Lib.hid (h1.row k q HQK.out)
    clear h1 h2 h3
    go_wp2_with fail
    go_loopg [8] (C - k) (fun gk s8 wr => ∃ x : Nat, k ≤ x ∧ x ≤ C ∧ gk = C - x ∧ s8 = .int .i64 (x : Int) ∧ Arr wr p 72 (uc (cmb m v k x (gr B k) (gr B i))) ∧ Onl p W0 wr)
    case atStart => exact ⟨k, Nat.le_refl _, by omega, rfl, rfl, by rw [cmb_start]; exact HRP.out, Onl.refl _ _⟩
    case round =>
      obtain ⟨x, hkx, hx, rfl, rfl, hb, ho⟩ := hrel
      by_cases hlt : x < C
      · have z1' : (x : Int) < (C : Int) := by omega
        have hxr : x < (gr B i).length := by rw [HCP.out]; exact hlt
        have zr := (hb.cell x).trans (uc_get (by rw [cmb_length]; exact hxr))
        rw [gn_cmb_at hxr] at zr
        have zf := hb.frozen x
        have zq := ((HRQ.out.onl ho hpq.symm).cell x).trans (uc_get (by rw [HCQ.out]; exact hlt))
        have zm : wr.cell? ⟨mb, 0, none⟩ = some (.int .u64 (m : Int)) := (ho.cell (p := ⟨mb, 0, none⟩) nm).trans (HX.out.m.cell 0)
        have d1 : gn (gr B i) x < m := HSB.out i x
        have d2 : gn (gr B k) x < m := HSB.out k x
        have HMM := Lib.hid (fun W => mulMod_any v (gn (gr B k) x) m W (by omega) (by omega) (by omega) (by omega))
        have hml : v * gn (gr B k) x % m < m := Nat.mod_lt _ (by omega)
        have HSS := Lib.hid (fun W => subMod_any (gn (gr B i) x) (v * gn (gr B k) x % m) m W d1 hml hm)
        have HN := Lib.hid (fun (W : World) (hW : Onl p wr W) (ha : Arr W p 72 (uc (cmb m v k x (gr B k) (gr B i)))) => (show Arr (W.setCell ⟨p, x, none⟩ (.int .u64 (((gn (gr B i) x + (m - v * gn (gr B k) x % m)) % m : Nat) : Int))) p 72 (uc (cmb m v k (x + 1) (gr B k) (gr B i))) ∧ Onl p W0 (W.setCell ⟨p, x, none⟩ (.int .u64 (((gn (gr B i) x + (m - v * gn (gr B k) x % m)) % m : Nat) : Int))) from by
          rw [← cmb_step hkx hxr, ← uc_set]
          exact ⟨ha.set x _, (ho.trans hW).setCell x _⟩))
        generalize v * gn (gr B k) x % m = pr at *
        generalize gn (gr B k) x = vq at *
        generalize (gn (gr B i) x + (m - pr)) % m = vn at *
        generalize gn (gr B i) x = vr at *
        have HB := Lib.hid hb
        clear hb ho
        go_upto_region 8 with fail
        have nm' : p ≠ mb := nm.symm
        have zpq : q ≠ p := hpq.symm
        -- TABLE
        refine wp_region_table 16 (by kernel_rfl) (by kernel_rfl) (by kernel_rfl) (by kernel_rfl) (by kernel_rfl) rfl (by kernel_rfl) (fun i => [Value.slice (some ⟨p, 0, none⟩) C C, Value.int .i64 (x : Int), Value.slice (some ⟨p, 0, none⟩) C C, Value.int .i64 (x : Int), Value.pointer (some ⟨p, x, none⟩), Value.int .u64 (vr : Int), Value.int .u64 (v : Int), Value.slice (some ⟨q, 0, none⟩) C C, Value.int .i64 (x : Int), Value.pointer (some ⟨q, x, none⟩), Value.int .u64 (vq : Int), Value.int .u64 (m : Int), Value.int .u64 (pr : Int), Value.int .u64 (m : Int), Value.int .u64 (vn : Int), Value.pointer (some ⟨p, x, none⟩), undef].getD i undef) (fun W => W.setCell ⟨p, x, none⟩ (.int .u64 (vn : Int))) ⟨?_, ?_, ?_, ?_, ?_, ?_, ?_, ?_, ?_, ?_, ?_, ?_, ?_, ?_, ?_, ?_, ?_, trivial⟩ ?_
        · intro m0 b hb
          have e5 : b.tmps[5]?.getD undef = Value.slice (some ⟨p, 0, none⟩) C C := hb 5 rfl
          refine tab_run (by decide) (Value.slice (some ⟨p, 0, none⟩) C C) rfl ?_
          clear hb
          go_simp
        · intro m0 b hb
          have e8 : b.tmps[8]?.getD undef = Value.int .i64 (x : Int) := hb 8 rfl
          refine tab_run (by decide) (Value.int .i64 (x : Int)) rfl ?_
          clear hb
          go_simp
        · intro m0 b hb
          have e5 : b.tmps[5]?.getD undef = Value.slice (some ⟨p, 0, none⟩) C C := hb 5 rfl
          refine tab_run (by decide) (Value.slice (some ⟨p, 0, none⟩) C C) rfl ?_
          clear hb
          go_simp
        · intro m0 b hb
          have e8 : b.tmps[8]?.getD undef = Value.int .i64 (x : Int) := hb 8 rfl
          refine tab_run (by decide) (Value.int .i64 (x : Int)) rfl ?_
          clear hb
          go_simp
        · intro m0 b hb
          have e61 : b.tmps[61]?.getD undef = Value.slice (some ⟨p, 0, none⟩) C C := hb 61 rfl
          have e62 : b.tmps[62]?.getD undef = Value.int .i64 (x : Int) := hb 62 rfl
          refine tab_run (by decide) (Value.pointer (some ⟨p, x, none⟩)) rfl ?_
          clear hb
          go_simp
        · intro m0 b hb
          have e63 : b.tmps[63]?.getD undef = Value.pointer (some ⟨p, x, none⟩) := hb 63 rfl
          refine tab_run (by decide) (Value.int .u64 (vr : Int)) rfl ?_
          clear hb
          go_simp
        · intro m0 b hb
          have e7 : b.tmps[7]?.getD undef = Value.int .u64 (v : Int) := hb 7 rfl
          refine tab_run (by decide) (Value.int .u64 (v : Int)) rfl ?_
          clear hb
          go_simp
        · intro m0 b hb
          have e6 : b.tmps[6]?.getD undef = Value.slice (some ⟨q, 0, none⟩) C C := hb 6 rfl
          refine tab_run (by decide) (Value.slice (some ⟨q, 0, none⟩) C C) rfl ?_
          clear hb
          go_simp
        · intro m0 b hb
          have e8 : b.tmps[8]?.getD undef = Value.int .i64 (x : Int) := hb 8 rfl
          refine tab_run (by decide) (Value.int .i64 (x : Int)) rfl ?_
          clear hb
          go_simp
        · intro m0 b hb
          have e66 : b.tmps[66]?.getD undef = Value.slice (some ⟨q, 0, none⟩) C C := hb 66 rfl
          have e67 : b.tmps[67]?.getD undef = Value.int .i64 (x : Int) := hb 67 rfl
          refine tab_run (by decide) (Value.pointer (some ⟨q, x, none⟩)) rfl ?_
          clear hb
          go_simp
        · intro m0 b hb
          have e68 : b.tmps[68]?.getD undef = Value.pointer (some ⟨q, x, none⟩) := hb 68 rfl
          refine tab_run (by decide) (Value.int .u64 (vq : Int)) rfl ?_
          clear hb
          go_simp
        · intro m0 b hb
          have e3 : b.tmps[3]?.getD undef = Value.pointer (some ⟨mb, 0, none⟩) := hb 3 rfl
          refine tab_run (by decide) (Value.int .u64 (m : Int)) rfl ?_
          clear hb
          go_simp
        · intro m0 b hb
          have e65 : b.tmps[65]?.getD undef = Value.int .u64 (v : Int) := hb 65 rfl
          have e69 : b.tmps[69]?.getD undef = Value.int .u64 (vq : Int) := hb 69 rfl
          have e70 : b.tmps[70]?.getD undef = Value.int .u64 (m : Int) := hb 70 rfl
          refine tab_call (by decide) (Value.int .u64 (pr : Int)) rfl ?_ (HMM.out _)
          clear hb
          go_simp
        · intro m0 b hb
          have e3 : b.tmps[3]?.getD undef = Value.pointer (some ⟨mb, 0, none⟩) := hb 3 rfl
          refine tab_run (by decide) (Value.int .u64 (m : Int)) rfl ?_
          clear hb
          go_simp
        · intro m0 b hb
          have e64 : b.tmps[64]?.getD undef = Value.int .u64 (vr : Int) := hb 64 rfl
          have e71 : b.tmps[71]?.getD undef = Value.int .u64 (pr : Int) := hb 71 rfl
          have e72 : b.tmps[72]?.getD undef = Value.int .u64 (m : Int) := hb 72 rfl
          refine tab_call (by decide) (Value.int .u64 (vn : Int)) rfl ?_ ((HSS.out _).mono fun e w' ⟨h, hw⟩ => ⟨0, h, hw.symm⟩)
          clear hb
          go_simp
        · intro m0 b hb
          have e59 : b.tmps[59]?.getD undef = Value.slice (some ⟨p, 0, none⟩) C C := hb 59 rfl
          have e60 : b.tmps[60]?.getD undef = Value.int .i64 (x : Int) := hb 60 rfl
          refine tab_run (by decide) (Value.pointer (some ⟨p, x, none⟩)) rfl ?_
          clear hb
          go_simp
        · intro m0 b hb
          have e73 : b.tmps[73]?.getD undef = Value.int .u64 (vn : Int) := hb 73 rfl
          have e74 : b.tmps[74]?.getD undef = Value.pointer (some ⟨p, x, none⟩) := hb 74 rfl
          refine tab_store undef rfl _ rfl ?_ rfl
          clear hb
          go_simp
        intro m0
        simp only [putAll, dstOf, Act.put, List.map_cons, List.map_nil, List.setIfInBounds_toArray, List.set_cons_succ, List.set_cons_zero, Nat.reduceAdd, List.getD_cons_succ, List.getD_cons_zero]
        -- END
        go_wp2_with fail
        all_goals
          go_roundg (C - (x + 1))
          case measure => omega
          case rel => exact ⟨x + 1, by omega, by omega, rfl, by go_num, HN.out _ ((Onl.refl _ _).drewN _) HB.out⟩
      · have z1' : ¬ ((x : Int) < (C : Int)) := by omega
        have hxn : x = C := by omega
        have HXN := Lib.hid hxn
        clear hxn
        go_wp2_with fail
        go_end0
        refine ⟨rfl, bs1, ?_, hs1, HWX.out.trans (Wr.of_onl ho (by simp [hpb]))⟩
        rw [HST.out]
        refine HM.out.setRow HPI.out ho (by rw [cmb_length, HCP.out]) ?_
        rw [HCP.out, ← HXN.out]; exact hb
end Go.Proofs.Ytcjaloddgilnpaa

namespace Go.Proofs.Ytcjaloddgilnpaa
open Go.RowKit
set_option linter.unusedVariables false

def colPre (k j : Nat) (A : List (List Nat)) : List (List Nat) := if ge A k j % ge A k k ≠ 0 then updR A k A.length (swp k j) else A
def colF (m k j by_ : Nat) (r : List Nat) : List Nat := r.set j ((gn r j + (m - by_ * gn r k % m)) % m)
def colStep (m k j : Nat) (A : List (List Nat)) : List (List Nat) := updR (colPre k j A) k (colPre k j A).length (colF m k j (ge (colPre k j A) k j / ge (colPre k j A) k k))
theorem colPre_length (k j : Nat) (A : List (List Nat)) : (colPre k j A).length = A.length := by unfold colPre; split <;> simp [updR_length]
/-- all rows have C columns -/
def Cl (C : Nat) (A : List (List Nat)) : Prop := ∀ i, i < A.length → (gr A i).length = C
theorem gn_out {r : List Nat} {j : Nat} (h : r.length ≤ j) : gn r j = 0 := by unfold gn; rw [List.getElem?_eq_none h]; rfl
theorem Ltm.updR {m C : Nat} {A : List (List Nat)} (h : Ltm m A) (hc : Cl C A) (hm : 0 < m) {lo hi : Nat} {f : List Nat → List Nat} (hf : ∀ r, r.length = C → (∀ j, gn r j < m) → ∀ j, gn (f r) j < m) : Ltm m (updR A lo hi f) := by
  intro x y
  unfold ge
  by_cases hx : x < A.length
  · rw [gr_updR hx]
    split
    · exact hf _ (hc x hx) (fun j => h x j) y
    · exact h x y
  · rw [gr_out (by rw [updR_length]; omega), gn_out (by simp)]; exact hm
theorem Cl.updR {C : Nat} {A : List (List Nat)} (hc : Cl C A) {lo hi : Nat} {f : List Nat → List Nat} (hf : ∀ r, r.length = C → (f r).length = C) : Cl C (updR A lo hi f) := by
  intro i hi'
  rw [updR_length] at hi'
  rw [gr_updR hi']
  split
  · exact hf _ (hc i hi')
  · exact hc i hi'
theorem swp_small {m C j k : Nat} (hj : j < C) (hk : k < C) : ∀ r : List Nat, r.length = C → (∀ j, gn r j < m) → ∀ y, gn (swp j k r) y < m := by
  intro r hr h y
  rw [gn_swp (by omega) (by omega)]
  split
  · exact h j
  · split
    · exact h k
    · exact h y
theorem Ltm.colPre {m C : Nat} {A : List (List Nat)} (h : Ltm m A) (hc : Cl C A) (hm : 0 < m) {j k : Nat} (hj : j < C) (hk : k < C) : Ltm m (colPre k j A) := by
  unfold Go.Proofs.Ytcjaloddgilnpaa.colPre; split
  · exact h.updR hc hm (swp_small hk hj)
  · exact h
theorem colPre_pos {C : Nat} {A : List (List Nat)} (hc : Cl C A) {j k : Nat} (hk : k < A.length) (hj : j < C) (hkC : k < C) (h0 : ge A k k ≠ 0) : ge (colPre k j A) k k ≠ 0 := by
  unfold colPre
  split
  · next h =>
    unfold ge
    rw [gr_updR hk, if_pos (by omega), gn_swp (by rw [hc k hk]; exact hkC) (by rw [hc k hk]; exact hj)]
    split
    · next e => exact h0
    · rw [if_pos rfl]
      intro q
      apply h
      show gn (gr A k) j % _ = 0
      rw [q, Nat.zero_mod]
  · exact h0
theorem write_row {w w0 : World} {R C : Nat} {bs bs0 : List Nat} {A : List (List Nat)} (h : MU w R bs C A) {r d j : Nat} (hr : bs[r]? = some d) (hj : j < C) (hd : d ∈ bs0) (hw : Wr (R :: bs0) w0 w) (x n : Nat) :
    MU ((w.drewN n).setCell ⟨d, j, none⟩ (.int .u64 (x : Nat))) R bs C (A.set r ((gr A r).set j x)) ∧ Wr (R :: bs0) w0 ((w.drewN n).setCell ⟨d, j, none⟩ (.int .u64 (x : Nat))) :=
  ⟨(h.drewN n).setCell hr hj x, (hw.drewN n).setCell (by simp [hd]) j _⟩
attribute [local go_sem ↓] Go.wp_at_zero Go.wp_at_succ
set_option maxHeartbeats 4000000 in
set_option maxRecDepth 100000 in
theorem colStep_any (ab kb mb R : Nat) (bs : List Nat) (C : Nat) (A : List (List Nat)) (k j m : Nat) (w : World) (h : MU w R bs C A) (hx : Bx w ab kb mb R A.length k m)
    (n1 : ab ∉ R :: bs) (n2 : kb ∉ R :: bs) (n3 : mb ∉ R :: bs) (hA : A.length ≤ 1000) (hC : C ≤ 1000) (hj : j < C) (hk : k < A.length) (hkC : k < C) (hjk : j ≠ k) (h0 : ge A k k ≠ 0) (hs : Ltm m A) (hm : m ≤ 4611686018427387904) :
    Calls Try.prog 92 #[.int .i64 (j : Nat), .pointer (some ⟨ab, 0, none⟩), .pointer (some ⟨kb, 0, none⟩), .pointer (some ⟨mb, 0, none⟩)] w fun e w' => e = .returned (.tuple #[]) ∧ MU w' R bs C (colStep m k j A) ∧ Wr (R :: bs) w w' := by
  have q1 : ab ≠ R := fun e => n1 (by simp [e])
  have q2 : kb ≠ R := fun e => n2 (by simp [e])
  have N1 := Lib.hid n1
  have N2 := Lib.hid n2
  have N3 := Lib.hid n3
  clear n1 n2 n3
  have hm0 : 0 < m := Nat.lt_of_le_of_lt (Nat.zero_le _) (hs 0 0)
  obtain ⟨bk, hbk, hbkm⟩ := h.bl hk
  have y0 := hx.a.cell 0
  have y1 := hx.k.cell 0
  have z2 : (k : Int) < (A.length : Int) := by omega
  have z3 : (k : Int) < (C : Int) := by omega
  have z3' : (j : Int) < (C : Int) := by omega
  have c2 := h.cellR hbk
  have c3 := h.cell hbk hj
  have c4 := h.cell hbk hkC
  have HCL := Lib.hid (show Cl C A from h.cols)
  have HS := Lib.hid hs
  have HH := Lib.hid h
  have HX0 := Lib.hid hx
  have HBK := Lib.hid hbk
  have e1 := rem_nat (ge A k j) (ge A k k)
  have z4 : ((ge A k k : Nat) : Int) ≠ 0 := by omega
  have z5 : (((ge A k k : Nat) : Int) == 0) = false := by simp; omega
  have HP := Lib.hid (colPre_pos (j := j) HCL.out hk hj hkC h0)
  have HP1 := Lib.hid (fun q : ge A k j % ge A k k ≠ 0 => show colPre k j A = updR A k A.length (swp k j) from if_pos q)
  have HP2 := Lib.hid (fun q : ¬ ge A k j % ge A k k ≠ 0 => show colPre k j A = A from if_neg q)
  have b1 := hs k j
  have b2 := hs k k
  generalize ge A k j % ge A k k = t at *
  generalize ge A k j = vi at *
  generalize ge A k k = vk at *
  clear h hx hbk hs
  go_enter Try.func92, Try.ntmps92
  go_wp2_with fail
  go_quiet (fail)
  have h1 : MU (w.drewN nq) R bs C A ∧ Wr (R :: bs) w (w.drewN nq) ∧ Bx (w.drewN nq) ab kb mb R A.length k m := ⟨HH.out.drewN _, (Wr.refl _ _).drewN _, HX0.out.drewN _⟩
  generalize w.drewN nq = W at *
  obtain ⟨h1, h2, h3⟩ := h1
  clear HH c2 c3 c4 y0 y1
  have y0 := h3.a.cell 0
  have y1 := h3.k.cell 0
  have HH := Lib.hid h1
  have HWW := Lib.hid h2
  clear h1 h2 h3
  go_upto_if 25 with fail
  go_cut [] (fun wx => MU wx R bs C (colPre k j A) ∧ Wr (R :: bs) w wx)
  case first =>
    by_cases ht : t = 0
    · have z6 : ((t : Int) != 0) = false := by simp; omega
      have HT := Lib.hid ht
      clear ht
      go_wp2_with fail
      go_meet
      exact ⟨by rw [HP2.out (fun q => q HT.out)]; exact HH.out, HWW.out⟩
    · have z6 : ((t : Int) != 0) = true := by simp; omega
      have HT := Lib.hid ht
      clear ht
      go_wp2_with fail
      generalize hLL : A.length - k = L at *
      have HL := Lib.hid (show k + L = A.length by omega)
      have hL2 : L ≤ 1000 := by omega
      clear hLL
      go_loopg [6, 30] L (fun gk s6 s30 wr => ∃ x : Nat, x ≤ L ∧ gk = L - x ∧ s30 = .int .i64 (x : Int) ∧ MU wr R bs C (updR A k (k + x) (swp k j)) ∧ Wr (R :: bs) w wr)
      case atStart => exact ⟨0, Nat.zero_le _, rfl, rfl, by rw [Nat.add_zero, updR_start]; exact HH.out, HWW.out⟩
      case round =>
        clear HH HWW y0 y1
        obtain ⟨x, hx, rfl, rfl, hmu, hw⟩ := hrel
        by_cases hxt : x < L
        · have z7 : (x : Int) < (L : Int) := by omega
          have hkx : k + x < A.length := by have := HL.out; omega
          obtain ⟨d, hd', hdm⟩ := hmu.bl (i := k + x) (by rw [updR_length]; exact hkx)
          have h3 := HX0.out.wr hw N1.out N2.out N3.out
          have y1 := h3.k.cell 0
          have zr := hmu.cellR hd'
          have zj := hmu.cell hd' hj
          have zk := hmu.cell hd' hkC
          have zf1 := (hmu.row _ d hd').frozen j
          have zf2 := (hmu.row _ d hd').frozen k
          have HM := Lib.hid (swap_row hmu hd' hkC hj hdm hw)
          rw [gr_updR_at, updR_step (Nat.le_add_right _ _) hkx] at HM
          unfold ge at zj zk HM
          rw [gr_updR_at] at zj zk HM
          generalize gn (gr A (k + x)) j = v1 at *
          generalize gn (gr A (k + x)) k = v2 at *
          have nk : kb ≠ d := fun e => N2.out (by rw [e]; simp [hdm])
          have nk' : d ≠ kb := nk.symm
          clear hmu hw hd' h3
          have z8 : ¬ (k = j) := fun q => hjk q.symm
          go_upto_region 4 with fail
          go_region
          go_wp2_with fail
          go_roundg (L - (x + 1))
          case measure => omega
          case rel => exact ⟨x + 1, by omega, rfl, by go_num, HM.out.1, HM.out.2⟩
        · have z7 : ¬ ((x : Int) < (L : Int)) := by omega
          have hxn : x = L := by omega
          subst hxn
          go_wp2_with fail
          go_meet
          refine ⟨?_, hw⟩
          rw [HP1.out HT.out, ← HL.out]; exact hmu
  case rest =>
    clear y0 y1 e1 z4 z5 HH HWW
    obtain ⟨h1, hw1⟩ := hcut
    obtain ⟨B, hB⟩ : ∃ B, B = colPre k j A := ⟨_, rfl⟩
    have HST := Lib.hid (show colStep m k j A = updR B k B.length (colF m k j (ge B k j / ge B k k)) by rw [hB]; rfl)
    have HLB := Lib.hid (show B.length = A.length by rw [hB]; exact colPre_length _ _ _)
    have HSB := Lib.hid (show Ltm m B by rw [hB]; exact HS.out.colPre HCL.out hm0 hj hkC)
    rw [← hB] at h1 HP
    clear hB HP1 HP2 HS
    have h3 := HX0.out.wr hw1 N1.out N2.out N3.out
    have y0 := h3.a.cell 0
    have y1 := h3.k.cell 0
    have c2 := h1.cellR HBK.out
    have c3 := h1.cell HBK.out hj
    have c4 := h1.cell HBK.out hkC
    have e1 := quo_nat (ge B k j) (ge B k k)
    have hb1 := HSB.out k j
    have hb2 := HSB.out k k
    have hvl : ge B k j / ge B k k < m := Nat.lt_of_le_of_lt (Nat.div_le_self _ _) hb1
    have hp0 := HP.out
    have z4 : ((ge B k k : Nat) : Int) ≠ 0 := by omega
    have z5 : (((ge B k k : Nat) : Int) == 0) = false := by simp; omega
    obtain ⟨v, hv⟩ : ∃ v, v = ge B k j / ge B k k := ⟨_, rfl⟩
    rw [← hv] at HST e1 hvl
    clear hv
    generalize ge B k j = ui at *
    generalize ge B k k = uk at *
    have HM := Lib.hid h1
    have HWX := Lib.hid hw1
    clear h1 hw1 h3
    go_upto_region 6 with fail
    go_quiet (fail)
    have h1 : MU (wc.drewN nq) R bs C B ∧ Wr (R :: bs) w (wc.drewN nq) := ⟨HM.out.drewN _, HWX.out.drewN _⟩
    generalize wc.drewN nq = W0 at *
    clear HM HWX e1 y0 y1 c2 c3 c4
    obtain ⟨h1, h2⟩ := h1
    have h3 := HX0.out.wr h2 N1.out N2.out N3.out
    have y0 := h3.a.cell 0
    have y1 := h3.k.cell 0
    have HM := Lib.hid h1
    have HWX := Lib.hid h2
    clear h1 h2 h3
    go_wp2_with fail
    generalize hLL : A.length - k = L at *
    have HL := Lib.hid (show k + L = A.length by omega)
    have hL2 : L ≤ 1000 := by omega
    clear hLL y0 y1
    go_loopg [9, 68] L (fun gk s9 s68 wr => ∃ x : Nat, x ≤ L ∧ gk = L - x ∧ s68 = .int .i64 (x : Int) ∧ MU wr R bs C (updR B k (k + x) (colF m k j v)) ∧ Wr (R :: bs) w wr)
    case atStart => exact ⟨0, Nat.zero_le _, rfl, rfl, by rw [Nat.add_zero, updR_start]; exact HM.out, HWX.out⟩
    case round =>
      clear HM HWX
      obtain ⟨x, hx, rfl, rfl, hmu, hw⟩ := hrel
      by_cases hxt : x < L
      · have z7 : (x : Int) < (L : Int) := by omega
        have hkx : k + x < B.length := by have := HL.out; have := HLB.out; omega
        obtain ⟨d, hd', hdm⟩ := hmu.bl (i := k + x) (by rw [updR_length]; exact hkx)
        have h3 := HX0.out.wr hw N1.out N2.out N3.out
        have y1 := h3.k.cell 0
        have y2 := h3.m.cell 0
        have zr := hmu.cellR hd'
        have zj := hmu.cell hd' hj
        have zk := hmu.cell hd' hkC
        have zf1 := (hmu.row _ d hd').frozen j
        have HM := Lib.hid (fun n => write_row hmu hd' hj hdm hw ((gn (gr B (k + x)) j + (m - v * gn (gr B (k + x)) k % m)) % m) n)
        rw [gr_updR_at] at HM
        rw [show (gr B (k + x)).set j ((gn (gr B (k + x)) j + (m - v * gn (gr B (k + x)) k % m)) % m) = colF m k j v (gr B (k + x)) from rfl, updR_step (Nat.le_add_right _ _) hkx] at HM
        unfold ge at zj zk
        rw [gr_updR_at] at zj zk
        have d1 : gn (gr B (k + x)) j < m := HSB.out _ j
        have d2 : gn (gr B (k + x)) k < m := HSB.out _ k
        have HMM := Lib.hid (fun W => mulMod_any v (gn (gr B (k + x)) k) m W (by omega) (by omega) (by omega) (by omega))
        have hml : v * gn (gr B (k + x)) k % m < m := Nat.mod_lt _ (by omega)
        have HSS := Lib.hid (fun W => subMod_any (gn (gr B (k + x)) j) (v * gn (gr B (k + x)) k % m) m W d1 hml hm)
        generalize v * gn (gr B (k + x)) k % m = pr at *
        generalize gn (gr B (k + x)) k = v2 at *
        generalize (gn (gr B (k + x)) j + (m - pr)) % m = vn at *
        generalize gn (gr B (k + x)) j = v1 at *
        have nk : kb ≠ d := fun e => N2.out (by rw [e]; simp [hdm])
        have nm : mb ≠ d := fun e => N3.out (by rw [e]; simp [hdm])
        clear hmu hw hd' h3
        have z8 : ¬ (k = j) := fun q => hjk q.symm
        go_upto_region 10 with fail
        have nk' : d ≠ kb := nk.symm
        have nm' : d ≠ mb := nm.symm
        -- TABLE
        refine wp_region_table 16 (by kernel_rfl) (by kernel_rfl) (by kernel_rfl) (by kernel_rfl) (by kernel_rfl) rfl (by kernel_rfl) (fun i => [Value.slice (some ⟨d, 0, none⟩) C C, Value.int .i64 (j : Int), Value.slice (some ⟨d, 0, none⟩) C C, Value.int .i64 (j : Int), Value.pointer (some ⟨d, j, none⟩), Value.int .u64 (v1 : Int), Value.int .u64 (v : Int), Value.slice (some ⟨d, 0, none⟩) C C, Value.int .i64 (k : Int), Value.pointer (some ⟨d, k, none⟩), Value.int .u64 (v2 : Int), Value.int .u64 (m : Int), Value.int .u64 (pr : Int), Value.int .u64 (m : Int), Value.int .u64 (vn : Int), Value.pointer (some ⟨d, j, none⟩), undef].getD i undef) (fun W => W.setCell ⟨d, j, none⟩ (.int .u64 (vn : Int))) ⟨?_, ?_, ?_, ?_, ?_, ?_, ?_, ?_, ?_, ?_, ?_, ?_, ?_, ?_, ?_, ?_, ?_, trivial⟩ ?_
        · intro m0 b hb
          have e9 : b.tmps[9]?.getD undef = Value.slice (some ⟨d, 0, none⟩) C C := hb 9 rfl
          refine tab_run (by decide) (Value.slice (some ⟨d, 0, none⟩) C C) rfl ?_
          clear hb
          go_simp
        · intro m0 b hb
          have e0 : b.tmps[0]?.getD undef = Value.int .i64 (j : Int) := hb 0 rfl
          refine tab_run (by decide) (Value.int .i64 (j : Int)) rfl ?_
          clear hb
          go_simp
        · intro m0 b hb
          have e9 : b.tmps[9]?.getD undef = Value.slice (some ⟨d, 0, none⟩) C C := hb 9 rfl
          refine tab_run (by decide) (Value.slice (some ⟨d, 0, none⟩) C C) rfl ?_
          clear hb
          go_simp
        · intro m0 b hb
          have e0 : b.tmps[0]?.getD undef = Value.int .i64 (j : Int) := hb 0 rfl
          refine tab_run (by decide) (Value.int .i64 (j : Int)) rfl ?_
          clear hb
          go_simp
        · intro m0 b hb
          have e74 : b.tmps[74]?.getD undef = Value.slice (some ⟨d, 0, none⟩) C C := hb 74 rfl
          have e75 : b.tmps[75]?.getD undef = Value.int .i64 (j : Int) := hb 75 rfl
          refine tab_run (by decide) (Value.pointer (some ⟨d, j, none⟩)) rfl ?_
          clear hb
          go_simp
        · intro m0 b hb
          have e76 : b.tmps[76]?.getD undef = Value.pointer (some ⟨d, j, none⟩) := hb 76 rfl
          refine tab_run (by decide) (Value.int .u64 (v1 : Int)) rfl ?_
          clear hb
          go_simp
        · intro m0 b hb
          have e7 : b.tmps[7]?.getD undef = Value.int .u64 (v : Int) := hb 7 rfl
          refine tab_run (by decide) (Value.int .u64 (v : Int)) rfl ?_
          clear hb
          go_simp
        · intro m0 b hb
          have e9 : b.tmps[9]?.getD undef = Value.slice (some ⟨d, 0, none⟩) C C := hb 9 rfl
          refine tab_run (by decide) (Value.slice (some ⟨d, 0, none⟩) C C) rfl ?_
          clear hb
          go_simp
        · intro m0 b hb
          have e2 : b.tmps[2]?.getD undef = Value.pointer (some ⟨kb, 0, none⟩) := hb 2 rfl
          refine tab_run (by decide) (Value.int .i64 (k : Int)) rfl ?_
          clear hb
          go_simp
        · intro m0 b hb
          have e79 : b.tmps[79]?.getD undef = Value.slice (some ⟨d, 0, none⟩) C C := hb 79 rfl
          have e80 : b.tmps[80]?.getD undef = Value.int .i64 (k : Int) := hb 80 rfl
          refine tab_run (by decide) (Value.pointer (some ⟨d, k, none⟩)) rfl ?_
          clear hb
          go_simp
        · intro m0 b hb
          have e81 : b.tmps[81]?.getD undef = Value.pointer (some ⟨d, k, none⟩) := hb 81 rfl
          refine tab_run (by decide) (Value.int .u64 (v2 : Int)) rfl ?_
          clear hb
          go_simp
        · intro m0 b hb
          have e3 : b.tmps[3]?.getD undef = Value.pointer (some ⟨mb, 0, none⟩) := hb 3 rfl
          refine tab_run (by decide) (Value.int .u64 (m : Int)) rfl ?_
          clear hb
          go_simp
        · intro m0 b hb
          have e78 : b.tmps[78]?.getD undef = Value.int .u64 (v : Int) := hb 78 rfl
          have e82 : b.tmps[82]?.getD undef = Value.int .u64 (v2 : Int) := hb 82 rfl
          have e83 : b.tmps[83]?.getD undef = Value.int .u64 (m : Int) := hb 83 rfl
          refine tab_call (by decide) (Value.int .u64 (pr : Int)) rfl ?_ (HMM.out _)
          clear hb
          go_simp
        · intro m0 b hb
          have e3 : b.tmps[3]?.getD undef = Value.pointer (some ⟨mb, 0, none⟩) := hb 3 rfl
          refine tab_run (by decide) (Value.int .u64 (m : Int)) rfl ?_
          clear hb
          go_simp
        · intro m0 b hb
          have e77 : b.tmps[77]?.getD undef = Value.int .u64 (v1 : Int) := hb 77 rfl
          have e84 : b.tmps[84]?.getD undef = Value.int .u64 (pr : Int) := hb 84 rfl
          have e85 : b.tmps[85]?.getD undef = Value.int .u64 (m : Int) := hb 85 rfl
          refine tab_call (by decide) (Value.int .u64 (vn : Int)) rfl ?_ ((HSS.out _).mono fun e w' ⟨h, hw⟩ => ⟨0, h, hw.symm⟩)
          clear hb
          go_simp
        · intro m0 b hb
          have e72 : b.tmps[72]?.getD undef = Value.slice (some ⟨d, 0, none⟩) C C := hb 72 rfl
          have e73 : b.tmps[73]?.getD undef = Value.int .i64 (j : Int) := hb 73 rfl
          refine tab_run (by decide) (Value.pointer (some ⟨d, j, none⟩)) rfl ?_
          clear hb
          go_simp
        · intro m0 b hb
          have e86 : b.tmps[86]?.getD undef = Value.int .u64 (vn : Int) := hb 86 rfl
          have e87 : b.tmps[87]?.getD undef = Value.pointer (some ⟨d, j, none⟩) := hb 87 rfl
          refine tab_store undef rfl _ rfl ?_ rfl
          clear hb
          go_simp
        intro m0
        simp only [putAll, dstOf, Act.put, List.map_cons, List.map_nil, List.setIfInBounds_toArray, List.set_cons_succ, List.set_cons_zero, Nat.reduceAdd, List.getD_cons_succ, List.getD_cons_zero]
        -- END
        go_wp2_with fail
        all_goals
          go_roundg (L - (x + 1))
          case measure => omega
          case rel => exact ⟨x + 1, by omega, rfl, by go_num, (HM.out _).1, (HM.out _).2⟩
      · have z7 : ¬ ((x : Int) < (L : Int)) := by omega
        have hxn : x = L := by omega
        subst hxn
        go_wp2_with fail
        go_end0
        refine ⟨rfl, ?_, hw⟩
        rw [HST.out, HLB.out, ← HL.out]; exact hmu
end Go.Proofs.Ytcjaloddgilnpaa
