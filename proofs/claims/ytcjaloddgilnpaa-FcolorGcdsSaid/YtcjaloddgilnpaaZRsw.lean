/- intmatrix.isolate's closure for the rows. -/
import Derived.Test.YtcjaloddgilnpaaZCmb
import Derived.BigRegion
import Derived.Test.YtcjaloddgilnpaaZTab
namespace Go.Proofs.Ytcjaloddgilnpaa
open Go.RowKit
set_option linter.unusedVariables false

def rowPre (k i : Nat) (A : List (List Nat)) : List (List Nat) := if ge A i k % ge A k k ≠ 0 then swR A k i else A
def rowStep (m k i : Nat) (A : List (List Nat)) : List (List Nat) :=
  (rowPre k i A).set i (cmb m (ge (rowPre k i A) i k / ge (rowPre k i A) k k) k (gr (rowPre k i A) i).length (gr (rowPre k i A) k) (gr (rowPre k i A) i))
/-- every element is less than m -/
def Ltm (m : Nat) (A : List (List Nat)) : Prop := ∀ i j, ge A i j < m
theorem rowPre_length (k i : Nat) (A : List (List Nat)) : (rowPre k i A).length = A.length := by unfold rowPre; split <;> simp [swR_length]
theorem Ltm.swR {m : Nat} {A : List (List Nat)} (h : Ltm m A) {i k : Nat} (hi : i < A.length) (hk : k < A.length) : Ltm m (swR A i k) := by
  intro x y
  unfold ge
  rw [gr_swR hi hk]
  split
  · exact h i y
  · split
    · exact h k y
    · exact h x y
theorem Ltm.rowPre {m : Nat} {A : List (List Nat)} (h : Ltm m A) {i k : Nat} (hi : i < A.length) (hk : k < A.length) : Ltm m (rowPre k i A) := by
  unfold Go.Proofs.Ytcjaloddgilnpaa.rowPre; split
  · exact h.swR hk hi
  · exact h
theorem rowPre_pos {A : List (List Nat)} {i k : Nat} (hi : i < A.length) (hk : k < A.length) (h0 : ge A k k ≠ 0) : ge (rowPre k i A) k k ≠ 0 := by
  unfold rowPre
  split
  · next h =>
    unfold ge
    rw [gr_swR hk hi]
    split
    · next e => exact h0
    · rw [if_pos rfl]
      intro q
      apply h
      show gn (gr A i) k % _ = 0
      rw [q, Nat.zero_mod]
  · exact h0
/-- the boxes of isolate's closures -/
structure Bx (w : World) (ab kb mb R n k m : Nat) : Prop where
  a : Arr w ab 79 [.slice (some ⟨R, 0, none⟩) n n]
  k : Arr w kb 3 [.int .i64 (k : Int)]
  m : Arr w mb 72 [.int .u64 (m : Int)]
theorem Bx.wr {L : List Nat} {w w' : World} {ab kb mb R n k m : Nat} (h : Bx w ab kb mb R n k m) (o : Wr L w w') (ha : ab ∉ L) (hk : kb ∉ L) (hm : mb ∉ L) : Bx w' ab kb mb R n k m := ⟨h.a.wr o ha, h.k.wr o hk, h.m.wr o hm⟩
theorem Bx.drewN {w : World} {ab kb mb R n k m : Nat} (h : Bx w ab kb mb R n k m) (q : Nat) : Bx (w.drewN q) ab kb mb R n k m := ⟨h.a, h.k, h.m⟩
theorem quo_nat (a b : Nat) : (a : Int) / (b : Int) = ((a / b : Nat) : Int) := by simp
attribute [local go_sem ↓] Go.wp_at_zero Go.wp_at_succ
set_option maxHeartbeats 4000000 in
set_option maxRecDepth 100000 in
theorem rowStep_any (ab kb mb R : Nat) (bs : List Nat) (C : Nat) (A : List (List Nat)) (k i m : Nat) (w : World) (h : MU w R bs C A) (hx : Bx w ab kb mb R A.length k m)
    (n1 : ab ∉ R :: bs) (n2 : kb ∉ R :: bs) (n3 : mb ∉ R :: bs) (hA : A.length ≤ 1000) (hC : C ≤ 1000) (hi : i < A.length) (hk : k < A.length) (hkC : k < C) (hik : i ≠ k) (h0 : ge A k k ≠ 0) (hs : Ltm m A) (hm : m ≤ 4611686018427387904) :
    Calls Try.prog 91 #[.int .i64 (i : Nat), .pointer (some ⟨ab, 0, none⟩), .pointer (some ⟨kb, 0, none⟩), .pointer (some ⟨mb, 0, none⟩)] w fun e w' => e = .returned (.tuple #[]) ∧ ∃ bs', MU w' R bs' C (rowStep m k i A) ∧ (∀ b ∈ bs', b ∈ bs) ∧ Wr (R :: bs) w w' := by
  have q1 : ab ≠ R := fun e => n1 (by simp [e])
  have q2 : kb ≠ R := fun e => n2 (by simp [e])
  have q1' : R ≠ ab := q1.symm
  have q2' : R ≠ kb := q2.symm
  have N1 := Lib.hid n1
  have N2 := Lib.hid n2
  have N3 := Lib.hid n3
  clear n1 n2 n3
  obtain ⟨bi, hbi, hbim⟩ := h.bl hi
  obtain ⟨bk, hbk, hbkm⟩ := h.bl hk
  have y0 := hx.a.cell 0
  have y1 := hx.k.cell 0
  have z1 : (i : Int) < (A.length : Int) := by omega
  have z2 : (k : Int) < (A.length : Int) := by omega
  have z3 : (k : Int) < (C : Int) := by omega
  have c1 := h.cellR hbi
  have c2 := h.cellR hbk
  have c3 := h.cell hbi hkC
  have c4 := h.cell hbk hkC
  have zf1 := h.outer.frozen i
  have zf2 := h.outer.frozen k
  have HS := Lib.hid hs
  have HH := Lib.hid h
  have HX := Lib.hid hx
  have HX0 := Lib.hid hx
  have HBI := Lib.hid hbi
  have HBK := Lib.hid hbk
  have e1 := rem_nat (ge A i k) (ge A k k)
  have z4 : ((ge A k k : Nat) : Int) ≠ 0 := by omega
  have z5 : (((ge A k k : Nat) : Int) == 0) = false := by simp; omega
  have HP := Lib.hid (rowPre_pos hi hk h0)
  have HP1 := Lib.hid (fun q : ge A i k % ge A k k ≠ 0 => show rowPre k i A = swR A k i from if_pos q)
  have HP2 := Lib.hid (fun q : ¬ ge A i k % ge A k k ≠ 0 => show rowPre k i A = A from if_neg q)
  have b1 := hs i k
  have b2 := hs k k
  generalize ge A i k % ge A k k = t at *
  generalize ge A i k = vi at *
  generalize ge A k k = vk at *
  clear h hx hbi hbk hs
  go_enter Try.func91, Try.ntmps91
  go_wp2_with fail
  go_quiet (fail)
  go_upto_region 1 with fail
  have HW0 := Lib.hid (fun q => (⟨HH.out.drewN _, (Wr.refl (R :: bs) w).drewN _, HX.out.drewN _⟩ : MU (w.drewN (nq + q)) R bs C A ∧ Wr (R :: bs) w (w.drewN (nq + q)) ∧ Bx (w.drewN (nq + q)) ab kb mb R A.length k m))
  generalize nq = n0 at *
  go_quiet (fail)
  have h1 : MU ((w.drewN n0).drewN nq) R bs C A ∧ Wr (R :: bs) w ((w.drewN n0).drewN nq) ∧ Bx ((w.drewN n0).drewN nq) ab kb mb R A.length k m := by rw [drewN_add]; exact HW0.out nq
  generalize (w.drewN n0).drewN nq = W at *
  obtain ⟨h1, h2, h3⟩ := h1
  clear HW0 HH HX c1 c2 c3 c4 zf1 zf2 y0 y1
  have y0 := h3.a.cell 0
  have y1 := h3.k.cell 0
  have c1 := h1.cellR HBI.out
  have c2 := h1.cellR HBK.out
  have zf1 := h1.outer.frozen i
  have zf2 := h1.outer.frozen k
  have HH := Lib.hid h1
  have HWW := Lib.hid h2
  have HX := Lib.hid h3
  clear h1 h2 h3
  go_upto_if 32 with fail
  go_cut [5, 6] (fun s5 s6 wx => ∃ bs1 p q, s5 = .slice (some ⟨p, 0, none⟩) C C ∧ s6 = .slice (some ⟨q, 0, none⟩) C C ∧ bs1[i]? = some p ∧ bs1[k]? = some q ∧ MU wx R bs1 C (rowPre k i A) ∧ (∀ b ∈ bs1, b ∈ bs) ∧ Wr (R :: bs) w wx)
  case first =>
    by_cases ht : t = 0
    · have z6 : ((t : Int) != 0) = false := by simp; omega
      have HT := Lib.hid ht
      clear ht
      go_wp2_with fail
      go_meet
      exact ⟨bs, bi, bk, rfl, rfl, HBI.out, HBK.out, by rw [HP2.out (fun q => q HT.out)]; exact HH.out, fun _ h => h, HWW.out⟩
    · have z6 : ((t : Int) != 0) = true := by simp; omega
      have HS3 := Lib.hid (swap_all HH.out HBK.out HBI.out)
      have HL1 := Lib.hid (show i < bs.length ∧ k < bs.length from ⟨by rw [HH.out.len]; exact hi, by rw [HH.out.len]; exact hk⟩)
      go_upto_region 3 with fail
      go_region
      go_wp2_with fail
      go_meet
      have e2 := HS3.out
      refine ⟨_, bk, bi, rfl, rfl, ?_, ?_, by rw [HP1.out ht]; exact e2.1, e2.2.1, HWW.out.trans e2.2.2⟩
      · rw [List.getElem?_set]; simp [HL1.out.1]
      · rw [List.getElem?_set, if_neg hik, List.getElem?_set]; simp [HL1.out.2]
  case rest =>
    clear y0 y1 c1 c2 zf1 zf2
    obtain ⟨bs1, p, q, rfl, rfl, hp, hq, h1, hs1, hw1⟩ := hcut
    obtain ⟨B, hB⟩ : ∃ B, B = rowPre k i A := ⟨_, rfl⟩
    have HST := Lib.hid (show rowStep m k i A = B.set i (cmb m (ge B i k / ge B k k) k (gr B i).length (gr B k) (gr B i)) by rw [hB]; rfl)
    have HLB := Lib.hid (show B.length = A.length by rw [hB]; exact rowPre_length _ _ _)
    have HSB := Lib.hid (show Ltm m B by rw [hB]; exact HS.out.rowPre hi hk)
    rw [← hB] at h1 HP
    clear hB HP1 HP2 HS HBI HBK HH HX HWW
    have h3 := HX0.out.wr hw1 N1.out N2.out N3.out
    have y1 := h3.k.cell 0
    have c3 := h1.cell hp hkC
    have c4 := h1.cell hq hkC
    have e1 := quo_nat (ge B i k) (ge B k k)
    have HCB := Lib.hid (show ge B i k < m ∧ ge B k k < m from ⟨HSB.out i k, HSB.out k k⟩)
    have hvl : ge B i k / ge B k k < m := Nat.lt_of_le_of_lt (Nat.div_le_self _ _) HCB.out.1
    have hpq : p ≠ q := h1.ne hp hq hik
    have HM := Lib.hid h1
    have HWX := Lib.hid hw1
    have HX := Lib.hid h3
    have HPI := Lib.hid hp
    have HQK := Lib.hid hq
    have hp0 := HP.out
    have z6 : ((ge B k k : Nat) : Int) ≠ 0 := by omega
    have z7 : (((ge B k k : Nat) : Int) == 0) = false := by simp; omega
    have hkk := HCB.out.1
    have hkk2 := HCB.out.2
    obtain ⟨v, hv⟩ : ∃ v, v = ge B i k / ge B k k := ⟨_, rfl⟩
    rw [← hv] at HST e1 hvl
    clear hv
    generalize ge B i k = ui at *
    generalize ge B k k = uk at *
    clear h1 hw1 h3 hp hq
    go_upto_region 4 with fail
    go_quiet (fail)
    go_upto_region 6 with fail
    have h1 : MU (wc.drewN nq) R bs1 C B ∧ Wr (R :: bs) w (wc.drewN nq) ∧ Bx (wc.drewN nq) ab kb mb R A.length k m := ⟨HM.out.drewN _, HWX.out.drewN _, HX.out.drewN _⟩
    generalize wc.drewN nq = W0 at *
    clear HM HWX HX e1 y1 c3 c4
    obtain ⟨h1, h2, h3⟩ := h1
    have HM := Lib.hid h1
    have HWX := Lib.hid h2
    have HX := Lib.hid h3
    have hpb : p ∈ bs := hs1 p (List.mem_of_getElem? HPI.out)
    have nm : mb ≠ p := fun e => N3.out (by rw [e]; simp [hpb])
    have HCP := Lib.hid (show (gr B i).length = C from h1.cols i (h1.ilt HPI.out))
    have HCQ := Lib.hid (show (gr B k).length = C from h1.cols k (h1.ilt HQK.out))
    have HRP := Lib.hid (h1.row i p HPI.out)
    have HRQ := Lib.hid (h1.row k q HQK.out)
    clear h1 h2 h3
    go_wp2_with fail
    go_loopg [8] (C - k) (fun gk s8 wr => ∃ x : Nat, k ≤ x ∧ x ≤ C ∧ gk = C - x ∧ s8 = .int .i64 (x : Int) ∧ Arr wr p 72 (uc (cmb m v k x (gr B k) (gr B i))) ∧ Onl p W0 wr)
    case atStart => exact ⟨k, Nat.le_refl _, by omega, rfl, rfl, by rw [cmb_start]; exact HRP.out, Onl.refl _ _⟩
    case round =>
      obtain ⟨x, hkx, hx, rfl, rfl, hb, ho⟩ := hrel
      by_cases hlt : x < C
      · have z1' : (x : Int) < (C : Int) := by omega
        have hxr : x < (gr B i).length := by rw [HCP.out]; exact hlt
        have zr := (hb.cell x).trans (uc_get (by rw [cmb_length]; exact hxr))
        rw [gn_cmb_at hxr] at zr
        have zf := hb.frozen x
        have zq := ((HRQ.out.onl ho hpq.symm).cell x).trans (uc_get (by rw [HCQ.out]; exact hlt))
        have zm : wr.cell? ⟨mb, 0, none⟩ = some (.int .u64 (m : Int)) := (ho.cell (p := ⟨mb, 0, none⟩) nm).trans (HX.out.m.cell 0)
        have d1 : gn (gr B i) x < m := HSB.out i x
        have d2 : gn (gr B k) x < m := HSB.out k x
        have HMM := Lib.hid (fun W => mulMod_any v (gn (gr B k) x) m W (by omega) (by omega) (by omega) (by omega))
        have hml : v * gn (gr B k) x % m < m := Nat.mod_lt _ (by omega)
        have HSS := Lib.hid (fun W => subMod_any (gn (gr B i) x) (v * gn (gr B k) x % m) m W d1 hml hm)
        have HN := Lib.hid (fun (W : World) (hW : Onl p wr W) (ha : Arr W p 72 (uc (cmb m v k x (gr B k) (gr B i)))) => (show Arr (W.setCell ⟨p, x, none⟩ (.int .u64 (((gn (gr B i) x + (m - v * gn (gr B k) x % m)) % m : Nat) : Int))) p 72 (uc (cmb m v k (x + 1) (gr B k) (gr B i))) ∧ Onl p W0 (W.setCell ⟨p, x, none⟩ (.int .u64 (((gn (gr B i) x + (m - v * gn (gr B k) x % m)) % m : Nat) : Int))) from by
          rw [← cmb_step hkx hxr, ← uc_set]
          exact ⟨ha.set x _, (ho.trans hW).setCell x _⟩))
        generalize v * gn (gr B k) x % m = pr at *
        generalize gn (gr B k) x = vq at *
        generalize (gn (gr B i) x + (m - pr)) % m = vn at *
        generalize gn (gr B i) x = vr at *
        have HB := Lib.hid hb
        clear hb ho
        go_upto_region 8 with fail
        have nm' : p ≠ mb := nm.symm
        have zpq : q ≠ p := hpq.symm
        -- TABLE
        refine wp_region_table 16 (by kernel_rfl) (by kernel_rfl) (by kernel_rfl) (by kernel_rfl) (by kernel_rfl) rfl (by kernel_rfl) (fun i => [Value.slice (some ⟨p, 0, none⟩) C C, Value.int .i64 (x : Int), Value.slice (some ⟨p, 0, none⟩) C C, Value.int .i64 (x : Int), Value.pointer (some ⟨p, x, none⟩), Value.int .u64 (vr : Int), Value.int .u64 (v : Int), Value.slice (some ⟨q, 0, none⟩) C C, Value.int .i64 (x : Int), Value.pointer (some ⟨q, x, none⟩), Value.int .u64 (vq : Int), Value.int .u64 (m : Int), Value.int .u64 (pr : Int), Value.int .u64 (m : Int), Value.int .u64 (vn : Int), Value.pointer (some ⟨p, x, none⟩), undef].getD i undef) (fun W => W.setCell ⟨p, x, none⟩ (.int .u64 (vn : Int))) ⟨?_, ?_, ?_, ?_, ?_, ?_, ?_, ?_, ?_, ?_, ?_, ?_, ?_, ?_, ?_, ?_, ?_, trivial⟩ ?_
        · intro m0 b hb
          have e5 : b.tmps[5]?.getD undef = Value.slice (some ⟨p, 0, none⟩) C C := hb 5 rfl
          refine tab_run (by decide) (Value.slice (some ⟨p, 0, none⟩) C C) rfl ?_
          clear hb
          go_simp
        · intro m0 b hb
          have e8 : b.tmps[8]?.getD undef = Value.int .i64 (x : Int) := hb 8 rfl
          refine tab_run (by decide) (Value.int .i64 (x : Int)) rfl ?_
          clear hb
          go_simp
        · intro m0 b hb
          have e5 : b.tmps[5]?.getD undef = Value.slice (some ⟨p, 0, none⟩) C C := hb 5 rfl
          refine tab_run (by decide) (Value.slice (some ⟨p, 0, none⟩) C C) rfl ?_
          clear hb
          go_simp
        · intro m0 b hb
          have e8 : b.tmps[8]?.getD undef = Value.int .i64 (x : Int) := hb 8 rfl
          refine tab_run (by decide) (Value.int .i64 (x : Int)) rfl ?_
          clear hb
          go_simp
        · intro m0 b hb
          have e61 : b.tmps[61]?.getD undef = Value.slice (some ⟨p, 0, none⟩) C C := hb 61 rfl
          have e62 : b.tmps[62]?.getD undef = Value.int .i64 (x : Int) := hb 62 rfl
          refine tab_run (by decide) (Value.pointer (some ⟨p, x, none⟩)) rfl ?_
          clear hb
          go_simp
        · intro m0 b hb
          have e63 : b.tmps[63]?.getD undef = Value.pointer (some ⟨p, x, none⟩) := hb 63 rfl
          refine tab_run (by decide) (Value.int .u64 (vr : Int)) rfl ?_
          clear hb
          go_simp
        · intro m0 b hb
          have e7 : b.tmps[7]?.getD undef = Value.int .u64 (v : Int) := hb 7 rfl
          refine tab_run (by decide) (Value.int .u64 (v : Int)) rfl ?_
          clear hb
          go_simp
        · intro m0 b hb
          have e6 : b.tmps[6]?.getD undef = Value.slice (some ⟨q, 0, none⟩) C C := hb 6 rfl
          refine tab_run (by decide) (Value.slice (some ⟨q, 0, none⟩) C C) rfl ?_
          clear hb
          go_simp
        · intro m0 b hb
          have e8 : b.tmps[8]?.getD undef = Value.int .i64 (x : Int) := hb 8 rfl
          refine tab_run (by decide) (Value.int .i64 (x : Int)) rfl ?_
          clear hb
          go_simp
        · intro m0 b hb
          have e66 : b.tmps[66]?.getD undef = Value.slice (some ⟨q, 0, none⟩) C C := hb 66 rfl
          have e67 : b.tmps[67]?.getD undef = Value.int .i64 (x : Int) := hb 67 rfl
          refine tab_run (by decide) (Value.pointer (some ⟨q, x, none⟩)) rfl ?_
          clear hb
          go_simp
        · intro m0 b hb
          have e68 : b.tmps[68]?.getD undef = Value.pointer (some ⟨q, x, none⟩) := hb 68 rfl
          refine tab_run (by decide) (Value.int .u64 (vq : Int)) rfl ?_
          clear hb
          go_simp
        · intro m0 b hb
          have e3 : b.tmps[3]?.getD undef = Value.pointer (some ⟨mb, 0, none⟩) := hb 3 rfl
          refine tab_run (by decide) (Value.int .u64 (m : Int)) rfl ?_
          clear hb
          go_simp
        · intro m0 b hb
          have e65 : b.tmps[65]?.getD undef = Value.int .u64 (v : Int) := hb 65 rfl
          have e69 : b.tmps[69]?.getD undef = Value.int .u64 (vq : Int) := hb 69 rfl
          have e70 : b.tmps[70]?.getD undef = Value.int .u64 (m : Int) := hb 70 rfl
          refine tab_call (by decide) (Value.int .u64 (pr : Int)) rfl ?_ (HMM.out _)
          clear hb
          go_simp
        · intro m0 b hb
          have e3 : b.tmps[3]?.getD undef = Value.pointer (some ⟨mb, 0, none⟩) := hb 3 rfl
          refine tab_run (by decide) (Value.int .u64 (m : Int)) rfl ?_
          clear hb
          go_simp
        · intro m0 b hb
          have e64 : b.tmps[64]?.getD undef = Value.int .u64 (vr : Int) := hb 64 rfl
          have e71 : b.tmps[71]?.getD undef = Value.int .u64 (pr : Int) := hb 71 rfl
          have e72 : b.tmps[72]?.getD undef = Value.int .u64 (m : Int) := hb 72 rfl
          refine tab_call (by decide) (Value.int .u64 (vn : Int)) rfl ?_ ((HSS.out _).mono fun e w' ⟨h, hw⟩ => ⟨0, h, hw.symm⟩)
          clear hb
          go_simp
        · intro m0 b hb
          have e59 : b.tmps[59]?.getD undef = Value.slice (some ⟨p, 0, none⟩) C C := hb 59 rfl
          have e60 : b.tmps[60]?.getD undef = Value.int .i64 (x : Int) := hb 60 rfl
          refine tab_run (by decide) (Value.pointer (some ⟨p, x, none⟩)) rfl ?_
          clear hb
          go_simp
        · intro m0 b hb
          have e73 : b.tmps[73]?.getD undef = Value.int .u64 (vn : Int) := hb 73 rfl
          have e74 : b.tmps[74]?.getD undef = Value.pointer (some ⟨p, x, none⟩) := hb 74 rfl
          refine tab_store undef rfl _ rfl ?_ rfl
          clear hb
          go_simp
        intro m0
        simp only [putAll, dstOf, Act.put, List.map_cons, List.map_nil, List.setIfInBounds_toArray, List.set_cons_succ, List.set_cons_zero, Nat.reduceAdd, List.getD_cons_succ, List.getD_cons_zero]
        -- END
        go_wp2_with fail
        all_goals
          go_roundg (C - (x + 1))
          case measure => omega
          case rel => exact ⟨x + 1, by omega, by omega, rfl, by go_num, HN.out _ ((Onl.refl _ _).drewN _) HB.out⟩
      · have z1' : ¬ ((x : Int) < (C : Int)) := by omega
        have hxn : x = C := by omega
        have HXN := Lib.hid hxn
        clear hxn
        go_wp2_with fail
        go_end0
        refine ⟨rfl, bs1, ?_, hs1, HWX.out.trans (Wr.of_onl ho (by simp [hpb]))⟩
        rw [HST.out]
        refine HM.out.setRow HPI.out ho (by rw [cmb_length, HCP.out]) ?_
        rw [HCP.out, ← HXN.out]; exact hb
end Go.Proofs.Ytcjaloddgilnpaa
