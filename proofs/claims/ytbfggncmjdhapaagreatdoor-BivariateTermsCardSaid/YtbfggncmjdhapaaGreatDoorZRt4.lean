/- unravelref13: Times, Add. -/
/- unravellaw13.sum: the reference's sum of terms, one after the other. -/
import Derived.Test.YtbfggncmjdhapaaGreatDoorZRt2
import Derived.Test.YtbfggncmjdhapaaGreatDoorZBof
namespace Go.Proofs.YtbfggncmjdhapaaGreatDoor
open Go.RowKit
set_option linter.unusedVariables false

def tmR (b : Int) (t : T2) : T2 := (t.1, t.2 * b)
theorem tmR_cg (b : Int) (l : List T2) (e : K2) : cg2 (l.map (tmR b)) e = b * cg2 l e := by
  induction l with
  | nil => simp [cg2]
  | cons t l ih =>
    rw [List.map_cons, cg2_cons, cg2_cons, ih, Int.mul_add]
    unfold tmR
    simp only
    split
    · rw [Int.mul_comm]
    · simp
theorem tmR_na {b : Int} (hb : b = 1 ∨ b = -1) (t : T2) : (tmR b t).2.natAbs = t.2.natAbs := by
  unfold tmR
  rcases hb with rfl | rfl
  · simp
  · simp
section
variable {P : Program} {w w' : World} {b : Act} {o : Oper}
theorem wp_of_call {I : (Nat → Bool) → (Nat → Value) → World → Prop} {D : Nat → Bool} {x : Nat → Value} {i : Nat} {f : FuncId} {args : Array Value} (h : (execOp b.eval o).run P w = .ok (.enter f args) w) (hc : Calls P f args w fun e w' => ∃ v, e = .returned v ∧ I (upd D i true) (upd x i v) w') : o.wp P b w (StepPost I D x i b o.dst) NoQ := by
  unfold Oper.wp; rw [h]
  simp only [Oper.upon]
  refine hc.mono ?_
  rintro e w' ⟨v, rfl, hv⟩
  exact ⟨v, rfl, hv⟩
end
set_option maxHeartbeats 4000000 in
set_option maxRecDepth 100000 in
theorem times_ref (v : Value) (l : List T2) (b : Int) (w : World) (hv : R13 w v (some l)) (hl : l.length ≤ 1000) (hb : b = 1 ∨ b = -1) (hlim : ∀ t ∈ l, t.2.natAbs ≤ 2251799813685248) :
    Calls Tryz.prog 89 #[v, .int .i64 b] w fun e w' => ∃ u, e = .returned u ∧ OwnA 34 3 tB w.heap.size w' u (l.map (tmR b)) ∧ Below w.heap.size w w' := by
  obtain ⟨A, c, rfl, hx⟩ := hv
  change Calls Tryz.prog 89 #[.agg #[.slice A l.length c, .bool false], .int .i64 b] w _
  change SlA tB w (.slice A l.length c) l at hx
  have HS := Lib.hid (fun W (hb : Below w.heap.size w W) => hx.below hb)
  have HLB := Lib.hid hlim
  have HBB := Lib.hid hb
  clear hx hlim hb
  have hW : ∀ W, W = w.alloc (.cells #[.slice A l.length c, .bool false] 49) → Arr W w.heap.size 49 [.slice A l.length c, .bool false] ∧ Below w.heap.size w W := by
    intro W hW
    subst hW
    exact ⟨Arr.new _ _ [_, _], (Below.refl _ _).alloc (Nat.le_refl _) _⟩
  obtain ⟨n, hn⟩ : ∃ n, n = l.length := ⟨_, rfl⟩
  rw [← hn] at hl HS hW ⊢
  have HN := Lib.hid hn
  clear hn
  go_enter Tryz.func89, Tryz.ntmps89
  go_upto_region 1 with fail
  generalize w.alloc (.cells #[.slice A n c, .bool false] 49) = w3 at hW ⊢
  obtain ⟨qp, hb3⟩ := hW w3 rfl
  obtain ⟨rb, hrb⟩ : ∃ r, r = w.heap.size := ⟨_, rfl⟩
  rw [← hrb] at qp HS hb3 ⊢
  have QP := Lib.hid qp
  have HB3 := Lib.hid hb3
  have HRB := Lib.hid hrb
  clear hW qp hb3 hrb
  go_wp2_with fail
  go_loopg [5, 6] n (fun gk s5 s6 wr => ∃ k : Nat, k ≤ n ∧ gk = n - k ∧ s6 = .int .i64 (k : Int) ∧ OwnA 34 3 tB (rb + 1) wr s5 ((l.take k).map (tmR b)) ∧ Below (rb + 1) w3 wr)
  case atStart => exact ⟨0, Nat.zero_le _, rfl, rfl, OwnA.nil _ _ _ _ _, Below.refl _ _⟩
  case round =>
    obtain ⟨k, hk, rfl, rfl, hst, hbr⟩ := hrel
    have y9 := (QP.out.below hbr (Nat.lt_succ_self rb)).cell 0
    have hszr : rb + 1 ≤ wr.heap.size := Nat.le_trans QP.out.lt hbr.size
    by_cases hlt : k < n
    · have z1 : (k : Int) < (n : Int) := by omega
      have hkl : k < l.length := by have := HN.out; omega
      obtain ⟨b9, o, rfl, -, y0, y1, y2⟩ := (HS.out wr (HB3.out.trans (hbr.mono (Nat.le_succ rb)))).at3 hkl
      have HE := Lib.hid (show (l.take (k + 1)).map (tmR b) = (l.take k).map (tmR b) ++ [tmR b l[k]] from by rw [take_snocB hkl, List.map_append]; rfl)
      have hbt := HLB.out _ (List.getElem_mem hkl)
      have hrl : ((l.take k).map (tmR b)).length ≤ 1000 := by simp; omega
      generalize l[k] = t at *
      obtain ⟨⟨t1, t2⟩, t3⟩ := t
      simp only [tmR] at y0 y1 y2 HE hbt
      have HWR := Lib.hid (show IntKind.i64.wrap (t3 * b) = t3 * b from IntWalk.i64_in _ (by rcases HBB.out with rfl | rfl <;> omega))
      generalize (l.take k).map (tmR b) = R at *
      obtain ⟨As, csx, rfl⟩ := hst.form
      have hW : ∀ W, W = wr.alloc (.cells #[.int .i64 t1, .int .i64 t2, .int .i64 (t3 * b)] 34) → ∃ g, g = wr.heap.size ∧ Arr W g 34 [.int .i64 t1, .int .i64 t2, .int .i64 (t3 * b)] ∧ OwnA 34 3 tB (rb + 1) W (.slice As R.length csx) R ∧ Below (rb + 1) w3 W := by
        intro W hW
        subst hW
        exact ⟨_, rfl, Arr.new wr 34 [.int .i64 t1, .int .i64 t2, .int .i64 (t3 * b)], hst.alloc _, hbr.alloc hszr _⟩
      have HW := Lib.hid hW
      clear hW hst hbr
      go_upto_region 6 with fail
      have zz := HWR.out
      go_upto_region 7 with fail
      have hW := HW.out
      clear HW zz HWR y0 y1 y2 y9 hbt
      generalize wr.alloc (.cells #[.int .i64 t1, .int .i64 t2, .int .i64 (t3 * b)] 34) = w5 at hW ⊢
      obtain ⟨g, hg, hq, hst, hbr⟩ := hW w5 rfl
      rw [← hg]
      have x0 := hq.cell 0
      have x1 := hq.cell 1
      have x2 := hq.cell 2
      generalize t3 * b = t4 at *
      have HSL := Lib.hid ((OwnA.lit (w := w5) (e := 34) (sz := 3) (enc := tB) (xs := [((t1, t2), t4)]) (fun x _ => rfl) (Nat.le_refl _) (by simp) (by simp)).sl)
      have HS7 := Lib.hid (hst.alloc (.cells #[.int .i64 t1, .int .i64 t2, .int .i64 t4] 34))
      have hsz5 : rb + 1 ≤ w5.heap.size := Nat.le_trans QP.out.lt hbr.size
      have HB7 := Lib.hid (hbr.alloc hsz5 (.cells #[.int .i64 t1, .int .i64 t2, .int .i64 t4] 34))
      have HRL := Lib.hid (show R.length + [((t1, t2), t4)].length ≤ 1000000000 by simp; omega)
      have HSZ := Lib.hid (show rb + 1 ≤ (w5.alloc (.cells #[.int .i64 t1, .int .i64 t2, .int .i64 t4] 34)).heap.size from by simp; omega)
      clear hW hg hq hst hbr hsz5 hszr
      go_wp2_with (at_builtin; go_loud (refine wpList_appA rfl elR (.tmp 25) (.tmp 27) 22 22 rfl Tryz.underlying22 Tryz.underlying22 rfl HS7.out rfl HSL.out HRL.out HSZ.out ?_); go_loud (intro v' w8 h1 h2 h3 h4; have HO := Lib.hid h1; have HB8 := Lib.hid (HB7.out.trans h2); obtain ⟨Av, cv2, rfl⟩ := h1.form; clear h1 h2 h3 h4))
      go_roundg (n - (k + 1))
      case measure => omega
      case rel =>
        have h1 := HO.out
        rw [show (R ++ [((t1, t2), t4)]).length = R.length + 1 by simp] at h1
        exact ⟨k + 1, by omega, rfl, by go_num, by rw [HE.out]; exact h1, HB8.out⟩
    · have z1 : ¬ (k : Int) < (n : Int) := by omega
      have hkk : l.take k = l := List.take_of_length_le (by have := HN.out; omega)
      rw [hkk] at hst
      have HST := Lib.hid hst
      have HB := Lib.hid (HB3.out.trans (hbr.mono (Nat.le_succ rb)))
      clear hst hbr hkk
      go_wp2_with fail
      go_ret
      exact ⟨_, rfl, HST.out.low (by have := HRB.out; omega), by rw [← HRB.out]; exact HB.out⟩
/-- Add's last region -/
structure AdI (w0 : World) (rb : Nat) (VP VQ N : Value) (LA LB : List T2) (F : K2 → Int) (LL : Nat) (D : Nat → Bool) (x : Nat → Value) (w : World) : Prop where
  k0 : D 0 = true → x 0 = VP
  k2 : D 2 = true → x 2 = VQ
  k3 : D 3 = true → x 3 = N
  pre : D 5 = false → Below w0.heap.size w0 w
  a1 : D 1 = true → D 5 = false → OwnA 34 3 tB w0.heap.size w (x 1) LA
  a4 : D 4 = true → D 5 = false → SlA tB w (x 4) LB
  a5 : D 5 = true → D 6 = false → Below w0.heap.size w0 w ∧ SlA tB w (x 5) (LA ++ LB)
  a6 : D 6 = true → D 7 = false → Below w0.heap.size w0 w ∧ ∃ r, R13 w (x 6) r ∧ GthP F r ∧ lenB r ≤ LL
  a7 : D 7 = true → ∃ (r : PolB) (AR : Option Addr) (nR cR : Nat) (bb : Bool), Arr w rb 49 [.slice AR nR cR, .bool bb] ∧ R13 w (.agg #[.slice AR nR cR, .bool bb]) r ∧ GthP F r ∧ lenB r ≤ LL ∧ ∃ w1, Below w0.heap.size w0 w1 ∧ (∀ k, k ≠ rb → w.heap[k]? = w1.heap[k]?) ∧ w.os = w1.os ∧ w.tape = w1.tape ∧ w.output = w1.output ∧ w.heap.size = w1.heap.size
section
variable {w0 w w' : World} {rb : Nat} {VP VQ N : Value} {LA LB : List T2} {F : K2 → Int} {LL : Nat} {D : Nat → Bool} {x : Nat → Value} {v : Value}
theorem AdI.val0 (h : AdI w0 rb VP VQ N LA LB F LL D x w) (hv : v = VP) : AdI w0 rb VP VQ N LA LB F LL (upd D 0 true) (upd x 0 v) w :=
  ⟨fun _ => by simpa [upd] using hv, fun d => by simpa [upd] using h.k2 (by simpa [upd] using d), fun d => by simpa [upd] using h.k3 (by simpa [upd] using d), fun d => h.pre (by simpa [upd] using d), fun d1 d2 => by simpa [upd] using h.a1 (by simpa [upd] using d1) (by simpa [upd] using d2), fun d1 d2 => by simpa [upd] using h.a4 (by simpa [upd] using d1) (by simpa [upd] using d2), fun d1 d2 => by simpa [upd] using h.a5 (by simpa [upd] using d1) (by simpa [upd] using d2), fun d1 d2 => by simpa [upd] using h.a6 (by simpa [upd] using d1) (by simpa [upd] using d2), fun d => h.a7 (by simpa [upd] using d)⟩
theorem AdI.val2 (h : AdI w0 rb VP VQ N LA LB F LL D x w) (hv : v = VQ) : AdI w0 rb VP VQ N LA LB F LL (upd D 2 true) (upd x 2 v) w :=
  ⟨fun d => by simpa [upd] using h.k0 (by simpa [upd] using d), fun _ => by simpa [upd] using hv, fun d => by simpa [upd] using h.k3 (by simpa [upd] using d), fun d => h.pre (by simpa [upd] using d), fun d1 d2 => by simpa [upd] using h.a1 (by simpa [upd] using d1) (by simpa [upd] using d2), fun d1 d2 => by simpa [upd] using h.a4 (by simpa [upd] using d1) (by simpa [upd] using d2), fun d1 d2 => by simpa [upd] using h.a5 (by simpa [upd] using d1) (by simpa [upd] using d2), fun d1 d2 => by simpa [upd] using h.a6 (by simpa [upd] using d1) (by simpa [upd] using d2), fun d => h.a7 (by simpa [upd] using d)⟩
theorem AdI.val3 (h : AdI w0 rb VP VQ N LA LB F LL D x w) (hv : v = N) : AdI w0 rb VP VQ N LA LB F LL (upd D 3 true) (upd x 3 v) w :=
  ⟨fun d => by simpa [upd] using h.k0 (by simpa [upd] using d), fun d => by simpa [upd] using h.k2 (by simpa [upd] using d), fun _ => by simpa [upd] using hv, fun d => h.pre (by simpa [upd] using d), fun d1 d2 => by simpa [upd] using h.a1 (by simpa [upd] using d1) (by simpa [upd] using d2), fun d1 d2 => by simpa [upd] using h.a4 (by simpa [upd] using d1) (by simpa [upd] using d2), fun d1 d2 => by simpa [upd] using h.a5 (by simpa [upd] using d1) (by simpa [upd] using d2), fun d1 d2 => by simpa [upd] using h.a6 (by simpa [upd] using d1) (by simpa [upd] using d2), fun d => h.a7 (by simpa [upd] using d)⟩
theorem AdI.call1 (h : AdI w0 rb VP VQ N LA LB F LL D x w) (q5 : D 5 = false) (q6 : D 6 = false) (q7 : D 7 = false) (hb : Below w.heap.size w w') (ho : OwnA 34 3 tB w0.heap.size w' v LA) : AdI w0 rb VP VQ N LA LB F LL (upd D 1 true) (upd x 1 v) w' := by
  have hp := h.pre q5
  refine ⟨fun d => by simpa [upd] using h.k0 (by simpa [upd] using d), fun d => by simpa [upd] using h.k2 (by simpa [upd] using d), fun d => by simpa [upd] using h.k3 (by simpa [upd] using d), fun _ => hp.trans (hb.mono hp.size), fun _ _ => by simpa [upd] using ho, fun d1 d2 => ?_, fun d => ?_, fun d => ?_, fun d => ?_⟩
  · simpa [upd] using (h.a4 (by simpa [upd] using d1) q5).below hb
  · simp [upd, q5] at d
  · simp [upd, q6] at d
  · simp [upd, q7] at d
theorem AdI.call4 (h : AdI w0 rb VP VQ N LA LB F LL D x w) (q5 : D 5 = false) (q6 : D 6 = false) (q7 : D 7 = false) (hb : Below w.heap.size w w') (ho : SlA tB w' v LB) : AdI w0 rb VP VQ N LA LB F LL (upd D 4 true) (upd x 4 v) w' := by
  have hp := h.pre q5
  refine ⟨fun d => by simpa [upd] using h.k0 (by simpa [upd] using d), fun d => by simpa [upd] using h.k2 (by simpa [upd] using d), fun d => by simpa [upd] using h.k3 (by simpa [upd] using d), fun _ => hp.trans (hb.mono hp.size), fun d1 d2 => ?_, fun _ _ => by simpa [upd] using ho, fun d => ?_, fun d => ?_, fun d => ?_⟩
  · simpa [upd] using (h.a1 (by simpa [upd] using d1) q5).below hb
  · simp [upd, q5] at d
  · simp [upd, q6] at d
  · simp [upd, q7] at d
theorem AdI.app (h : AdI w0 rb VP VQ N LA LB F LL D x w) (q6 : D 6 = false) (q7 : D 7 = false) (hb : Below w0.heap.size w0 w') (ho : SlA tB w' v (LA ++ LB)) : AdI w0 rb VP VQ N LA LB F LL (upd D 5 true) (upd x 5 v) w' := by
  refine ⟨fun d => by simpa [upd] using h.k0 (by simpa [upd] using d), fun d => by simpa [upd] using h.k2 (by simpa [upd] using d), fun d => by simpa [upd] using h.k3 (by simpa [upd] using d), fun d => ?_, fun d1 d2 => ?_, fun d1 d2 => ?_, fun _ _ => ⟨hb, by simpa [upd] using ho⟩, fun d => ?_, fun d => ?_⟩
  · simp [upd] at d
  · simp [upd] at d2
  · simp [upd] at d2
  · simp [upd, q6] at d
  · simp [upd, q7] at d
theorem AdI.call6 (h : AdI w0 rb VP VQ N LA LB F LL D x w) (q7 : D 7 = false) (hb : Below w0.heap.size w0 w') (ho : ∃ r, R13 w' v r ∧ GthP F r ∧ lenB r ≤ LL) (d5 : D 5 = true) : AdI w0 rb VP VQ N LA LB F LL (upd D 6 true) (upd x 6 v) w' := by
  refine ⟨fun d => by simpa [upd] using h.k0 (by simpa [upd] using d), fun d => by simpa [upd] using h.k2 (by simpa [upd] using d), fun d => by simpa [upd] using h.k3 (by simpa [upd] using d), fun d => ?_, fun d1 d2 => ?_, fun d1 d2 => ?_, fun _ d2 => ?_, fun _ _ => ⟨hb, by simpa [upd] using ho⟩, fun d => ?_⟩
  · simp [upd, d5] at d
  · simp [upd, d5] at d2
  · simp [upd, d5] at d2
  · simp [upd] at d2
  · simp [upd, q7] at d
theorem AdI.store (h : AdI w0 rb VP VQ N LA LB F LL D x w) (d5 : D 5 = true) (d6 : D 6 = true) (ho : ∃ (r : PolB) (AR : Option Addr) (nR cR : Nat) (bb : Bool), Arr w' rb 49 [.slice AR nR cR, .bool bb] ∧ R13 w' (.agg #[.slice AR nR cR, .bool bb]) r ∧ GthP F r ∧ lenB r ≤ LL ∧ ∃ w1, Below w0.heap.size w0 w1 ∧ (∀ k, k ≠ rb → w'.heap[k]? = w1.heap[k]?) ∧ w'.os = w1.os ∧ w'.tape = w1.tape ∧ w'.output = w1.output ∧ w'.heap.size = w1.heap.size) : AdI w0 rb VP VQ N LA LB F LL (upd D 7 true) (upd x 7 v) w' := by
  refine ⟨fun d => by simpa [upd] using h.k0 (by simpa [upd] using d), fun d => by simpa [upd] using h.k2 (by simpa [upd] using d), fun d => by simpa [upd] using h.k3 (by simpa [upd] using d), fun d => ?_, fun d1 d2 => ?_, fun d1 d2 => ?_, fun _ d2 => ?_, fun _ d2 => ?_, fun _ => ho⟩
  · simp [upd, d5] at d
  · simp [upd, d5] at d2
  · simp [upd, d5] at d2
  · simp [upd, d6] at d2
  · simp [upd] at d2
end
def RadR (b : Int) (p q : PolB) (w : World) (e : Ending) (w' : World) : Prop := ∃ v r, e = .returned v ∧ R13 w' v r ∧ CombB (fun x y => x + b * y) p q r ∧ lenB r ≤ lenB p + lenB q ∧ Below w.heap.size w w'
set_option maxHeartbeats 8000000 in
set_option maxRecDepth 100000 in
theorem radd13 (vp vq : Value) (p q : PolB) (b : Int) (w : World) (hp : R13 w vp p) (hq : R13 w vq q) (okp : okB2 p) (okq : okB2 q) (hlp : lenB p ≤ 400) (hlq : lenB q ≤ 400) (hb : b = 1 ∨ b = -1) :
    Calls Tryz.prog 56 #[vp, vq, .int .i64 b] w (RadR b p q w) := by
  obtain ⟨b1, A, n, c, rfl, j1, j2, hx1⟩ := hp.parts
  obtain ⟨b2, A2, n2, c2, rfl, i1, i2, hx2⟩ := hq.parts
  have hW : ∀ W, W = ((w.alloc (.cells #[.slice A n c, .bool b1] 49)).alloc (.cells #[.slice A2 n2 c2, .bool b2] 49)).alloc (.cells #[.slice none 0 0, .bool false] 49) → Arr W w.heap.size 49 [.slice A n c, .bool b1] ∧ Arr W (w.heap.size + 1) 49 [.slice A2 n2 c2, .bool b2] ∧ Arr W (w.heap.size + 2) 49 [.slice none 0 0, .bool false] ∧ Below w.heap.size w W := by
    intro W hW
    subst hW
    exact ⟨((Arr.new _ _ [_, _]).alloc _).alloc _, (Arr.newAt (w.alloc _) _ [_, _] _ (by simp)).alloc _, Arr.newAt ((w.alloc _).alloc _) _ [_, _] _ (by simp), (((Below.refl _ _).alloc (Nat.le_refl _) _).alloc (by simp) _).alloc (by simp <;> omega) _⟩
  have HP := Lib.hid (fun W (hb : Below w.heap.size w W) => hp.below hb)
  have HQ := Lib.hid (fun W (hb : Below w.heap.size w W) => hq.below hb)
  have HO1 := Lib.hid okp
  have HO2 := Lib.hid okq
  have HLN := Lib.hid (And.intro hlp hlq)
  have HBB := Lib.hid hb
  have HJ := Lib.hid (And.intro j1 i1)
  clear hx1 hx2 hp hq okp okq hlp hlq j2 i2 hb j1 i1
  go_enter Tryz.func56, Tryz.ntmps56
  go_upto_region 1 with fail
  generalize ((w.alloc (.cells #[.slice A n c, .bool b1] 49)).alloc (.cells #[.slice A2 n2 c2, .bool b2] 49)).alloc (.cells #[.slice none 0 0, .bool false] 49) = w4 at hW ⊢
  obtain ⟨q0, q1, qr, hb4⟩ := hW w4 rfl
  obtain ⟨rb0, hrb0⟩ : ∃ r, r = w.heap.size := ⟨_, rfl⟩
  obtain ⟨rb1, hrb1⟩ : ∃ r, r = w.heap.size + 1 := ⟨_, rfl⟩
  obtain ⟨rb, hrb⟩ : ∃ r, r = w.heap.size + 2 := ⟨_, rfl⟩
  have HLE := Lib.hid (show w.heap.size ≤ rb by omega)
  rw [← hrb] at qr ⊢
  rw [← hrb1] at q1 ⊢
  rw [← hrb0] at q0 ⊢
  have hsz : rb0 = w.heap.size := hrb0
  have HP0 := Lib.hid q0
  have HP1 := Lib.hid q1
  have HR0 := Lib.hid qr
  have HB4 := Lib.hid (show Below w.heap.size w w4 from by rw [← hrb0]; exact hrb0 ▸ hb4)
  have y1 := q0.cell 1
  have y2 := q1.cell 1
  have x0 := qr.cell 0
  have x1 := qr.cell 1
  have f0 := qr.frozen 0
  have f1 := qr.frozen 1
  have HRS := Lib.hid ((qr.set 0 (.slice none 0 0)).set 1 (.bool true))
  have HBE := Lib.hid ((HB4.out.setCell (p := ⟨rb, 0, none⟩) HLE.out (.slice none 0 0)).setCell (p := ⟨rb, 1, none⟩) HLE.out (.bool true))
  clear hW q0 q1 qr hb4 hrb0 hrb1 hrb hsz
  cases b1 with
  | true =>
    go_wp2_with fail
    refine bodyPost_ret (v := .agg #[.slice none 0 0, .bool true]) (results_c Tryz.results56 _ _ rb 49 _ _ rfl HRS.out Tryz.underlying49 rfl info_rp13) rfl ?_
    refine ⟨_, none, rfl, R13.big _, ?_, Nat.zero_le _, HBE.out⟩
    have := HJ.out.1
    cases p with
    | none => cases q <;> rfl
    | some l => cases this
  | false =>
  cases b2 with
  | true =>
    go_wp2_with fail
    refine bodyPost_ret (v := .agg #[.slice none 0 0, .bool true]) (results_c Tryz.results56 _ _ rb 49 _ _ rfl HRS.out Tryz.underlying49 rfl info_rp13) rfl ?_
    refine ⟨_, none, rfl, R13.big _, ?_, Nat.zero_le _, HBE.out⟩
    have := HJ.out.2
    cases q with
    | none => cases p <;> rfl
    | some l => cases this
  | false =>
  obtain ⟨l, rfl⟩ : ∃ l, p = some l := by
    have := HJ.out.1
    cases p with
    | none => cases this
    | some l => exact ⟨l, rfl⟩
  obtain ⟨m, rfl⟩ : ∃ l, q = some l := by
    have := HJ.out.2
    cases q with
    | none => cases this
    | some l => exact ⟨l, rfl⟩
  have HLN2 := Lib.hid (show l.length ≤ 400 ∧ m.length ≤ 400 from HLN.out)
  clear HLN
  have HLN := Lib.hid HLN2.out
  have HNA := Lib.hid (show (∀ t ∈ l, t.2.natAbs ≤ 2251799813685248) ∧ ∀ t ∈ m, t.2.natAbs ≤ 2251799813685248 from ⟨fun t ht => by have := HO1.out.2.co t ht; omega, fun t ht => by have := HO2.out.2.co t ht; omega⟩)
  have HCB := Lib.hid (show ∀ t ∈ l.map (tmR 1) ++ m.map (tmR b), t.2.natAbs ≤ 2251799813685248 from fun t ht => by
    rcases List.mem_append.1 ht with ht | ht
    · obtain ⟨s, hs, rfl⟩ := List.mem_map.1 ht
      rw [tmR_na (.inl rfl)]; exact HNA.out.1 s hs
    · obtain ⟨s, hs, rfl⟩ := List.mem_map.1 ht
      rw [tmR_na HBB.out]; exact HNA.out.2 s hs)
  have HT1 := Lib.hid (fun W (hb : Below w4.heap.size w4 W) => times_ref (.agg #[.slice A n c, .bool false]) l 1 W (HP.out W (HB4.out.trans (hb.mono HB4.out.size))) (by have := HLN.out; omega) (.inl rfl) HNA.out.1)
  have HT2 := Lib.hid (fun W (hb : Below w4.heap.size w4 W) => times_ref (.agg #[.slice A2 n2 c2, .bool false]) m b W (HQ.out W (HB4.out.trans (hb.mono HB4.out.size))) (by have := HLN.out; omega) HBB.out HNA.out.2)
  clear x0 x1 f0 f1 HRS HBE HP HQ HJ
  go_upto_region 3 with fail
  clear y1 y2
  have HW0 := Lib.hid (Below.refl w4.heap.size w4)
  refine wp_region_factsU (by kernel_rfl) (by kernel_rfl) (by kernel_rfl) (by kernel_rfl) (by kernel_rfl) (AdI w4 rb (.agg #[.slice A n c, .bool false]) (.agg #[.slice A2 n2 c2, .bool false]) (.int .i64 b) (l.map (tmR 1)) (m.map (tmR b)) (fun e => cg2 (l.map (tmR 1) ++ m.map (tmR b)) e) (l.length + m.length)) (fun x => ⟨fun h => Bool.noConfusion h, fun h => Bool.noConfusion h, fun h => Bool.noConfusion h, fun _ => (Below.refl _ _).drew, fun h => Bool.noConfusion h, fun h => Bool.noConfusion h, fun h => Bool.noConfusion h, fun h => Bool.noConfusion h, fun h => Bool.noConfusion h⟩) ⟨?_, ?_, ?_, ?_, ?_, ?_, ?_, ?_, trivial⟩ ?_
  · intro D x w1 bA hI hD hdep hcl hb
    have q1 : D 1 = false := by cases h : D 1 with | false => rfl | true => (have := hcl 1 h 0 (by decide); rw [hD] at this; cases this)
    have q5 : D 5 = false := by cases h : D 5 with | false => rfl | true => (have := hcl 5 h 1 (by decide); rw [q1] at this; cases this)
    have q6 : D 6 = false := by cases h : D 6 with | false => rfl | true => (have := hcl 6 h 5 (by decide); rw [q5] at this; cases this)
    have q7 : D 7 = false := by cases h : D 7 with | false => rfl | true => (have := hcl 7 h 6 (by decide); rw [q6] at this; cases this)
    have e3 : bA.tmps[3]?.getD undef = .pointer (some ⟨rb0, 0, none⟩) := hb 3
    have hp := hI.pre q5
    have cc0 := (HP0.out.below hp HP0.out.lt).cell 0
    have cc1 := (HP0.out.below hp HP0.out.lt).cell 1
    refine wp_of_run (.agg #[.slice A n c, .bool false]) (w' := w1) ?_ (hI.val0 rfl)
    clear hb hI hdep hcl hp hD q1 q5 q6 q7
    go_simp
  · intro D x w1 bA hI hD hdep hcl hb
    have q5 : D 5 = false := by cases h : D 5 with | false => rfl | true => (have := hcl 5 h 1 (by decide); rw [hD] at this; cases this)
    have q6 : D 6 = false := by cases h : D 6 with | false => rfl | true => (have := hcl 6 h 5 (by decide); rw [q5] at this; cases this)
    have q7 : D 7 = false := by cases h : D 7 with | false => rfl | true => (have := hcl 7 h 6 (by decide); rw [q6] at this; cases this)
    have e14 : bA.tmps[14]?.getD undef = .agg #[.slice A n c, .bool false] := (hb 14).trans (hI.k0 (hdep 0 (by decide)))
    have hp := hI.pre q5
    refine wp_of_call ?_ ((HT1.out w1 hp).mono ?_) (f := 89)
    · clear hb hI hdep hcl hp hD q5 q6 q7
      go_simp
    · rintro e w' ⟨u, he, ho, hbb⟩
      exact ⟨u, he, hI.call1 q5 q6 q7 hbb (ho.low hp.size)⟩
  · intro D x w1 bA hI hD hdep hcl hb
    have q4 : D 4 = false := by cases h : D 4 with | false => rfl | true => (have := hcl 4 h 2 (by decide); rw [hD] at this; cases this)
    have q5 : D 5 = false := by cases h : D 5 with | false => rfl | true => (have := hcl 5 h 4 (by decide); rw [q4] at this; cases this)
    have q6 : D 6 = false := by cases h : D 6 with | false => rfl | true => (have := hcl 6 h 5 (by decide); rw [q5] at this; cases this)
    have q7 : D 7 = false := by cases h : D 7 with | false => rfl | true => (have := hcl 7 h 6 (by decide); rw [q6] at this; cases this)
    have e4 : bA.tmps[4]?.getD undef = .pointer (some ⟨rb1, 0, none⟩) := hb 4
    have hp := hI.pre q5
    have cc0 := (HP1.out.below hp HP1.out.lt).cell 0
    have cc1 := (HP1.out.below hp HP1.out.lt).cell 1
    refine wp_of_run (.agg #[.slice A2 n2 c2, .bool false]) (w' := w1) ?_ (hI.val2 rfl)
    clear hb hI hdep hcl hp hD q4 q5 q6 q7
    go_simp
  · intro D x w1 bA hI hD hdep hcl hb
    have q4 : D 4 = false := by cases h : D 4 with | false => rfl | true => (have := hcl 4 h 3 (by decide); rw [hD] at this; cases this)
    have q5 : D 5 = false := by cases h : D 5 with | false => rfl | true => (have := hcl 5 h 4 (by decide); rw [q4] at this; cases this)
    have q6 : D 6 = false := by cases h : D 6 with | false => rfl | true => (have := hcl 6 h 5 (by decide); rw [q5] at this; cases this)
    have q7 : D 7 = false := by cases h : D 7 with | false => rfl | true => (have := hcl 7 h 6 (by decide); rw [q6] at this; cases this)
    have e2 : bA.tmps[2]?.getD undef = .int .i64 b := hb 2
    refine wp_of_run (.int .i64 b) (w' := w1) ?_ (hI.val3 rfl)
    clear hb hI hdep hcl hD q4 q5 q6 q7
    go_simp
  · intro D x w1 bA hI hD hdep hcl hb
    have q5 : D 5 = false := by cases h : D 5 with | false => rfl | true => (have := hcl 5 h 4 (by decide); rw [hD] at this; cases this)
    have q6 : D 6 = false := by cases h : D 6 with | false => rfl | true => (have := hcl 6 h 5 (by decide); rw [q5] at this; cases this)
    have q7 : D 7 = false := by cases h : D 7 with | false => rfl | true => (have := hcl 7 h 6 (by decide); rw [q6] at this; cases this)
    have e16 : bA.tmps[16]?.getD undef = .agg #[.slice A2 n2 c2, .bool false] := (hb 16).trans (hI.k2 (hdep 2 (by decide)))
    have e17 : bA.tmps[17]?.getD undef = .int .i64 b := (hb 17).trans (hI.k3 (hdep 3 (by decide)))
    have hp := hI.pre q5
    refine wp_of_call ?_ ((HT2.out w1 hp).mono ?_) (f := 89)
    · clear hb hI hdep hcl hp hD q5 q6 q7
      go_simp
    · rintro e w' ⟨u, he, ho, hbb⟩
      exact ⟨u, he, hI.call4 q5 q6 q7 hbb ho.sl⟩
  · intro D x w1 bA hI hD hdep hcl hb
    have q6 : D 6 = false := by cases h : D 6 with | false => rfl | true => (have := hcl 6 h 5 (by decide); rw [hD] at this; cases this)
    have q7 : D 7 = false := by cases h : D 7 with | false => rfl | true => (have := hcl 7 h 6 (by decide); rw [q6] at this; cases this)
    have d1 : D 1 = true := hdep 1 (by decide)
    have d4 : D 4 = true := hdep 4 (by decide)
    have ho := hI.a1 d1 hD
    have hu := hI.a4 d4 hD
    have hp := hI.pre hD
    have ee1 : bA.tmps[15]?.getD undef = x 1 := hb 15
    have ee2 : bA.tmps[18]?.getD undef = x 4 := hb 18
    refine wp_appA elR (.tmp 15) (.tmp 18) 22 22 rfl Tryz.underlying22 Tryz.underlying22 (by simpa [Act.eval] using ee1) ho (by simpa [Act.eval] using ee2) hu (by have := HLN.out; simp; omega) hp.size ?_
    intro v' w' h1 h2 h3 h4
    exact StepPost.mk' (hI.app q6 q7 (hp.trans h2) h1.sl)
  · intro D x w1 bA hI hD hdep hcl hb
    have q7 : D 7 = false := by cases h : D 7 with | false => rfl | true => (have := hcl 7 h 6 (by decide); rw [hD] at this; cases this)
    have d5 : D 5 = true := hdep 5 (by decide)
    obtain ⟨hbl, hsl⟩ := hI.a5 d5 hD
    have e19 : bA.tmps[19]?.getD undef = x 5 := hb 19
    have HOF := Lib.hid (of13_ref (x 5) (l.map (tmR 1) ++ m.map (tmR b)) w1 hsl (by have := HLN.out; simp; omega) HCB.out)
    refine wp_of_call ?_ (HOF.out.mono ?_) (f := 57)
    · clear hbl hsl hI hb hdep hcl hD q7 d5
      go_simp
    · rintro e w' ⟨v, r, he, hr, hg, hl, hbb⟩
      exact ⟨v, he, hI.call6 q7 (hbl.trans (hbb.mono hbl.size)) ⟨r, hr, hg, by simpa using hl⟩ d5⟩
  · intro D x w1 bA hI hD hdep hcl hb
    have d6 : D 6 = true := hdep 6 (by decide)
    obtain ⟨hbl, r, hr, hg, hlr⟩ := hI.a6 d6 hD
    have e20 : bA.tmps[20]?.getD undef = x 6 := hb 20
    have e6 : bA.tmps[6]?.getD undef = .pointer (some ⟨rb, 0, none⟩) := hb 6
    obtain ⟨bb, AR, nR, cR, eR, ebR, enR, _⟩ := hr.parts
    have qr := HR0.out.below hbl HR0.out.lt
    have c0 := qr.cell 0
    have c1 := qr.cell 1
    have f0 := qr.frozen 0
    have f1 := qr.frozen 1
    rw [eR] at e20 hr
    have HBX := Lib.hid (hr.box qr (.slice AR nR cR) (.bool bb))
    have HAX := Lib.hid ((qr.set 0 (.slice AR nR cR)).set 1 (.bool bb))
    have HBL := Lib.hid hbl
    have hII := Lib.hid hI
    have hcl5 : D 5 = true := hcl 6 d6 5 (by decide)
    have HG := Lib.hid hg
    have HLR := Lib.hid hlr
    clear hbl hr hg hlr qr ebR enR eR hb hI hdep hcl hD
    refine wp_of_skip (w' := (w1.setCell ⟨rb, 0, none⟩ (.slice AR nR cR)).setCell ⟨rb, 1, none⟩ (.bool bb)) ?_ (hII.out.store (hcl5 : D 5 = true) d6 ⟨r, AR, nR, cR, bb, HAX.out, HBX.out, HG.out, HLR.out, w1, HBL.out, fun k hk => by rw [Below.heap_setCell _ ⟨rb, 1, none⟩ _ k hk, Below.heap_setCell _ ⟨rb, 0, none⟩ _ k hk], rfl, rfl, rfl, by simp⟩)
    clear hII HBX HAX HBL HG HLR hcl5 d6
    go_simp
  intro D x w1 hI hall
  obtain ⟨r, AR, nR, cR, bb, HA, hrr, hgr, hlr, HBE⟩ := hI.a7 (hall 7 (by simp))
  simp only [putAll, dstOf, Act.put, List.map_cons, List.map_nil, List.setIfInBounds_toArray, List.set_cons_succ, List.set_cons_zero, Nat.reduceAdd]
  clear hI hall
  have HBF := Lib.hid HBE
  clear HBE
  have HAQ := Lib.hid HA
  go_wp2_with fail
  refine bodyPost_ret (v := .agg #[.slice AR nR cR, .bool bb]) (results_c Tryz.results56 _ _ rb 49 _ _ rfl HAQ.out Tryz.underlying49 rfl info_rp13) rfl ?_
  refine ⟨_, r, rfl, hrr, ?_, hlr, ?_⟩
  · have hF : (fun e => cg2 (l.map (tmR 1) ++ m.map (tmR b)) e) = (fun e => cg2 l e + b * cg2 m e) := by
      funext e
      rw [cg2_append, tmR_cg, tmR_cg, Int.one_mul]
    rw [hF] at hgr
    exact hgr
  · obtain ⟨w9, h1, h2, h3, h4, h5, h6⟩ := HBF.out
    have h7 := HB4.out.trans (h1.mono HB4.out.size)
    exact ⟨h3.trans h7.os, h4.trans h7.tape, h5.trans h7.output, by rw [h6]; exact h7.size, fun k hk => by rw [h2 k (by have := HLE.out; omega)]; exact h7.block k hk⟩
end Go.Proofs.YtbfggncmjdhapaaGreatDoor

namespace Go.Proofs.YtbfggncmjdhapaaGreatDoor
open Go.RowKit
set_option linter.unusedVariables false

theorem gth_uniq {F : K2 → Int} {r s : PolB} (h : GthP F r) (k : GthP F s) : r = s := by
  have key : ∀ (l : List T2), Can2 l → Lim2 l → (∀ e, cg2 l e = F e) → ∀ e, F e ≠ 0 → inB e (F e) := by
    intro l h1 h2 h3 e hne
    by_cases hm : ∃ t ∈ l, t.1 = e
    · obtain ⟨t, ht, hte⟩ := hm
      have h4 := cg2_mem h1.srt ht
      rw [hte, h3] at h4
      rw [h4, ← hte]
      exact ⟨h2.co t ht, h2.ea t ht, h2.ez t ht⟩
    · rw [← h3, cg2_out (fun t ht q => hm ⟨t, ht, q⟩)] at hne
      exact absurd rfl hne
  rcases h with ⟨l, rfl, h1, h2, h3⟩ | ⟨rfl, e, h1, h2⟩ <;> rcases k with ⟨m, rfl, k1, k2, k3⟩ | ⟨rfl, e', k1, k2⟩
  · rw [Can2.ext h1 k1 fun e => by rw [h3, k3]]
  · exact absurd (key l h1 h2 h3 e' k1) k2
  · exact absurd (key m k1 k2 k3 e h1) h2
  · rfl
theorem gth_trm (c a z : Int) : GthP (fun e => cg2 [((a, z), c)] e) (trmB c a z) := by
  unfold trmB
  by_cases h0 : c = 0
  · rw [if_pos h0]
    exact .inl ⟨[], rfl, Can2.nil, Lim2.nil, fun e => by rw [h0]; simp [cg2]⟩
  · rw [if_neg h0]
    by_cases h1 : wiB c 1125899906842624 = true ∧ wiB a 1048576 = true ∧ wiB z 1048576 = true
    · rw [if_pos h1]
      have h2 := h1
      unfold wiB at h2
      simp only [Bool.and_eq_true, decide_eq_true_eq] at h2
      exact .inl ⟨_, rfl, ⟨List.pairwise_singleton _ _, by simpa using h0⟩, ⟨by simp; omega, by simp; omega, by simp; omega⟩, fun e => rfl⟩
    · rw [if_neg h1]
      refine .inr ⟨rfl, (a, z), ?_, ?_⟩
      · show cg2 [((a, z), c)] (a, z) ≠ 0
        simpa [cg2] using h0
      · show ¬ inB (a, z) (cg2 [((a, z), c)] (a, z))
        have h3 : cg2 [((a, z), c)] (a, z) = c := by simp [cg2]
        rw [h3]
        rintro ⟨k1, k2, k3⟩
        refine h1 ⟨?_, ?_, ?_⟩
        · unfold wiB; simp; omega
        · unfold wiB; simp at k2 ⊢; omega
        · unfold wiB; simp at k3 ⊢; omega
theorem comb_uniq {f : Int → Int → Int} {p q r s : PolB} (h : CombB f p q r) (k : CombB f p q s) : r = s := by
  cases p with
  | none => cases q <;> exact h.trans k.symm
  | some p =>
    cases q with
    | none => exact h.trans k.symm
    | some q => exact gth_uniq h k
theorem OfB.uniq {l : List T2} {r s : PolB} (h : OfB l r) (k : OfB l s) : r = s := by
  suffices H : ∀ {l : List T2} {r : PolB}, OfB l r → ∀ {m : List T2} {s : PolB}, OfB m s → l = m → r = s from H h k rfl
  intro l r h
  induction h with
  | nil =>
    intro m s k e
    cases k with
    | nil => rfl
    | snoc a b => exact absurd e (by simp)
  | snoc a b ih =>
    intro m s k e
    cases k with
    | nil => exact absurd e (by simp)
    | snoc a2 b2 =>
      obtain ⟨e1, e2⟩ := List.append_inj' e rfl
      subst e1
      have e3 := List.singleton_inj.1 e2
      subst e3
      have := ih a2 rfl
      subst this
      exact comb_uniq b b2
/-- the state of the loop that adds terms -/
def Sm3 (w : World) (r0 r1 : Nat) (W : World) (L : List T2) : Prop := ∃ (r : PolB) (A : Option Addr) (n c : Nat) (b : Bool), Arr W r1 49 [.slice A n c, .bool b] ∧ R13 W (.agg #[.slice A n c, .bool b]) r ∧ OfB L r ∧ Arr W r0 49 [.slice none 0 0, .bool false] ∧ Below w.heap.size w W
theorem Sm3.below {w : World} {r0 r1 : Nat} {W W' : World} {L : List T2} (h : Sm3 w r0 r1 W L) (hb : Below W.heap.size W W') : Sm3 w r0 r1 W' L := by
  obtain ⟨r, A, n, c, b, h1, h2, h3, h4, h5⟩ := h
  exact ⟨r, A, n, c, b, h1.below hb h1.lt, h2.below hb, h3, h4.below hb h4.lt, h5.trans (hb.mono h5.size)⟩
set_option maxHeartbeats 4000000 in
set_option maxRecDepth 100000 in
theorem sum13 (v : Value) (l : List T2) (w : World) (hs : SlA tB w v l) (hl : l.length ≤ 100) (hb1 : ∀ t ∈ l, t.2.natAbs ≤ 1125899906842624) :
    Calls Tryz.prog 25 #[v] w fun e w' => ∃ v r, e = .returned v ∧ R13 w' v r ∧ OfB l r ∧ Below w.heap.size w w' := by
  have HS := Lib.hid (fun W (hb : Below w.heap.size w W) => hs.below hb)
  have HLB := Lib.hid hb1
  obtain ⟨A, c, rfl, hcA, _⟩ := hs
  clear hb1
  have hW : ∀ W, W = (w.alloc (.cells #[.slice none 0 0, .bool false] 49)).alloc (.cells #[.slice none 0 0, .bool false] 49) → Sm3 w w.heap.size (w.heap.size + 1) W [] := by
    intro W hW
    subst hW
    exact ⟨some [], none, 0, 0, false, Arr.newAt (w.alloc _) _ [_, _] _ (by simp), R13.zero _, OfB.nil, (Arr.new _ _ [_, _]).alloc _, ((Below.refl _ _).alloc (Nat.le_refl _) _).alloc (by simp) _⟩
  obtain ⟨n, hn⟩ : ∃ n, n = l.length := ⟨_, rfl⟩
  rw [← hn] at hl hcA HS ⊢
  have HN := Lib.hid hn
  clear hn
  go_enter Tryz.func25, Tryz.ntmps25
  go_upto_region 2 with fail
  generalize (w.alloc (.cells #[.slice none 0 0, .bool false] 49)).alloc (.cells #[.slice none 0 0, .bool false] 49) = w3 at hW ⊢
  have hst := hW w3 rfl
  obtain ⟨r0, hr0⟩ : ∃ r, r = w.heap.size := ⟨_, rfl⟩
  obtain ⟨r1, hr1⟩ : ∃ r, r = w.heap.size + 1 := ⟨_, rfl⟩
  have HLE := Lib.hid (show w.heap.size ≤ r1 by omega)
  have HL0 := Lib.hid (show w.heap.size ≤ r0 by omega)
  have HNE := Lib.hid (show r0 ≠ r1 by omega)
  rw [← hr1] at hst ⊢
  rw [← hr0] at hst ⊢
  have HST0 := Lib.hid hst
  clear hW hst hr0 hr1
  go_wp2_with fail
  go_loopg [8] n (fun gk s8 wr => ∃ k : Nat, k ≤ n ∧ gk = n - k ∧ s8 = .int .i64 (k : Int) ∧ Hid (Sm3 w r0 r1 wr (l.take k)))
  case atStart => exact ⟨0, Nat.zero_le _, rfl, rfl, HST0⟩
  case round =>
    clear HST0
    obtain ⟨k, hk, rfl, rfl, HST⟩ := hrel
    by_cases hlt : k < n
    · have z1 : (k : Int) < (n : Int) := by omega
      have hkl : k < l.length := by have := HN.out; omega
      obtain ⟨b, o, rfl, -, y0, y1, y2⟩ := (HS.out wr (by obtain ⟨_, _, _, _, _, _, _, _, _, h⟩ := HST.out; exact h)).at3 hkl
      have HE := Lib.hid (take_snocB hkl)
      have hbt := HLB.out _ (List.getElem_mem hkl)
      have HLK := Lib.hid (show (l.take k).length ≤ 100 by have := HN.out; simp; omega)
      obtain ⟨L, hL⟩ : ∃ L, L = l.take (k + 1) := ⟨_, rfl⟩
      rw [← hL] at HE
      have HLE2 := Lib.hid hL
      clear hL
      generalize l.take k = L0 at HE HST HLK
      generalize l[k] = t at *
      obtain ⟨⟨t1, t2⟩, t3⟩ := t
      simp only at y0 y1 y2 hbt
      have HBT := Lib.hid hbt
      have hW : ∀ W, W = wr.alloc (.cells #[.int .i64 t1, .int .i64 t2, .int .i64 t3] 34) → ∃ g, g = wr.heap.size ∧ Arr W g 34 [.int .i64 t1, .int .i64 t2, .int .i64 t3] ∧ Sm3 w r0 r1 W L0 := by
        intro W hW
        subst hW
        exact ⟨_, rfl, Arr.new _ _ [_, _, _], HST.out.below ((Below.refl _ _).alloc (Nat.le_refl _) _)⟩
      have HW := Lib.hid hW
      clear hW hbt
      go_upto_region 5 with fail
      have hW := HW.out
      clear HW HST y0 y1 y2
      generalize wr.alloc (.cells #[.int .i64 t1, .int .i64 t2, .int .i64 t3] 34) = w4 at hW ⊢
      obtain ⟨g, hg, hq5, r, A1, n1, c1, b1, hq1, hr1, ho1, hq0, hbw⟩ := hW w4 rfl
      rw [← hg]
      have HQ5 := Lib.hid hq5
      have HQ1 := Lib.hid hq1
      have HQ0 := Lib.hid hq0
      have HBW := Lib.hid hbw
      have HOF := Lib.hid (fun (x : Value) W (hx : SlA tB W x [((t1, t2), t3)]) => (show Calls Tryz.prog 57 #[x] W (fun e w' => ∃ v, e = .returned v ∧ R13 w' v (trmB t3 t1 t2) ∧ Below W.heap.size W w') from by
        refine (of13_ref x [((t1, t2), t3)] W hx (by simp) (by have := HBT.out; simp; omega)).mono ?_
        rintro e w' ⟨v, r, he, hr, hg, -, hbb⟩
        rw [gth_uniq hg (gth_trm t3 t1 t2)] at hr
        exact ⟨v, he, hr, hbb⟩))
      have HAD := Lib.hid (fun (x : Value) W (hb : Below w4.heap.size w4 W) (hx : R13 W x (trmB t3 t1 t2)) => (show Calls Tryz.prog 56 #[.agg #[.slice A1 n1 c1, .bool b1], x, .int .i64 1] W (fun e w' => ∃ v r, e = .returned v ∧ R13 w' v r ∧ OfB L r ∧ Below W.heap.size W w') from by
        refine (radd13 (.agg #[.slice A1 n1 c1, .bool b1]) x r (trmB t3 t1 t2) 1 W (hr1.below hb) hx ho1.ok (trm_ok _ _ _) (by have := ho1.len; have := HLK.out; omega) (by have := trm_len t3 t1 t2; omega) (.inl rfl)).mono ?_
        rintro e w' ⟨v, r', he, hr, hc, -, hbb⟩
        refine ⟨v, r', he, hr, ?_, hbb⟩
        rw [HE.out]
        exact OfB.snoc ho1 hc))
      clear hW hg hq5 hq1 hr1 ho1 hq0 hbw HE
      refine wp_region_phis 5 (by kernel_rfl) (by kernel_rfl) (by kernel_rfl) (by kernel_rfl) (by kernel_rfl) rfl (by kernel_rfl) (phiT (fun i => ([some (.agg #[.slice A1 n1 c1, .bool b1]), some (.agg #[.int .i64 t1, .int .i64 t2, .int .i64 t3]), none, none, none, some (undef)] : List (Option Value)).getD i none) (fun i v w => (if i = 2 then (fun v w => SlA tB w v [((t1, t2), t3)]) v w else (if i = 3 then (fun v w => R13 w v (trmB t3 t1 t2)) v w else (if i = 4 then (fun v w => ∃ r, R13 w v r ∧ OfB L r) v w else True))))) (fun i v w w' h hb => ?_) (fun i => false) (fun i v w hi h k hk => ?_) (fun _ W => Sm3 w r0 r1 W L) ⟨?_, ?_, ?_, ?_, ?_, ?_, trivial⟩ ?_
      · unfold phiT at h ⊢
        split
        · next u hu => rw [hu] at h; exact h
        · next hu =>
          rw [hu] at h
          simp only at h ⊢
          by_cases q2 : i = 2
          · rw [if_pos q2] at h ⊢; exact SlA.below h hb
          · rw [if_neg q2] at h ⊢
            by_cases q3 : i = 3
            · rw [if_pos q3] at h ⊢; exact R13.below h hb
            · rw [if_neg q3] at h ⊢
              by_cases q4 : i = 4
              · rw [if_pos q4] at h ⊢; exact (by obtain ⟨r, h1, h2⟩ := h; exact ⟨r, h1.below hb, h2⟩)
              · rw [if_neg q4] at h ⊢
                trivial
      · simp only [Bool.or_eq_true, decide_eq_true_eq, Bool.false_eq_true] at hi
      · intro x w1 bA hbel hdep hdap hold hb
        refine ⟨fun _ => ?_, fun h => absurd h (by decide)⟩
        have e3 : bA.tmps[3]?.getD undef = .pointer (some ⟨r1, 0, none⟩) := hb 3
        have cc0 := (HQ1.out.below hbel HQ1.out.lt).cell 0
        have cc1 := (HQ1.out.below hbel HQ1.out.lt).cell 1
        refine phf_run (.agg #[.slice A1 n1 c1, .bool b1]) rfl ?_ rfl
        clear hb hdep hdap hold
        go_simp
      · intro x w1 bA hbel hdep hdap hold hb
        refine ⟨fun _ => ?_, fun h => absurd h (by decide)⟩
        have e5 : bA.tmps[5]?.getD undef = .pointer (some ⟨g, 0, none⟩) := hb 5
        have cc0 := (HQ5.out.below hbel HQ5.out.lt).cell 0
        have cc1 := (HQ5.out.below hbel HQ5.out.lt).cell 1
        have cc2 := (HQ5.out.below hbel HQ5.out.lt).cell 2
        refine phf_run (.agg #[.int .i64 t1, .int .i64 t2, .int .i64 t3]) rfl ?_ rfl
        clear hb hdep hdap hold
        go_simp
      · intro x w1 bA hbel hdep hdap hold hb
        refine ⟨fun _ => ?_, fun h => absurd h (by decide)⟩
        have e13 : bA.tmps[13]?.getD undef = .agg #[.int .i64 t1, .int .i64 t2, .int .i64 t3] := (hb 13).trans (hdep 1 (by decide))
        refine phf_make (.slice (some ⟨w1.heap.size, 0, none⟩) 1 1) (w1.alloc (.cells #[.int .i64 t1, .int .i64 t2, .int .i64 t3] 34)) ?_ ((Below.refl _ _).alloc (Nat.le_refl _) _) ((OwnA.lit (w := w1) (e := 34) (sz := 3) (enc := tB) (xs := [((t1, t2), t3)]) (fun x _ => rfl) (Nat.le_refl _) (by simp) (by simp)).sl) (fun e => Bool.noConfusion e)
        clear hb hdep hdap hold
        go_simp
      · intro x w1 bA hbel hdep hdap hold hb
        refine ⟨fun _ => ?_, fun h => absurd h (by decide)⟩
        have p14 := hdep 2 (by decide)
        have e14 : bA.tmps[14]?.getD undef = x 2 := hb 14
        generalize x 2 = x14 at *
        have P14 := Lib.hid (show (fun v w => SlA tB w v [((t1, t2), t3)]) x14 w1 from p14)
        clear p14
        refine phf_call ?_ ((HOF.out x14 w1 P14.out).mono fun e w' h => (by obtain ⟨v, he, hr, hbb⟩ := h; exact ⟨v, he, hbb, hr, fun e => Bool.noConfusion e⟩))
        clear hb hdep hdap hold
        go_simp
      · intro x w1 bA hbel hdep hdap hold hb
        refine ⟨fun _ => ?_, fun h => absurd h (by decide)⟩
        have e12 : bA.tmps[12]?.getD undef = .agg #[.slice A1 n1 c1, .bool b1] := (hb 12).trans (hdep 0 (by decide))
        have p15 := hdep 3 (by decide)
        have e15 : bA.tmps[15]?.getD undef = x 3 := hb 15
        generalize x 3 = x15 at *
        have P15 := Lib.hid (show (fun v w => R13 w v (trmB t3 t1 t2)) x15 w1 from p15)
        clear p15
        refine phf_call ?_ ((HAD.out x15 w1 hbel P15.out).mono fun e w' h => (by obtain ⟨v, r, he, hr, ho, hbb⟩ := h; exact ⟨v, he, hbb, ⟨r, hr, ho⟩, fun e => Bool.noConfusion e⟩))
        clear hb hdep hdap hold
        go_simp
      · intro x w1 bA hbel hdep hdap hold hb
        refine ⟨fun h => absurd h (by decide), fun _ hall => ?_⟩
        have e3 : bA.tmps[3]?.getD undef = .pointer (some ⟨r1, 0, none⟩) := hb 3
        have e16 : bA.tmps[16]?.getD undef = x 4 := hb 16
        have p14 := Lib.hid (show (fun v w => SlA tB w v [((t1, t2), t3)]) (x 2) w1 from hall 2 (by decide))
        have p15 := Lib.hid (show (fun v w => R13 w v (trmB t3 t1 t2)) (x 3) w1 from hall 3 (by decide))
        have p16 := Lib.hid (show (fun v w => ∃ r, R13 w v r ∧ OfB L r) (x 4) w1 from hall 4 (by decide))
        clear hb hdep hdap hold
        obtain ⟨rr, hr, ho⟩ := p16.out
        obtain ⟨bb, AR, nR, cR, eR, ebR, enR, _⟩ := hr.parts
        have qr := HQ1.out.below hbel HQ1.out.lt
        have c0 := qr.cell 0
        have c1 := qr.cell 1
        have f0 := qr.frozen 0
        have f1 := qr.frozen 1
        rw [eR] at e16 hr
        have HBX := Lib.hid (hr.box qr (.slice AR nR cR) (.bool bb))
        have HAX := Lib.hid ((qr.set 0 (.slice AR nR cR)).set 1 (.bool bb))
        have HBL := Lib.hid hbel
        have HO := Lib.hid ho
        clear hr ho qr ebR enR p14 p15 p16 hbel eR hall
        refine phs_store (x := x) (n := 5) (R := fun _ W => Sm3 w r0 r1 W L) ((w1.setCell ⟨r1, 0, none⟩ (.slice AR nR cR)).setCell ⟨r1, 1, none⟩ (.bool bb)) ?_ rfl (fun _ => ⟨rr, AR, nR, cR, bb, HAX.out, HBX.out, HO.out, (HQ0.out.below HBL.out HQ0.out.lt).far2 HNE.out, ((HBW.out.trans (HBL.out.mono HBW.out.size)).setCell (p := ⟨r1, 0, none⟩) HLE.out _).setCell (p := ⟨r1, 1, none⟩) HLE.out _⟩)
        go_simp
      intro x w1 hR
      simp only [putAll, dstOf, Act.put, List.map_cons, List.map_nil, List.setIfInBounds_toArray, List.set_cons_succ, List.set_cons_zero, Nat.reduceAdd]
      have HR := Lib.hid hR
      clear hR HOF HAD HQ5 HQ1 HQ0 HBW
      go_wp2_with fail
      go_roundg (n - (k + 1))
      case measure => omega
      case rel => exact ⟨k + 1, by omega, rfl, by go_num, by rw [← HLE2.out]; exact HR⟩
    · have z1 : ¬ (k : Int) < (n : Int) := by omega
      have hkk : l.take k = l := List.take_of_length_le (by have := HN.out; omega)
      rw [hkk] at HST
      obtain ⟨r, A1, n1, c1, b1, hq1, hr1, ho1, hq0, hbw⟩ := HST.out
      have y0 := hq1.cell 0
      have y1 := hq1.cell 1
      have x0 := hq0.cell 0
      have x1 := hq0.cell 1
      have f0 := hq0.frozen 0
      have f1 := hq0.frozen 1
      have HRS := Lib.hid ((hq0.set 0 (.slice A1 n1 c1)).set 1 (.bool b1))
      have HPB := Lib.hid (hr1.box hq0 (.slice A1 n1 c1) (.bool b1))
      have HBE := Lib.hid ((hbw.setCell (p := ⟨r0, 0, none⟩) HL0.out (.slice A1 n1 c1)).setCell (p := ⟨r0, 1, none⟩) HL0.out (.bool b1))
      have HO := Lib.hid ho1
      clear hq1 hr1 ho1 hq0 hbw HST hkk
      go_wp2_with fail
      refine bodyPost_ret (v := .agg #[.slice A1 n1 c1, .bool b1]) (results_c Tryz.results25 _ _ r0 49 _ _ rfl HRS.out Tryz.underlying49 rfl info_rp13) rfl ?_
      exact ⟨_, rfl, r, HPB.out, HO.out, HBE.out⟩
end Go.Proofs.YtbfggncmjdhapaaGreatDoor
