/- slices.Equal at terms; laurent's Equal. -/
/- Polynomials in one variable told by a list of terms: contracts. -/
/- laurent.Sub. -/
/- SurfacePolynomials: the plain law and contracts. -/
import Derived.Test.YtjeklcgfffibpaaGreatDoorZPad
import Derived.Laws.StructEq
import Derived.Test.YtjeklcgfffibpaaGreatDoorZMua
import Derived.Test.YtjeklcgfffibpaaGreatDoorZAug
import Derived.Test.YtjeklcgfffibpaaGreatDoorZOfp
import Derived.Test.YtjeklcgfffibpaaGreatDoorZAwa
namespace Go.Proofs.YtjeklcgfffibpaaGreatDoor
open Go.RowKit
set_option linter.unusedVariables false

def eqT (s t : Int × Int) : Bool := decide (s = t)
theorem neq_term (a b c d : Int) (w : World) : (binOp .neq 68 (.agg #[.int .i64 a, .int .i64 b]) (.agg #[.int .i64 c, .int .i64 d])).run Tryz.prog w = .ok (.bool (!eqT (a, b) (c, d))) w := by
  have u3 := Tryz.underlying3
  have a3 := Tryz.isAgg3
  have z3 := Tryz.sizeOf3
  have hS : Tryz.prog.underlying 68 = some (.struct (Tryz.prog.fieldsOf 68)) := by kernel_rfl
  have hp : Tryz.prog.stoodInHeld 68 = false := by kernel_rfl
  rw [run_neq_struct, show (10000 : Nat) = 9999 + 1 from rfl, run_equalIn_agg w 9999 68 _ _ hS hp]
  simp only [Program.fieldsOf, Tryz.underlying68]
  go_simp
  unfold eqT
  by_cases h1 : a = c <;> by_cases h2 : b = d <;> simp [h1, h2]
theorem guard_term (op : BinOp) (x y : Operand) (xs ys : Array Value) (w : World) : (eqGuard op 68 x y (.agg xs) (.agg ys)).run Tryz.prog w = .ok () w :=
  run_eqGuard_agg w op _ x y xs ys (by kernel_rfl)
def eqL (l m : List (Int × Int)) : Bool := decide (l = m)
theorem eqL_ne {l m : List (Int × Int)} {k : Nat} (h1 : k < l.length) (h2 : k < m.length) (h : eqT l[k] m[k] = false) : eqL l m = false := by
  unfold eqL
  refine decide_eq_false fun e => ?_
  subst e
  unfold eqT at h
  simp at h
set_option maxHeartbeats 2000000 in
set_option maxRecDepth 100000 in
theorem slEqual_any (A A2 : Option Addr) (n n2 c c2 : Nat) (l m : List (Int × Int)) (w : World) (h : Tms w (.slice A n c) l) (k : Tms w (.slice A2 n2 c2) m) (hn : n = l.length) (hn2 : n2 = m.length) (hl : l.length ≤ 4611686018427387904) (hm : m.length ≤ 4611686018427387904) :
    Calls Tryz.prog 44 #[.slice A n c, .slice A2 n2 c2] w fun e w' => e = .returned (.bool (eqL l m)) ∧ ∃ q, w' = w.drewN q := by
  subst hn hn2
  obtain ⟨V, hV⟩ : ∃ V, V = eqL l m := ⟨_, rfl⟩
  rw [← hV]
  have HV := Lib.hid hV
  clear hV
  have HL := Lib.hid h
  have HM := Lib.hid k
  clear h k
  by_cases hlm : l.length = m.length
  · have HLM := Lib.hid hlm
    have z0 : ((l.length : Int) != (m.length : Int)) = false := by rw [hlm]; simp
    clear hlm
    go_enter Tryz.func44, Tryz.ntmps44
    go_wp2_with fail
    go_loopg [13] l.length (fun gk s13 wr => ∃ k q : Nat, k ≤ l.length ∧ gk = l.length - k ∧ s13 = .int .i64 (k : Int) ∧ wr = w.drewN q ∧ Hid (l.take k = m.take k))
    case atStart => exact ⟨0, 0, Nat.zero_le _, rfl, rfl, rfl, Lib.hid rfl⟩
    case round =>
      obtain ⟨k, q, hk, rfl, rfl, rfl, HK⟩ := hrel
      by_cases hlt : k < l.length
      · have hlt2 : k < m.length := by have := HLM.out; omega
        have z1 : (k : Int) < (l.length : Int) := by omega
        have z2 : (k : Int) < (m.length : Int) := by omega
        obtain ⟨b, o, rfl, _, y0, y1⟩ := HL.out.at_ hlt
        obtain ⟨b2, o2, rfl, _, x0, x1⟩ := HM.out.at_ hlt2
        have HN := Lib.hid (fun h => eqL_ne hlt hlt2 h)
        have HY := Lib.hid (fun (h : eqT l[k] m[k] = true) => (show l.take (k + 1) = m.take (k + 1) from by
          rw [take_snoc' hlt, take_snoc' hlt2, HK.out, of_decide_eq_true h]))
        clear HK
        generalize l[k] = s at *
        generalize m[k] = t at *
        obtain ⟨s1, s2⟩ := s
        obtain ⟨t1, t2⟩ := t
        have hne := fun (W : World) => neq_term s1 s2 t1 t2 W
        have hgd := fun (op : BinOp) (x y : Operand) (W : World) => guard_term op x y #[.int .i64 s1, .int .i64 s2] #[.int .i64 t1, .int .i64 t2] W
        cases hE : eqT (s1, s2) (t1, t2) with
        | true =>
          rw [hE] at hne
          have HK2 := Lib.hid (HY.out hE)
          clear HY HN hE
          go_wp2_with fail
          go_quiet (fail)
          go_wp2_with fail
          go_roundg (l.length - (k + 1))
          case measure => omega
          case rel => exact ⟨k + 1, q + nq, by omega, rfl, by go_num, rfl, HK2⟩
        | false =>
          rw [hE] at hne
          have HF := Lib.hid (HN.out hE)
          clear HY HN hE
          go_wp2_with fail
          go_quiet (fail)
          go_wp2_with fail
          go_ret
          exact ⟨by rw [HV.out, HF.out]; rfl, q + nq, World.drewN_drewN _ _ _⟩
      · have z1 : ¬ (k : Int) < (l.length : Int) := by omega
        have HT := Lib.hid (show V = true from by
          rw [HV.out]
          refine decide_eq_true ?_
          have h1 := HK.out
          obtain rfl : k = l.length := by omega
          rw [List.take_length, HLM.out, List.take_length] at h1
          exact h1)
        clear HK
        go_wp2_with fail
        go_ret
        exact ⟨by rw [HT.out]; rfl, q, rfl⟩
  · have z0 : ((l.length : Int) != (m.length : Int)) = true := by simp; omega
    have HF := Lib.hid (show V = false from by rw [HV.out]; exact decide_eq_false fun e => hlm (by rw [e]))
    clear hlm
    go_enter Tryz.func44, Tryz.ntmps44
    go_wp2_with fail
    go_ret
    exact ⟨by rw [HF.out]; rfl, 0, rfl⟩
def eqP (p q : Pol) : Bool := decide (p = q)
set_option maxHeartbeats 2000000 in
set_option maxRecDepth 100000 in
theorem Equal_any (vp vq : Value) (p q : Pol) (w : World) (hp : PolyV w vp p) (hq : PolyV w vq q) (okp : okP p) (okq : okP q) :
    Calls Tryz.prog 18 #[vp, vq] w fun e w' => e = .returned (.bool (eqP p q)) ∧ Below w.heap.size w w' := by
  have hlp : (p.getD []).length ≤ 4611686018427387904 := by
    cases p with
    | none => simp
    | some l => have := okp.2.len okp.1; simp only [Option.getD_some]; omega
  have hlq : (q.getD []).length ≤ 4611686018427387904 := by
    cases q with
    | none => simp
    | some l => have := okq.2.len okq.1; simp only [Option.getD_some]; omega
  obtain ⟨A, c, rfl, h1⟩ := hp
  obtain ⟨A2, c2, rfl, h2⟩ := hq
  have HS := Lib.hid (fun (W : World) (hb : Below w.heap.size w W) => slEqual_any A A2 _ _ c c2 _ _ W (h1.below hb) (h2.below hb) rfl rfl hlp hlq)
  have hE : eqP p q = (p.isNone == q.isNone && eqL (p.getD []) (q.getD [])) := by
    unfold eqP eqL
    cases p <;> cases q <;> simp
  rw [hE]
  clear hE okp okq h1 h2 hlp hlq
  generalize p.isNone = b1 at *
  generalize q.isNone = b2 at *
  generalize eqL (p.getD []) (q.getD []) = E at *
  generalize (p.getD []).length = n at *
  generalize (q.getD []).length = n2 at *
  have hW : ∀ W, W = ((w.alloc (.cells #[.bool b1, .slice A n c] 39)).alloc (.cells #[.bool b2, .slice A2 n2 c2] 39)) → Arr W w.heap.size 39 [.bool b1, .slice A n c] ∧ Arr W (w.heap.size + 1) 39 [.bool b2, .slice A2 n2 c2] ∧ Below w.heap.size w W := by
    intro W hW
    subst hW
    exact ⟨(Arr.new _ _ [_, _]).alloc _, Arr.newAt (w.alloc _) _ [_, _] _ (by simp), ((Below.refl _ _).alloc (Nat.le_refl _) _).alloc (by simp) _⟩
  go_enter Tryz.func18, Tryz.ntmps18
  go_upto_region 1 with fail
  generalize ((w.alloc (.cells #[.bool b1, .slice A n c] 39)).alloc (.cells #[.bool b2, .slice A2 n2 c2] 39)) = w3 at hW ⊢
  obtain ⟨qp, qq, hb3⟩ := hW w3 rfl
  clear hW
  have y0 := qp.cell 0
  have y1 := qp.cell 1
  have x0 := qq.cell 0
  have x1 := qq.cell 1
  have HC := Lib.hid (HS.out w3 hb3)
  clear HS qp qq
  by_cases hb : b1 = b2
  · subst hb
    have z : (b1 == b1) = true := by simp
    go_wp2_with fail
    refine HC.out.mono ?_
    rintro e w4 ⟨rfl, q4, rfl⟩
    go_wp2_with fail
    go_ret
    exact ⟨by simp, bdrewN hb3 q4⟩
  · have z : (b1 == b2) = false := by simp [hb]
    go_wp2_with fail
    go_ret
    exact ⟨by rw [z]; rfl, hb3⟩
end Go.Proofs.YtjeklcgfffibpaaGreatDoor

namespace Go.Proofs.YtjeklcgfffibpaaGreatDoor
open Go.RowKit
set_option linter.unusedVariables false

abbrev T1 := Int × Int
/-- the sum of the absolute values -/
def asum1 : List T1 → Nat
  | [] => 0
  | t :: l => t.2.natAbs + asum1 l
theorem asum1_append (l m : List T1) : asum1 (l ++ m) = asum1 l + asum1 m := by
  induction l with
  | nil => simp [asum1]
  | cons t l ih => rw [List.cons_append, asum1, asum1, ih]; omega
theorem asum1_map (s : T1) (m : List T1) : asum1 (m.map fun t => (s.1 + t.1, s.2 * t.2)) = s.2.natAbs * asum1 m := by
  induction m with
  | nil => simp [asum1]
  | cons t m ih => rw [List.map_cons, asum1, asum1, ih, Int.natAbs_mul, Nat.mul_add]
theorem asum1_prs (l m : List T1) : asum1 (prs l m) = asum1 l * asum1 m := by
  induction l with
  | nil => simp [prs, asum1]
  | cons s l ih => rw [prs, asum1_append, asum1_map, ih, asum1, Nat.add_mul]
theorem cf_asum (l : List T1) (e : Int) : (cf l e).natAbs ≤ asum1 l := by
  induction l with
  | nil => simp [cf_nil, asum1]
  | cons t l ih => rw [show t :: l = [t] ++ l from rfl, cf_append, cf_one, List.singleton_append, asum1]; split <;> omega
/-- the exponents are at most N in absolute value -/
def Eb1 (N : Nat) (l : List T1) : Prop := ∀ t ∈ l, -(N : Int) ≤ t.1 ∧ t.1 ≤ N
theorem Eb1.append {N : Nat} {l m : List T1} (h : Eb1 N l) (k : Eb1 N m) : Eb1 N (l ++ m) := fun t ht => by
  rcases List.mem_append.1 ht with ht | ht
  · exact h t ht
  · exact k t ht
theorem Eb1.nil (N : Nat) : Eb1 N [] := fun t h => by cases h
theorem Eb1.mono {N M : Nat} {l : List T1} (h : Eb1 N l) (hm : N ≤ M) : Eb1 M l := fun t ht => by have := h t ht; omega
theorem Eb1.mul {N M : Nat} {l m : List T1} (h : Eb1 N l) (k : Eb1 M m) : Eb1 (N + M) (prs l m) := fun t ht => by
  obtain ⟨s, hs, u, hu, rfl⟩ := prs_mem ht
  have h1 := h s hs
  have h2 := k u hu
  simp only
  omega
/-- v is the polynomial that the terms L sum up to -/
def QL (w : World) (v : Value) (L : List T1) : Prop := ∃ l, PolyV w v (some l) ∧ Can l ∧ Lim l ∧ ∀ e, cf l e = cf L e
theorem QL.below {w w' : World} {v : Value} {L : List T1} (h : QL w v L) (hb : Below w.heap.size w w') : QL w' v L := by
  obtain ⟨l, h1, h2⟩ := h
  exact ⟨l, h1.below hb, h2⟩
theorem QL.congr {w : World} {v : Value} {L M : List T1} (h : QL w v L) (hg : ∀ e, cf L e = cf M e) : QL w v M := by
  obtain ⟨l, h1, h2, h3, h4⟩ := h
  exact ⟨l, h1, h2, h3, fun e => (h4 e).trans (hg e)⟩
theorem QL.form {w : World} {v : Value} {L : List T1} (h : QL w v L) : ∃ (A : Option Addr) (n c : Nat), v = .agg #[.bool false, .slice A n c] := by
  obtain ⟨l, h1, _⟩ := h
  obtain ⟨b, A, n, c, e, j, _⟩ := h1.parts
  exact ⟨A, n, c, by rw [e, j]; rfl⟩
theorem QL.zero (w : World) : QL w (.agg #[.bool false, .slice none 0 0]) [] := ⟨[], PolyV.zero w, Can.nil, Lim.nil, fun e => rfl⟩
theorem QL.box {w : World} {v : Value} {L : List T1} {g : Nat} {t : TypeId} {b : Bool} {A : Option Addr} {n c : Nat} (h : QL w v L) (hg : Arr w g t [.bool b, .slice A n c]) (u1 u2 : Value) : QL ((w.setCell ⟨g, 0, none⟩ u1).setCell ⟨g, 1, none⟩ u2) v L := by
  obtain ⟨l, h1, h2⟩ := h
  exact ⟨l, h1.box hg u1 u2, h2⟩
def QLR (L : List T1) (w : World) (e : Ending) (w' : World) : Prop := ∃ v, e = .returned v ∧ Below w.heap.size w w' ∧ QL w' v L
theorem MulQ {N M : Nat} (vp vq : Value) (L K : List T1) (w : World) (hp : QL w vp L) (hq : QL w vq K) (hb : asum1 L * asum1 K ≤ 1125899906842624) (eN : Eb1 N L) (eM : Eb1 M K) (hN : N + M ≤ 1048576) : Calls Tryz.prog 16 #[vp, vq] w (QLR (prs L K) w) := by
  obtain ⟨p, hp, cp, lp, ep⟩ := hp
  obtain ⟨q, hq, cq, lq, eq⟩ := hq
  refine (Mul_any vp vq (some p) (some q) w hp hq ⟨cp, lp⟩ ⟨cq, lq⟩).mono fun e w' ⟨v, r, he, hv, hr, hbel⟩ => ?_
  have h0 : ∀ e, cv p q e = cf (prs L K) e := fun e => by rw [cf_prs]; exact cv_congr ep eq e
  obtain ⟨l, rfl, h1, h2, h3⟩ := MulP.some hr (fun e => by rw [h0]; have := cf_asum (prs L K) e; rw [asum1_prs] at this; omega) (fun s hs t ht => by
    obtain ⟨a, ha, e1⟩ := cf_ne (l := L) (e := s.1) (by rw [← ep]; exact cp.ne hs)
    obtain ⟨b, hb2, e2⟩ := cf_ne (l := K) (e := t.1) (by rw [← eq]; exact cq.ne ht)
    have h1 := eN a ha
    have h2 := eM b hb2
    rw [e1] at h1
    rw [e2] at h2
    omega)
  exact ⟨v, he, hbel, l, hv, h1, h2, fun e => by rw [h3, h0]⟩
theorem EqualQ (vp vq : Value) (L M : List T1) (w : World) (hp : QL w vp L) (hq : QL w vq M) (hFG : ∀ e, cf L e = cf M e) : Calls Tryz.prog 18 #[vp, vq] w fun e w' => e = .returned (.bool true) ∧ Below w.heap.size w w' := by
  obtain ⟨p, hp, cp, lp, ep⟩ := hp
  obtain ⟨q, hq, cq, lq, eq⟩ := hq
  refine (Equal_any vp vq (some p) (some q) w hp hq ⟨cp, lp⟩ ⟨cq, lq⟩).mono fun e w' ⟨he, hbel⟩ => ⟨?_, hbel⟩
  have : p = q := cp.ext cq (fun e => by rw [ep, eq, hFG])
  rw [he, show eqP (some p) (some q) = true from by rw [this]; exact decide_eq_true rfl]
end Go.Proofs.YtjeklcgfffibpaaGreatDoor

namespace Go.Proofs.YtjeklcgfffibpaaGreatDoor
open Go.RowKit
set_option linter.unusedVariables false

set_option maxHeartbeats 1000000 in
theorem clo_sub : CloW 43 (fun a b => a - b) where
  eg := enters_of Tryz.func43 (by kernel_rfl) rfl
  ca := fun a b W h1 h2 h3 h4 => by
    go_enter Tryz.func43, Tryz.ntmps43
    go_wp2_with fail
    go_ret
    exact ⟨rfl, rfl⟩
  f0 := rfl
  bd := fun a b h1 h2 h3 h4 => ⟨by show _ ≤ a - b; omega, by show a - b ≤ _; omega⟩
set_option maxHeartbeats 1000000 in
set_option maxRecDepth 100000 in
theorem Sub_any (vp vq : Value) (p q : Pol) (w : World) (hp : PolyV w vp p) (hq : PolyV w vq q) (okp : okP p) (okq : okP q) :
    Calls Tryz.prog 17 #[vp, vq] w (CombR (fun a b => a - b) p q w) := by
  have HC := Lib.hid (fun W (hb : Below w.heap.size w W) => combine_any 43 _ clo_sub vp vq p q W (hp.below hb) (hq.below hb) okp okq)
  obtain ⟨b1, A, n, c, rfl, j1, j2⟩ := hp.parts
  obtain ⟨b2, A2, n2, c2, rfl, j3, j4⟩ := hq.parts
  clear hp okp j1 j2 hq okq j3 j4
  have hW : ∀ W, W = (((w.alloc (.cells #[.bool b1, .slice A n c] 39)).alloc (.cells #[.bool b2, .slice A2 n2 c2] 39)).alloc (.cells #[.bool false, .slice none 0 0] 39)) → Arr W w.heap.size 39 [.bool b1, .slice A n c] ∧ Arr W (w.heap.size + 1) 39 [.bool b2, .slice A2 n2 c2] ∧ Arr W (w.heap.size + 2) 39 [.bool false, .slice none 0 0] ∧ Below w.heap.size w W := by
    intro W hW
    subst hW
    exact ⟨((Arr.new _ _ [_, _]).alloc _).alloc _, (Arr.newAt (w.alloc _) _ [_, _] _ (by simp)).alloc _, Arr.newAt ((w.alloc _).alloc _) _ [_, _] _ (by simp), (((Below.refl _ _).alloc (Nat.le_refl _) _).alloc (by simp) _).alloc (by simp <;> omega) _⟩
  go_enter Tryz.func17, Tryz.ntmps17
  go_upto_region 1 with fail
  generalize (((w.alloc (.cells #[.bool b1, .slice A n c] 39)).alloc (.cells #[.bool b2, .slice A2 n2 c2] 39)).alloc (.cells #[.bool false, .slice none 0 0] 39)) = w3 at hW ⊢
  obtain ⟨qp, qq, qr, hb3⟩ := hW w3 rfl
  clear hW
  have y0 := qp.cell 0
  have y1 := qp.cell 1
  have y2 := qq.cell 0
  have y3 := qq.cell 1
  have HC3 := Lib.hid (HC.out w3 hb3)
  clear HC
  go_wp2_with fail
  ((with_reducible refine HC3.out.mono ?_); skip)
  rintro e w4 ⟨v, r, rfl, hv, hr, hb4⟩
  have q4 := qr.below hb4 qr.lt
  have hb4' := hb3.trans (hb4.mono hb3.size)
  have HV := Lib.hid (fun u1 u2 => hv.box q4 u1 u2)
  have HR := Lib.hid hr
  obtain ⟨b5, A5, n5, c5, rfl, j5, j6⟩ := hv.parts
  clear j5 j6 hv hr y0 y1 qp qr HC3 y2 y3 qq
  have x0 := q4.cell 0
  have x1 := q4.cell 1
  have f0 := q4.frozen 0
  have f1 := q4.frozen 1
  have hres := Lib.hid ((q4.set 0 (.bool b5)).set 1 (.slice A5 n5 c5))
  go_wp2_with fail
  refine bodyPost_ret (v := .agg #[.bool b5, .slice A5 n5 c5]) (results_c Tryz.results17 _ _ (w.heap.size + 2) 39 _ _ rfl hres.out Tryz.underlying39 rfl info_poly) rfl ?_
  exact ⟨_, r, rfl, HV.out _ _, HR.out, (hb4'.setCell (p := ⟨w.heap.size + 2, 0, none⟩) (by simp) _).setCell (p := ⟨w.heap.size + 2, 1, none⟩) (by simp) _⟩
end Go.Proofs.YtjeklcgfffibpaaGreatDoor

namespace Go.Proofs.YtjeklcgfffibpaaGreatDoor
open Go.RowKit
set_option linter.unusedVariables false

theorem ev2L (a b x : Int) : evQ 0 x (ofL 0 [a, b]) = a + b * x := by
  rw [evQ_ofL 0 x [a, b] 0 (by simp)]
  simp [ev]
  grind
theorem ev3L (a b c x : Int) : evQ 0 x (ofL 0 [a, b, c]) = a + b * x + c * x * x := by
  rw [evQ_ofL 0 x [a, b, c] 0 (by simp)]
  simp [ev]
  grind
theorem al_1 (a : Int) : alM [[a]] = [[ofL 0 [a, -a]]] := by
  simp [alM, alR, alE, gm, List.range_succ]
theorem al_2 (a b c d : Int) : alM [[a, b], [c, d]] = [[ofL 0 [a, -a], ofL 0 [b, -c]], [ofL 0 [c, -b], ofL 0 [d, -d]]] := by
  simp [alM, alR, alE, gm, List.range_succ]
theorem det_1 (a x : Int) : evQ 0 x (ofL 0 [a, -a]) = detE 0 (alM [[a]]) x := by
  rw [al_1]
  simp [detE, dt, sumI, sgn]
def cs2 (a b c d : Int) : List Int := [a * d - b * c, b * b + c * c - 2 * (a * d), a * d - b * c]
theorem det_2 (a b c d x : Int) : evQ 0 x (ofL 0 (cs2 a b c d)) = detE 0 (alM [[a, b], [c, d]]) x := by
  rw [al_2, cs2, ev3L]
  simp [detE, dt, List.range', sumI, sgn, skp, ev2L]
  grind
theorem cf_2L (a b e : Int) : cf (ofL 0 [a, b]) e = cf [(0, a), (1, b)] e := by
  by_cases h1 : a = 0 <;> by_cases h2 : b = 0 <;> simp [ofL, cf, h1, h2]
theorem cf_3L (a b c e : Int) : cf (ofL 0 [a, b, c]) e = cf [(0, a), (1, b), (2, c)] e := by
  by_cases h1 : a = 0 <;> by_cases h2 : b = 0 <;> by_cases h3 : c = 0 <;> simp [ofL, cf, h1, h2, h3]
def yL (a b c d : Int) : List T1 := prs [(0, a), (1, -a)] [(0, d), (1, -d)] ++ negL (prs [(0, b), (1, -c)] [(0, c), (1, -b)])
theorem y_cf (a b c d e : Int) : cf (ofL 0 (cs2 a b c d)) e = cf (yL a b c d) e := by
  rw [cs2, cf_3L]
  simp only [yL, prs, negL, List.map_cons, List.map_nil, List.append_nil, List.cons_append, List.nil_append, cf]
  by_cases h0 : e = 0
  · subst h0; simp; grind
  · by_cases h1 : e = 1
    · subst h1; simp; grind
    · by_cases h2 : e = 2
      · subst h2; simp; grind
      · have g0 : ¬ (0 = e) := fun h => h0 h.symm
        have g1 : ¬ (1 = e) := fun h => h1 h.symm
        have g2 : ¬ (2 = e) := fun h => h2 h.symm
        simp [g0, g1, g2]
theorem lim_ofL {cs : List Int} (hl : cs.length ≤ 3) (h : ∀ c ∈ cs, -1125899906842624 ≤ c ∧ c ≤ 1125899906842624) : Lim (ofL 0 cs) := by
  refine ofL_lim ?_
  have key : ∀ (cs : List Int) (low : Int), 0 ≤ low → low + cs.length ≤ 3 → (∀ c ∈ cs, -1125899906842624 ≤ c ∧ c ≤ 1125899906842624) → ofB low cs = true := by
    intro cs
    induction cs with
    | nil => intro low _ _ _; rfl
    | cons c cs ih =>
      intro low h0 h1 h2
      rw [List.length_cons] at h1
      rw [ofB, ih (low + 1) (by omega) (by omega) fun z hz => h2 z (List.mem_cons_of_mem _ hz)]
      have := h2 c (by simp)
      simp
      right
      omega
  exact key cs 0 (by omega) (by omega) h
theorem ofL_0 {cs : List Int} : ∀ t ∈ ofL 0 cs, 0 ≤ t.1 := fun t ht => (ofL_ge 0 cs t ht).1
theorem can_mvS {l : LP} (h : Can l) (n : Int) : Can (l.map (mvT (fun x => x + n))) := by
  refine ⟨?_, fun t ht => ?_⟩
  · unfold Srt
    rw [List.pairwise_map]
    exact h.srt.imp fun {a b} hab => by show a.1 + n < b.1 + n; omega
  · obtain ⟨s, hs, rfl⟩ := List.mem_map.1 ht
    exact h.nz s hs
theorem okP_mov (n : Int) {l : LP} (hc : Can l) (hl : Lim l) : okP (movP (fun e => e + n) (some l)) := by
  show okP (if (l.all fun t => wiB (t.1 + n) 1048576) = true then some (l.map (mvT fun e => e + n)) else none)
  split
  · next h =>
    refine ⟨can_mvS hc n, fun t ht => ?_, fun t ht => ?_⟩
    · obtain ⟨s, hs, rfl⟩ := List.mem_map.1 ht
      exact hl.co s hs
    · obtain ⟨s, hs, rfl⟩ := List.mem_map.1 ht
      exact wiB_iff.1 (List.all_eq_true.1 h s hs)
  · trivial
theorem okP_nor {l : LP} (hc : Can l) (hl : Lim l) : okP (norP (some l)) := by
  rw [norP_some]
  split
  · exact ⟨hc, hl⟩
  · refine okP_mov _ ?_ ?_
    · unfold nsL; split
      · exact negL_can hc
      · exact hc
    · unfold nsL; split
      · exact negL_lim hl
      · exact hl
theorem QL.is {w : World} {v : Value} {L D : List T1} (h : QL w v L) (hD : Can D) (he : ∀ e, cf D e = cf L e) : PolyV w v (some D) := by
  obtain ⟨l, h1, h2, h3, h4⟩ := h
  rw [← h2.ext hD fun e => (h4 e).trans (he e).symm]
  exact h1
theorem SubQ (vp vq : Value) (L M : List T1) (w : World) (hp : QL w vp L) (hq : QL w vq M) (hb : asum1 L + asum1 M ≤ 1125899906842624) : Calls Tryz.prog 17 #[vp, vq] w (QLR (L ++ negL M) w) := by
  obtain ⟨p, hp, cp, lp, ep⟩ := hp
  obtain ⟨q, hq, cq, lq, eq⟩ := hq
  refine (Sub_any vp vq (some p) (some q) w hp hq ⟨cp, lp⟩ ⟨cq, lq⟩).mono fun e w' ⟨v, r, he, hv, hr, hbel⟩ => ?_
  obtain ⟨l, rfl, h1, h2, h3⟩ := CombP.some hr (fun e => by rw [ep, eq]; have := cf_asum L e; have := cf_asum M e; omega)
  exact ⟨v, he, hbel, l, hv, h1, h2, fun e => by rw [h3, ep, eq, cf_append, cf_negL]; omega⟩
theorem OfQ2 (vc : Value) (a b : Int) (w : World) (h : Ints w vc [a, b]) (ha : -1125899906842624 ≤ a ∧ a ≤ 1125899906842624) (hb : -1125899906842624 ≤ b ∧ b ≤ 1125899906842624) : Calls Tryz.prog 15 #[.int .i64 0, vc] w (QLR [(0, a), (1, b)] w) := by
  refine (Of_any 0 vc [a, b] w h (by simp) (by decide)).mono ?_
  rintro e w' ⟨v, he, hv, hbel⟩
  have h2 : ofP 0 [a, b] = some (ofL 0 [a, b]) := if_pos (by simp [ofB]; omega)
  rw [h2] at hv
  exact ⟨v, he, hbel, _, hv, ofL_can _ _, lim_ofL (by simp) (by simp; omega), cf_2L a b⟩
theorem NormQ (v : Value) (L D : List T1) (w : World) (h : QL w v L) (hD : Can D) (hL : Lim D) (he : ∀ e, cf D e = cf L e) : Calls Tryz.prog 19 #[v] w fun e w' => ∃ v, e = .returned v ∧ PolyV w' v (norP (some D)) ∧ Below w.heap.size w w' :=
  Normal_any v (some D) w (h.is hD he) ⟨hD, hL⟩
theorem EqN (vp vq : Value) (D : List T1) (w : World) (hp : PolyV w vp (norP (some D))) (hq : PolyV w vq (norP (some D))) (hD : Can D) (hL : Lim D) : Calls Tryz.prog 18 #[vp, vq] w fun e w' => e = .returned (.bool true) ∧ Below w.heap.size w w' :=
  (Equal_any vp vq _ _ w hp hq (okP_nor hD hL) (okP_nor hD hL)).mono fun e w' ⟨he, hb⟩ => ⟨by rw [he]; simp [eqP], hb⟩
def Sm5 (x : Int) : Prop := -500 ≤ x ∧ x ≤ 500
theorem Sm5.sf {x : Int} (h : Sm5 x) : sfB x = true := by unfold Sm5 at h; unfold sfB; exact decide_eq_true (by omega)
theorem mul5 {x y : Int} (hx : Sm5 x) (hy : Sm5 y) : -250000 ≤ x * y ∧ x * y ≤ 250000 := by
  unfold Sm5 at hx hy
  have h1 : (x * y).natAbs ≤ 500 * 500 := by rw [Int.natAbs_mul]; exact Nat.mul_le_mul (by omega) (by omega)
  omega
theorem cs2_bd {a b c d : Int} (ha : Sm5 a) (hb : Sm5 b) (hc : Sm5 c) (hd : Sm5 d) : ∀ z ∈ cs2 a b c d, -1125899906842624 ≤ z ∧ z ≤ 1125899906842624 := by
  have h1 := mul5 ha hd
  have h2 := mul5 hb hc
  have h3 := mul5 hb hb
  have h4 := mul5 hc hc
  intro z hz
  simp [cs2] at hz
  rcases hz with rfl | rfl | rfl <;> omega
theorem asum_2 {a b : Int} (ha : Sm5 a) (hb : Sm5 b) : asum1 [(0, a), (1, b)] ≤ 1000 := by
  unfold Sm5 at ha hb; simp only [asum1]; omega
theorem asum_22 {a b c d : Int} (ha : Sm5 a) (hb : Sm5 b) (hc : Sm5 c) (hd : Sm5 d) : asum1 (prs [(0, a), (1, b)] [(0, c), (1, d)]) ≤ 1000000 := by
  rw [asum1_prs]
  exact Nat.le_trans (Nat.mul_le_mul (asum_2 ha hb) (asum_2 hc hd)) (by decide)
theorem eb_2 (a b : Int) : Eb1 1 [(0, a), (1, b)] := by intro t ht; simp at ht; rcases ht with rfl | rfl <;> simp
theorem Sm5.neg {x : Int} (h : Sm5 x) : Sm5 (-x) := by unfold Sm5 at *; omega
/-- Alexander's polynomial of one row, of two rows -/
theorem alex_1 {a : Int} (ha : Sm5 a) {w : World} {e : Ending} {w' : World} (h : AlxP [[a]] w e w') :
    ∃ v, e = .returned (.tuple #[v, .int .i64 0]) ∧ PolyV w' v (norP (some (ofL 0 [a, -a]))) ∧ Below w.heap.size w w' :=
  alex_is (by simp [sqM]) (by simp [smM, ha.sf]) (ofL_can _ _) (lim_ofL (by simp) (by unfold Sm5 at ha; simp; omega)) ofL_0 (fun x _ => det_1 a x) rfl h
theorem alex_2 {a b c d : Int} (ha : Sm5 a) (hb : Sm5 b) (hc : Sm5 c) (hd : Sm5 d) {w : World} {e : Ending} {w' : World} (h : AlxP [[a, b], [c, d]] w e w') :
    ∃ v, e = .returned (.tuple #[v, .int .i64 0]) ∧ PolyV w' v (norP (some (ofL 0 (cs2 a b c d)))) ∧ Below w.heap.size w w' :=
  alex_is (by simp [sqM]) (by simp [smM, ha.sf, hb.sf, hc.sf, hd.sf]) (ofL_can _ _) (lim_ofL (by simp [cs2]) (cs2_bd ha hb hc hd)) ofL_0 (fun x _ => det_2 a b c d x) rfl h
theorem Of5 (vc : Value) {a b : Int} (w : World) (h : Ints w vc [a, b]) (ha : Sm5 a) (hb : Sm5 b) : Calls Tryz.prog 15 #[.int .i64 0, vc] w (QLR [(0, a), (1, b)] w) :=
  OfQ2 vc a b w h (by unfold Sm5 at ha; omega) (by unfold Sm5 at hb; omega)
theorem Mul5 {a b c d : Int} (ha : Sm5 a) (hb : Sm5 b) (hc : Sm5 c) (hd : Sm5 d) (vp vq : Value) (w : World) (hp : QL w vp [(0, a), (1, b)]) (hq : QL w vq [(0, c), (1, d)]) : Calls Tryz.prog 16 #[vp, vq] w (QLR (prs [(0, a), (1, b)] [(0, c), (1, d)]) w) :=
  MulQ (N := 1) (M := 1) vp vq _ _ w hp hq (by rw [← asum1_prs]; exact Nat.le_trans (asum_22 ha hb hc hd) (by decide)) (eb_2 _ _) (eb_2 _ _) (by decide)
theorem Sub5 {a b c d : Int} (ha : Sm5 a) (hb : Sm5 b) (hc : Sm5 c) (hd : Sm5 d) (vp vq : Value) (w : World) (hp : QL w vp (prs [(0, a), (1, -a)] [(0, d), (1, -d)])) (hq : QL w vq (prs [(0, b), (1, -c)] [(0, c), (1, -b)])) : Calls Tryz.prog 17 #[vp, vq] w (QLR (yL a b c d) w) :=
  SubQ vp vq _ _ w hp hq (by have h1 := asum_22 ha ha.neg hd hd.neg; have h2 := asum_22 hb hc.neg hc hb.neg; omega)
/-- Alexander's result, as the law looks at it -/
theorem alex_sq {m : List (List Int)} {w : World} {e : Ending} {w' : World} (h : AlxP m w e w') : ∃ b A n c g, e = .returned (.tuple #[.agg #[.bool b, .slice A n c], .int .i64 g]) ∧ Below w.heap.size w w' ∧ (sqM m = true ∨ (b = false ∧ A = none ∧ n = 0 ∧ c = 0 ∧ g = 1)) := by
  obtain ⟨hb, h⟩ := h
  rcases h with ⟨_, rfl⟩ | ⟨h1, _, rfl⟩ | ⟨h1, _, h⟩
  · exact ⟨_, _, _, _, _, rfl, hb, .inr ⟨rfl, rfl, rfl, rfl, rfl⟩⟩
  · exact ⟨_, _, _, _, _, rfl, hb, .inl h1⟩
  · rcases h with ⟨v, p, rfl, hp, _⟩ | ⟨rfl, _⟩
    · obtain ⟨b, A, n, c, rfl, _⟩ := hp.parts
      exact ⟨_, _, _, _, _, rfl, hb, .inl h1⟩
    · exact ⟨_, _, _, _, _, rfl, hb, .inl h1⟩
theorem Zero5 (w : World) : Calls Tryz.prog 20 #[.agg #[.bool false, .slice none 0 0]] w fun e w' => e = .returned (.bool true) ∧ Below w.heap.size w w' :=
  Zero_any _ (some []) w (PolyV.zero w) ⟨Can.nil, Lim.nil⟩
theorem mat11 (a : Int) (w : World) : MatI ((w.alloc (.cells #[.int .i64 a] 3)).alloc (.cells #[.slice (some ⟨w.heap.size, 0, none⟩) 1 1] 22)) (.slice (some ⟨w.heap.size + 1, 0, none⟩) 1 1) [[a]] := by
  refine ⟨_, 1, rfl, by simp, fun i r hr => ?_⟩
  have hi : i = 0 := by have := (List.getElem?_eq_some_iff.1 hr).1; simp at this; omega
  subst hi
  simp at hr
  subst hr
  have h1 : Arr ((w.alloc (.cells #[.int .i64 a] 3)).alloc (.cells #[.slice (some ⟨w.heap.size, 0, none⟩) 1 1] 22)) (w.heap.size + 1) 22 [.slice (some ⟨w.heap.size, 0, none⟩) 1 1] := Arr.newAt (w.alloc _) _ [_] _ (by simp)
  exact ⟨_, 0, rfl, _, (h1.cell 0).trans rfl, Ints.of_arr (xs := [a]) ((Arr.new w 3 [.int .i64 a]).alloc _)⟩
theorem mat22 (a b c d : Int) (w : World) : MatI (((w.alloc (.cells #[.int .i64 a, .int .i64 b] 3)).alloc (.cells #[.int .i64 c, .int .i64 d] 3)).alloc (.cells #[.slice (some ⟨w.heap.size, 0, none⟩) 2 2, .slice (some ⟨w.heap.size + 1, 0, none⟩) 2 2] 22)) (.slice (some ⟨w.heap.size + 2, 0, none⟩) 2 2) [[a, b], [c, d]] := by
  have h1 : Arr (((w.alloc (.cells #[.int .i64 a, .int .i64 b] 3)).alloc (.cells #[.int .i64 c, .int .i64 d] 3)).alloc (.cells #[.slice (some ⟨w.heap.size, 0, none⟩) 2 2, .slice (some ⟨w.heap.size + 1, 0, none⟩) 2 2] 22)) (w.heap.size + 2) 22 [.slice (some ⟨w.heap.size, 0, none⟩) 2 2, .slice (some ⟨w.heap.size + 1, 0, none⟩) 2 2] := Arr.newAt ((w.alloc _).alloc _) _ [_, _] _ (by simp)
  refine ⟨_, 2, rfl, by simp, fun i r hr => ?_⟩
  have hi : i = 0 ∨ i = 1 := by have := (List.getElem?_eq_some_iff.1 hr).1; simp at this; omega
  rcases hi with rfl | rfl
  · simp at hr
    subst hr
    exact ⟨_, 0, rfl, _, (h1.cell 0).trans rfl, Ints.of_arr (xs := [a, b]) (((Arr.new w 3 [.int .i64 a, .int .i64 b]).alloc _).alloc _)⟩
  · simp at hr
    subst hr
    exact ⟨_, 0, rfl, _, (h1.cell 1).trans rfl, Ints.of_arr (xs := [c, d]) ((Arr.newAt (w.alloc _) 3 [.int .i64 c, .int .i64 d] _ (by simp)).alloc _)⟩
theorem MatI.rowv5 {w : World} {A : Option Addr} {n c i : Nat} {m : List (List Int)} (h : MatI w (.slice A n c) m) (hi : i < m.length) : ∃ b1 o1 A2 c2, A = some ⟨b1, o1, none⟩ ∧ ∀ W, Below w.heap.size w W → W.cell? ⟨b1, o1 + i, none⟩ = some (.slice A2 m[i].length c2) := by
  obtain ⟨b1, o1, hA, -, u, hu, hrow⟩ := h.at_ hi
  obtain ⟨A2, c2, rfl, -, -⟩ := hrow
  exact ⟨b1, o1, A2, c2, hA, fun W hb => (hb.cell (block_lt_of_cell hu)).trans hu⟩
def LawT5 (w : World) (e : Ending) (w' : World) : Prop := e = .returned (.bool true) ∧ Below w.heap.size w w'
theorem wf_i16 {x : Int} (h : (Lit.int .i16 x).wf = true) : -32768 ≤ x ∧ x ≤ 32767 := by
  have h2 := h
  simp only [Lit.wf, Bool.and_eq_true, decide_eq_true_eq] at h2
  exact ⟨h2.1, h2.2⟩
def mx4 (a b c d : Int) : Int := if d > (if c > (if b > a then b else a) then c else (if b > a then b else a)) then d else (if c > (if b > a then b else a) then c else (if b > a then b else a))
def mn4 (a b c d : Int) : Int := if d < (if c < (if b < a then b else a) then c else (if b < a then b else a)) then d else (if c < (if b < a then b else a) then c else (if b < a then b else a))
theorem run_max4 (a b c d : Int) (ts : Array TypeId) (t : TypeId) (W : World) : (Builtin.max_ ts t #[.int .i16 a, .int .i16 b, .int .i16 c, .int .i16 d]).run Tryz.prog W = .ok (.int .i16 (mx4 a b c d)) W := rfl
theorem run_min4 (a b c d : Int) (ts : Array TypeId) (t : TypeId) (W : World) : (Builtin.min_ ts t #[.int .i16 a, .int .i16 b, .int .i16 c, .int .i16 d]).run Tryz.prog W = .ok (.int .i16 (mn4 a b c d)) W := rfl
theorem mx4_le {a b c d : Int} : mx4 a b c d ≤ 500 ↔ a ≤ 500 ∧ b ≤ 500 ∧ c ≤ 500 ∧ d ≤ 500 := by
  unfold mx4
  split <;> split <;> split <;> omega
theorem mn4_ge {a b c d : Int} : -500 ≤ mn4 a b c d ↔ -500 ≤ a ∧ -500 ≤ b ∧ -500 ≤ c ∧ -500 ≤ d := by
  unfold mn4
  split <;> split <;> split <;> omega
end Go.Proofs.YtjeklcgfffibpaaGreatDoor
