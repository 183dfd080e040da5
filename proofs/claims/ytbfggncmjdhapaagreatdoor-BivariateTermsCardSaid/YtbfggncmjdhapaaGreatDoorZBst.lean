/- bivariate: Set, where the exponents of z are not negative. -/
import Derived.Test.YtbfggncmjdhapaaGreatDoorZBps
namespace Go.Proofs.YtbfggncmjdhapaaGreatDoor
open Go.RowKit
set_option linter.unusedVariables false

def setT (LA LZ : Int → List T1) (t : T2) : List T1 := prs (prs [(0, t.2)] (LA t.1.1)) (LZ t.1.2)
/-- the sum of the terms in which a and z are replaced -/
def setL (LA LZ : Int → List T1) (l : List T2) : List T1 := l.flatMap (setT LA LZ)
theorem setL_snoc (LA LZ : Int → List T1) (l : List T2) (t : T2) : setL LA LZ (l ++ [t]) = setL LA LZ l ++ setT LA LZ t := by unfold setL; rw [List.flatMap_append, List.flatMap_cons, List.flatMap_nil, List.append_nil]
theorem setL_take {LA LZ : Int → List T1} {l : List T2} {i : Nat} (h : i < l.length) : setL LA LZ (l.take (i + 1)) = setL LA LZ (l.take i) ++ setT LA LZ l[i] := by rw [take_snocB h, setL_snoc]
theorem setL_le (LA LZ : Int → List T1) (l : List T2) (i : Nat) : asum1 (setL LA LZ (l.take i)) ≤ asum1 (setL LA LZ l) := by
  have h : l = l.take i ++ l.drop i := (List.take_append_drop i l).symm
  have e : setL LA LZ l = setL LA LZ (l.take i) ++ setL LA LZ (l.drop i) := by
    conv => lhs; rw [h]
    unfold setL; rw [List.flatMap_append]
  rw [e, asum1_append]; omega
/-- all blocks but those of laurent's polynomials and their lists stay; those in G stay too; S is kept -/
structure KT (B0 : Nat) (G : List Nat) (S : World → Prop) (a b : World) : Prop where
  bel : Below B0 a b
  gd : ∀ k ∈ G, k < a.heap.size → b.heap[k]? = a.heap[k]?
  ty : ∀ (k : Nat) (cs : Array Value) (t : TypeId) (fr : Nat × Nat), a.heap[k]? = some (.cells cs t fr) → t ≠ 38 → t ≠ 117 → b.heap[k]? = a.heap[k]?
  st : S a → S b
theorem KT.trans {B0 : Nat} {G : List Nat} {S : World → Prop} {a b c : World} (h : KT B0 G S a b) (k : KT B0 G S b c) : KT B0 G S a c :=
  ⟨h.bel.trans k.bel, fun i hi hl => (k.gd i hi (Nat.lt_of_lt_of_le hl h.bel.size)).trans (h.gd i hi hl), fun i cs t fr hh h1 h2 => (k.ty i cs t fr ((h.ty i cs t fr hh h1 h2).trans hh) h1 h2).trans (h.ty i cs t fr hh h1 h2), fun s => k.st (h.st s)⟩
theorem KT.of_below {B0 : Nat} {G : List Nat} {S : World → Prop} (hS : ∀ a b, S a → Below a.heap.size a b → S b) {a b : World} (h : Below a.heap.size a b) (hB : B0 ≤ a.heap.size) : KT B0 G S a b :=
  ⟨h.mono hB, fun k _ hl => h.block k hl, fun k cs t fr hh _ _ => h.block k (heap_ltB hh), fun s => hS a b s h⟩
theorem KT.ql {B0 : Nat} {G : List Nat} {S : World → Prop} {a b : World} {v : Value} {L : List T1} (h : QL a v L) (k : KT B0 G S a b) : QL b v L := h.keepT fun i ⟨cs, fr, hh⟩ => k.ty i cs _ fr hh (by decide) (by decide)
theorem KT.arr {B0 i : Nat} {G : List Nat} {S : World → Prop} {a b : World} {t : TypeId} {cs : List Value} (h : Arr a i t cs) (k : KT B0 G S a b) (hi : i ∈ G) : Arr b i t cs := (k.gd i hi h.lt).trans h
/-- what the functions of the powers owe (cZ: what the second one has captured) -/
structure PwJ (w : World) (fA fZ : Value) (LA LZ : Int → List T1) (okA okZ : Int → Prop) (KA KZ : FuncId) (cA : Value) (cZ : List Value) (S : List Nat → World → Prop) : Prop where
  eA : fA = .func (.func KA) #[] #[cA]
  eZ : fZ = .func (.func KZ) #[] cZ.toArray
  s1 : ∀ (G G' : List Nat) (a b : World), S G a → Below a.heap.size a b → (∀ k ∈ G', k ∈ G ∨ (a.heap.size ≤ k ∧ k < b.heap.size)) → S G' b
  s2 : ∀ (G : List Nat) (a : World) (g j : Nat) (u : Value) (cs : List Value), S G a → g ∈ G → Arr a g 38 cs → S G (a.setCell ⟨g, j, none⟩ u)
  nA : ∀ args W, (callFunc KA args).run Tryz.prog W = .ok (.enter KA args) W
  nZ : ∀ args W, (callFunc KZ args).run Tryz.prog W = .ok (.enter KZ args) W
  cA' : ∀ (G : List Nat) (n : Int) (W : World), okA n → S G W → w.heap.size ≤ W.heap.size → Calls Tryz.prog KA #[.int .i64 n, cA] W fun e w' => ∃ v, e = .returned v ∧ QL w' v (LA n) ∧ KT w.heap.size G (S G) W w'
  cZ' : ∀ (G : List Nat) (n : Int) (W : World), okZ n → S G W → w.heap.size ≤ W.heap.size → Calls Tryz.prog KZ (.int .i64 n :: cZ).toArray W fun e w' => ∃ v, e = .returned v ∧ QL w' v (LZ n) ∧ KT w.heap.size G (S G) W w'
def SetR (L : List T1) (w : World) (e : Ending) (w' : World) : Prop := ∃ (A : Option Addr) (n c : Nat), e = .returned (.tuple #[.agg #[.bool false, .slice A n c], .int .i64 0]) ∧ QL w' (.agg #[.bool false, .slice A n c]) L ∧ Below w.heap.size w w'
set_option maxHeartbeats 8000000 in
set_option maxRecDepth 100000 in
theorem Set_walk2 (vp va vz : Value) (l : List T2) (la lz : List T1) (w : World) (PsiA PsiZ : Value → World → Prop) (LA LZ : Int → List T1) (okA okZ : Int → Prop)
    (hp : PolyB w vp (some l)) (ha : PolyV w va (some la)) (hz : PolyV w vz (some lz)) (oka : okP (some la)) (hua : unitP (some la) = true) (lp : Lim2 l) (kp : Can2 l) (hl : l.length ≤ 10000) (hnn : ∀ t ∈ l, 0 ≤ t.1.2)
    (hPA : ∀ W, Below w.heap.size w W → w.heap.size + 4 ≤ W.heap.size → Calls Tryz.prog 41 #[va] W fun e w' => ∃ v, e = .returned v ∧ Below W.heap.size W w' ∧ PsiA v w')
    (hPZ : ∀ W, Below w.heap.size w W → w.heap.size + 4 ≤ W.heap.size → Calls Tryz.prog 41 #[vz] W fun e w' => ∃ v, e = .returned v ∧ Below W.heap.size W w' ∧ PsiZ v w')
    (hkA : ∀ v a b, PsiA v a → Below a.heap.size a b → PsiA v b) (hkZ : ∀ v a b, PsiZ v a → Below a.heap.size a b → PsiZ v b)
    (hJ : ∀ fA fZ W, PsiA fA W → PsiZ fZ W → ∃ (KA KZ : FuncId) (cA cZ1 cZ2 : Value) (S : List Nat → World → Prop), PwJ w fA fZ LA LZ okA okZ KA KZ cA [cZ1, cZ2] S ∧ S [w.heap.size + 3] W)
    (hokA : ∀ t ∈ l, okA t.1.1) (hokZ : ∀ t ∈ l, okZ t.1.2) (hEA : ∀ t ∈ l, Eb1 400000 (LA t.1.1)) (hEZ : ∀ t ∈ l, Eb1 400000 (LZ t.1.2)) (hA1 : ∀ t ∈ l, asum1 (LA t.1.1) ≤ 1) (hZ1 : ∀ t ∈ l, 1 ≤ asum1 (LZ t.1.2)) (hsum : asum1 (setL LA LZ l) ≤ 1125899906842624) :
    Calls Tryz.prog 20 #[vp, va, vz] w (SetR (setL LA LZ l) w) := by
  have HP := Lib.hid (fun W (hb : Below w.heap.size w W) => hp.below hb)
  have HBA := Lib.hid (fun W (hb : Below w.heap.size w W) => Big_any va (some la) W (ha.below hb))
  have HBZ := Lib.hid (fun W (hb : Below w.heap.size w W) => Big_any vz (some lz) W (hz.below hb))
  have HUN := Lib.hid (fun W (hb : Below w.heap.size w W) => unit_any va (some la) W (ha.below hb) oka)
  rw [hua] at HUN
  have HPA := Lib.hid hPA
  have HPZ := Lib.hid hPZ
  have HKA := Lib.hid hkA
  have HKZ := Lib.hid hkZ
  have HJ := Lib.hid hJ
  have HOK := Lib.hid (And.intro hokA hokZ)
  have HEE := Lib.hid (And.intro hEA hEZ)
  have HA1 := Lib.hid (And.intro hA1 hZ1)
  have HSU := Lib.hid hsum
  have HLP := Lib.hid (And.intro lp hnn)
  have HKP := Lib.hid kp
  obtain ⟨bA, Aa, na, ca0, rfl, jA, -⟩ := ha.parts
  have jb : bA = false := jA
  subst jb
  obtain ⟨bZ, Az, nz, cz0, rfl, jZ, -⟩ := hz.parts
  have jb : bZ = false := jZ
  subst jb
  obtain ⟨A, c, rfl, _⟩ := hp
  simp only [Option.isNone_some, Option.getD_some] at HP ⊢
  have hW : ∀ W, W = (((w.alloc (.cells #[.bool false, .slice A l.length c] 27)).alloc (.cells #[.bool false, .slice Aa na ca0] 38)).alloc (.cells #[.bool false, .slice Az nz cz0] 38)).alloc (.cells #[.bool false, .slice none 0 0] 38) → Arr W w.heap.size 27 [.bool false, .slice A l.length c] ∧ Arr W (w.heap.size + 1) 38 [.bool false, .slice Aa na ca0] ∧ Arr W (w.heap.size + 2) 38 [.bool false, .slice Az nz cz0] ∧ Arr W (w.heap.size + 3) 38 [.bool false, .slice none 0 0] ∧ Below w.heap.size w W ∧ W.heap.size = w.heap.size + 4 := by
    intro W hW
    subst hW
    exact ⟨(((Arr.new _ _ [_, _]).alloc _).alloc _).alloc _, ((Arr.newAt (w.alloc _) _ [_, _] _ (by simp)).alloc _).alloc _, (Arr.newAt ((w.alloc _).alloc _) _ [_, _] _ (by simp)).alloc _, Arr.newAt (((w.alloc _).alloc _).alloc _) _ [_, _] _ (by simp), ((((Below.refl _ _).alloc (Nat.le_refl _) _).alloc (by simp) _).alloc (by simp <;> omega) _).alloc (by simp <;> omega) _, by simp⟩
  clear ha hz jA jZ hPA hPZ hkA hkZ hJ hokA hokZ hEA hEZ hA1 hZ1 hsum lp kp hnn hua oka
  go_enter Tryz.func20, Tryz.ntmps20
  go_upto_region 1 with fail
  generalize (((w.alloc (.cells #[.bool false, .slice A l.length c] 27)).alloc (.cells #[.bool false, .slice Aa na ca0] 38)).alloc (.cells #[.bool false, .slice Az nz cz0] 38)).alloc (.cells #[.bool false, .slice none 0 0] 38) = w3 at hW ⊢
  obtain ⟨qp, qa, qz, qr, hb3, hs3⟩ := hW w3 rfl
  clear hW
  have y0 := qp.cell 0
  have y1 := qa.cell 0
  have y2 := qa.cell 1
  have B1 := Lib.hid (HBA.out w3 hb3)
  go_wp2_with fail
  refine B1.out.mono ?_
  rintro e w4 ⟨rfl, hb4⟩
  have hb3' := hb3.trans (hb4.mono hb3.size)
  have q3p := qp.below hb4 qp.lt
  have q3a := qa.below hb4 qa.lt
  have q3z := qz.below hb4 qz.lt
  have q3r := qr.below hb4 qr.lt
  have hs4 := hb4.size
  have y3 := q3z.cell 0
  have y4 := q3z.cell 1
  have B2 := Lib.hid (HBZ.out w4 hb3')
  clear y0 y1 y2 B1 qp qa qz qr hb3 hb4
  go_wp2_with fail
  refine B2.out.mono ?_
  rintro e w5 ⟨rfl, hb5⟩
  have qp := q3p.below hb5 q3p.lt
  have qa := q3a.below hb5 q3a.lt
  have qz := q3z.below hb5 q3z.lt
  have qr := q3r.below hb5 q3r.lt
  have hb6 := hb3'.trans (hb5.mono hb3'.size)
  have hs5 : w.heap.size + 4 ≤ w5.heap.size := by have := hb5.size; omega
  clear y3 y4 B2 q3p q3a q3z q3r hb3' hb5 hs3 hs4
  have y1 := qp.cell 1
  have HST := Lib.hid (show Arr w5 w.heap.size 27 [.bool false, .slice A l.length c] ∧ Arr w5 (w.heap.size + 1) 38 [.bool false, .slice Aa na ca0] ∧ Arr w5 (w.heap.size + 2) 38 [.bool false, .slice Az nz cz0] ∧ Arr w5 (w.heap.size + 3) 38 [.bool false, .slice none 0 0] ∧ Below w.heap.size w w5 ∧ w.heap.size + 4 ≤ w5.heap.size from ⟨qp, qa, qz, qr, hb6, hs5⟩)
  clear qp qa qz qr hb6 hs5
  go_wp2_with fail
  clear y1
  go_loopg [8, 33] l.length (fun gk s8 s33 wr => ∃ (i : Nat), i ≤ l.length ∧ gk = l.length - i ∧ s33 = .int .i64 (i : Int) ∧ s8 = .int .i64 0 ∧ Hid (Arr wr w.heap.size 27 [.bool false, .slice A l.length c] ∧ Arr wr (w.heap.size + 1) 38 [.bool false, .slice Aa na ca0] ∧ Arr wr (w.heap.size + 2) 38 [.bool false, .slice Az nz cz0] ∧ Arr wr (w.heap.size + 3) 38 [.bool false, .slice none 0 0] ∧ Below w.heap.size w wr ∧ w.heap.size + 4 ≤ wr.heap.size))
  case atStart => exact ⟨0, Nat.zero_le _, rfl, rfl, rfl, HST⟩
  case round =>
    clear HST
    obtain ⟨i, hi, rfl, rfl, rfl, HR⟩ := hrel
    by_cases hlt : i < l.length
    · have z1 : (i : Int) < (l.length : Int) := by omega
      obtain ⟨b, o', rfl, _, hc0, hc1, hc2⟩ := (HP.out wr HR.out.2.2.2.2.1).tm_some.at_ hlt
      have hnz := HLP.out.2 _ (List.getElem_mem hlt)
      have hea := HLP.out.1.ea _ (List.getElem_mem hlt)
      have hez := HLP.out.1.ez _ (List.getElem_mem hlt)
      generalize l[i].1.1 = ta at *
      generalize l[i].1.2 = tz at *
      generalize l[i].2 = tc at *
      have hWo : ∀ W, W = wr.alloc (.cells #[.int .i64 ta, .int .i64 tz, .int .i64 tc] 65) → Arr W wr.heap.size 65 [.int .i64 ta, .int .i64 tz, .int .i64 tc] ∧ Below wr.heap.size wr W := by
        intro W hW
        subst hW
        exact ⟨Arr.new _ _ [_, _, _], (Below.refl _ _).alloc (Nat.le_refl _) _⟩
      go_upto_region 7 with fail
      generalize wr.alloc (.cells #[.int .i64 ta, .int .i64 tz, .int .i64 tc] 65) = w6 at hWo ⊢
      obtain ⟨qt, hb6⟩ := hWo w6 rfl
      obtain ⟨B10, hB10⟩ : ∃ B, B = wr.heap.size := ⟨_, rfl⟩
      rw [← hB10] at qt ⊢
      have HF := Lib.hid (show Arr w6 w.heap.size 27 [.bool false, .slice (some ⟨b, o', none⟩) l.length c] ∧ Arr w6 (w.heap.size + 1) 38 [.bool false, .slice Aa na ca0] ∧ Arr w6 (w.heap.size + 2) 38 [.bool false, .slice Az nz cz0] ∧ Arr w6 (w.heap.size + 3) 38 [.bool false, .slice none 0 0] ∧ Below w.heap.size w w6 ∧ w.heap.size + 4 ≤ w6.heap.size from
        ⟨HR.out.1.below hb6 HR.out.1.lt, HR.out.2.1.below hb6 HR.out.2.1.lt, HR.out.2.2.1.below hb6 HR.out.2.2.1.lt, HR.out.2.2.2.1.below hb6 HR.out.2.2.2.1.lt, HR.out.2.2.2.2.1.trans (hb6.mono HR.out.2.2.2.2.1.size), Nat.le_trans HR.out.2.2.2.2.2 hb6.size⟩)
      have hmx : ∀ ty (W : World), (Builtin.max_ #[3, 3] ty #[.int .i64 0, .int .i64 (-tz)]).run Tryz.prog W = .ok (.int .i64 0) W := fun ty W => by
        rw [run_max_int2, if_neg (by omega)]
      have hmx0 : tz = 0 → ∀ ty (W : World), (Builtin.max_ #[3, 3] ty #[.int .i64 0, .int .i64 0]).run Tryz.prog W = .ok (.int .i64 0) W := fun _ ty W => by
        rw [run_max_int2, if_neg (by omega)]
      clear hc0 hc1 hc2 HR hWo hB10
      by_cases hneg : ta < 0
      · have y0 := qt.cell 0
        have x0 := HF.out.2.1.cell 0
        have x1 := HF.out.2.1.cell 1
        have U := Lib.hid (HUN.out w6 HF.out.2.2.2.2.1)
        go_wp2_with fail
        refine U.out.mono ?_
        rintro e w7 ⟨rfl, hb7⟩
        have qt7 := qt.below hb7 qt.lt
        have y1 := qt7.cell 1
        have HF7 := Lib.hid (show Arr w7 w.heap.size 27 [.bool false, .slice (some ⟨b, o', none⟩) l.length c] ∧ Arr w7 (w.heap.size + 1) 38 [.bool false, .slice Aa na ca0] ∧ Arr w7 (w.heap.size + 2) 38 [.bool false, .slice Az nz cz0] ∧ Arr w7 (w.heap.size + 3) 38 [.bool false, .slice none 0 0] ∧ Below w.heap.size w w7 ∧ w.heap.size + 4 ≤ w7.heap.size from
          ⟨HF.out.1.below hb7 HF.out.1.lt, HF.out.2.1.below hb7 HF.out.2.1.lt, HF.out.2.2.1.below hb7 HF.out.2.2.1.lt, HF.out.2.2.2.1.below hb7 HF.out.2.2.2.1.lt, HF.out.2.2.2.2.1.trans (hb7.mono HF.out.2.2.2.2.1.size), Nat.le_trans HF.out.2.2.2.2.2 hb7.size⟩)
        clear y0 x0 x1 U qt qt7 hb7
        go_wp2_with fail
        go_roundg (l.length - (i + 1))
        case measure => omega
        case rel => exact ⟨i + 1, by omega, rfl, by go_num, rfl, HF7⟩
      · have z3 : decide (ta < 0) = false := decide_eq_false hneg
        have y0 := qt.cell 0
        have y1 := qt.cell 1
        go_wp2_with fail
        go_roundg (l.length - (i + 1))
        case measure => omega
        case rel => exact ⟨i + 1, by omega, rfl, by go_num, rfl, HF⟩
    · have z1 : ¬ (i : Int) < (l.length : Int) := by omega
      go_upto_region 11 with fail
      have QA := Lib.hid HR.out.2.1
      have QZ := Lib.hid HR.out.2.2.1
      have HB3 := Lib.hid HR.out.2.2.2.2.1
      have HZ3 := Lib.hid HR.out.2.2.2.2.2
      refine wp_region_phy (fun a b => Below a.heap.size a b) (fun h k => h.trans (k.mono h.size)) ((Below.refl _ _).drew) (by kernel_rfl) (by kernel_rfl) (by kernel_rfl) (by kernel_rfl) (phiT (fun i => ([some (.agg #[.bool false, .slice Aa na ca0]), none, some (.agg #[.bool false, .slice Az nz cz0]), none, none, none] : List (Option Value)).getD i none) (fun i v w => (if i = 1 then (fun v w => PsiA v w) v w else (if i = 3 then (fun v w => PsiZ v w) v w else (if i = 4 then (fun v w => PsiA v w) v w else (if i = 5 then (fun v w => PsiZ v w) v w else True)))))) (fun i v w w' h hb => ?_) ⟨?_, ?_, ?_, ?_, ?_, ?_, trivial⟩ ?_
      · unfold phiT at h ⊢
        split
        · next u hu => rw [hu] at h; exact h
        · next hu =>
          rw [hu] at h
          simp only at h ⊢
          by_cases q1 : i = 1
          · rw [if_pos q1] at h ⊢; exact HKA.out _ _ _ h hb
          · rw [if_neg q1] at h ⊢
            by_cases q3 : i = 3
            · rw [if_pos q3] at h ⊢; exact HKZ.out _ _ _ h hb
            · rw [if_neg q3] at h ⊢
              by_cases q4 : i = 4
              · rw [if_pos q4] at h ⊢; exact HKA.out _ _ _ h hb
              · rw [if_neg q4] at h ⊢
                by_cases q5 : i = 5
                · rw [if_pos q5] at h ⊢; exact HKZ.out _ _ _ h hb
                · rw [if_neg q5] at h ⊢
                  trivial
      · intro x w1 bA hT hdep hold hb
        refine .inl ⟨trivial, ?_⟩
        have e4 : bA.tmps[4]?.getD undef = .pointer (some ⟨w.heap.size + 1, 0, none⟩) := hb 4
        have cc0 := (QA.out.below hT QA.out.lt).cell 0
        have cc1 := (QA.out.below hT QA.out.lt).cell 1
        refine phx_run (.agg #[.bool false, .slice Aa na ca0]) ?_ (Below.refl _ _) rfl
        clear hb hdep hold
        go_simp
      · intro x w1 bA hT hdep hold hb
        refine .inl ⟨trivial, ?_⟩
        have e52 : bA.tmps[52]?.getD undef = .agg #[.bool false, .slice Aa na ca0] := (hb 52).trans (hdep 0 (by decide))
        refine phx_call ?_ ((HPA.out w1 (HB3.out.trans (hT.mono HB3.out.size)) (Nat.le_trans HZ3.out hT.size)).mono fun e w' h => h)
        clear hb hdep hold
        go_simp
      · intro x w1 bA hT hdep hold hb
        refine .inl ⟨trivial, ?_⟩
        have e5 : bA.tmps[5]?.getD undef = .pointer (some ⟨w.heap.size + 2, 0, none⟩) := hb 5
        have cc0 := (QZ.out.below hT QZ.out.lt).cell 0
        have cc1 := (QZ.out.below hT QZ.out.lt).cell 1
        refine phx_run (.agg #[.bool false, .slice Az nz cz0]) ?_ (Below.refl _ _) rfl
        clear hb hdep hold
        go_simp
      · intro x w1 bA hT hdep hold hb
        refine .inl ⟨trivial, ?_⟩
        have e54 : bA.tmps[54]?.getD undef = .agg #[.bool false, .slice Az nz cz0] := (hb 54).trans (hdep 2 (by decide))
        refine phx_call ?_ ((HPZ.out w1 (HB3.out.trans (hT.mono HB3.out.size)) (Nat.le_trans HZ3.out hT.size)).mono fun e w' h => h)
        clear hb hdep hold
        go_simp
      · intro x w1 bA hT hdep hold hb
        refine .inl ⟨trivial, ?_⟩
        have p53 := hdep 1 (by decide)
        have e53 : bA.tmps[53]?.getD undef = x 1 := hb 53
        generalize x 1 = x53 at *
        have P53 := Lib.hid (show (fun v w => PsiA v w) x53 w1 from p53)
        clear p53
        refine phx_run (x53) ?_ (Below.refl _ _) (P53.out)
        clear hb hdep hold
        go_simp
      · intro x w1 bA hT hdep hold hb
        refine .inl ⟨trivial, ?_⟩
        have p55 := hdep 3 (by decide)
        have e55 : bA.tmps[55]?.getD undef = x 3 := hb 55
        generalize x 3 = x55 at *
        have P55 := Lib.hid (show (fun v w => PsiZ v w) x55 w1 from p55)
        clear p55
        refine phx_run (x55) ?_ (Below.refl _ _) (P55.out)
        clear hb hdep hold
        go_simp
      intro x w1 hT hall
      have x0e : x 0 = .agg #[.bool false, .slice Aa na ca0] := hall 0 (by decide)
      have p53 := hall 1 (by decide)
      have x2e : x 2 = .agg #[.bool false, .slice Az nz cz0] := hall 2 (by decide)
      have p55 := hall 3 (by decide)
      have p11 := hall 4 (by decide)
      have p12 := hall 5 (by decide)
      simp only [putAll, dstOf, Act.put, List.map_cons, List.map_nil, List.setIfInBounds_toArray, List.set_cons_succ, List.set_cons_zero, Nat.reduceAdd, x0e, x2e]
      clear x0e x2e hall
      clear p53 p55
      obtain ⟨KA, KZ, cA, cZ1, cZ2, S, hJJ, hS0⟩ := HJ.out (x 4) (x 5) w1 p11 p12
      rw [hJJ.eA, hJJ.eZ]
      have HJJ := Lib.hid hJJ
      have QP := Lib.hid (HR.out.1.below hT HR.out.1.lt)
      have QR := Lib.hid (HR.out.2.2.2.1.below hT HR.out.2.2.2.1.lt)
      have HB1 := Lib.hid (HB3.out.trans (hT.mono HB3.out.size))
      have HZ1 := Lib.hid (Nat.le_trans HZ3.out hT.size)
      have HS0 := Lib.hid hS0
      clear p11 p12 hJJ hS0 hT QA QZ HB3 HZ3 HR HJ HPA HPZ HKA HKZ HBA HBZ HUN
      obtain ⟨B13, hB13⟩ : ∃ B, B = w1.heap.size := ⟨_, rfl⟩
      have hW : ∀ W, W = w1.alloc (.cells #[.bool false, .slice none 0 0] 38) → Arr W w.heap.size 27 [.bool false, .slice A l.length c] ∧ Arr W (w.heap.size + 3) 38 [.bool false, .slice none 0 0] ∧ Arr W B13 38 [.bool false, .slice none 0 0] ∧ S [w.heap.size + 3, B13] W ∧ Below w.heap.size w W ∧ B13 < W.heap.size := by
        intro W hW
        subst hW
        rw [hB13]
        refine ⟨QP.out.alloc _, QR.out.alloc _, Arr.new _ _ [_, _], HJJ.out.s1 _ _ _ _ HS0.out ((Below.refl _ _).alloc (Nat.le_refl _) _) fun k hk => ?_, HB1.out.alloc HB1.out.size _, by simp⟩
        simp only [List.mem_cons, List.not_mem_nil, or_false] at hk ⊢
        rcases hk with rfl | rfl
        · exact .inl rfl
        · exact .inr ⟨Nat.le_refl _, by simp⟩
      have HG13 := Lib.hid (show w.heap.size + 4 ≤ B13 from by rw [hB13]; exact HZ1.out)
      go_upto_region 13 with fail
      rw [← hB13]
      generalize w1.alloc (.cells #[.bool false, .slice none 0 0] 38) = w2 at hW ⊢
      obtain ⟨qp, qr, qt, hs2, hb2, hl2⟩ := hW w2 rfl
      have y1 := qp.cell 1
      have HST := Lib.hid (show ∃ (At : Option Addr) (nt ct : Nat), Arr w2 w.heap.size 27 [.bool false, .slice A l.length c] ∧ Arr w2 (w.heap.size + 3) 38 [.bool false, .slice none 0 0] ∧ Arr w2 B13 38 [.bool false, .slice At nt ct] ∧ QL w2 (.agg #[.bool false, .slice At nt ct]) (setL LA LZ (l.take 0)) ∧ S [w.heap.size + 3, B13] w2 ∧ Below w.heap.size w w2 from ⟨none, 0, 0, qp, qr, qt, QL.zero _, hs2, hb2⟩)
      clear hW qp qr qt hs2 hb2 hl2 QP QR HB1 HZ1 HS0 hB13
      go_wp2_with fail
      clear y1
      go_loopg [59] l.length (fun gk s59 wr => ∃ (i : Nat), i ≤ l.length ∧ gk = l.length - i ∧ s59 = .int .i64 (i : Int) ∧ Hid (∃ (At : Option Addr) (nt ct : Nat), Arr wr w.heap.size 27 [.bool false, .slice A l.length c] ∧ Arr wr (w.heap.size + 3) 38 [.bool false, .slice none 0 0] ∧ Arr wr B13 38 [.bool false, .slice At nt ct] ∧ QL wr (.agg #[.bool false, .slice At nt ct]) (setL LA LZ (l.take i)) ∧ S [w.heap.size + 3, B13] wr ∧ Below w.heap.size w wr))
      case atStart => exact ⟨0, Nat.zero_le _, rfl, rfl, HST⟩
      case round =>
        clear HST
        obtain ⟨i, hi, rfl, rfl, HR⟩ := hrel
        obtain ⟨At, nt, ct, rp, rr, rt, rq, rs, rb⟩ := HR.out
        clear HR
        by_cases hlt : i < l.length
        · have z1 : (i : Int) < (l.length : Int) := by omega
          obtain ⟨b, o', rfl, _, hc0, hc1, hc2⟩ := (HP.out wr rb).tm_some.at_ hlt
          have HNX := Lib.hid (setL_take (LA := LA) (LZ := LZ) hlt)
          have HSL := Lib.hid (Nat.le_trans (setL_le LA LZ l (i + 1)) HSU.out)
          have hm := List.getElem_mem hlt
          have hcc := HLP.out.1.co _ hm
          have hc0n := HKP.out.nz _ hm
          have hez := HLP.out.1.ez _ hm
          have HOA := Lib.hid (HOK.out.1 _ hm)
          have HOZ := Lib.hid (HOK.out.2 _ hm)
          have HEA := Lib.hid (HEE.out.1 _ hm)
          have HEZ := Lib.hid (HEE.out.2 _ hm)
          have ha1 := HA1.out.1 _ hm
          have hz1 := HA1.out.2 _ hm
          have HST1 := Lib.hid (show setT LA LZ l[i] = prs (prs [(0, l[i].2)] (LA l[i].1.1)) (LZ l[i].1.2) from rfl)
          clear hm
          generalize setT LA LZ l[i] = stt at *
          generalize l[i].1.1 = ta at *
          generalize l[i].1.2 = tz at *
          generalize l[i].2 = tc at *
          have hst := HST1.out
          subst hst
          clear HST1
          rw [HNX.out] at HSL
          have hsl := HSL.out
          rw [asum1_append] at hsl
          have HAD := Lib.hid hsl
          have HM2 := Lib.hid (show asum1 (prs [(0, tc)] (LA ta)) * asum1 (LZ tz) ≤ 1125899906842624 from by rw [← asum1_prs]; omega)
          have HM1 := Lib.hid (show asum1 [((0 : Int), tc)] * asum1 (LA ta) ≤ 1125899906842624 from by
            have e1 : asum1 [((0 : Int), tc)] = tc.natAbs := by unfold asum1; unfold asum1; rfl
            rw [e1]
            have : tc.natAbs * asum1 (LA ta) ≤ tc.natAbs * 1 := Nat.mul_le_mul_left _ ha1
            omega)
          have HE0 := Lib.hid (show Eb1 0 [((0 : Int), tc)] from fun t ht => by rw [List.mem_singleton.1 ht]; simp)
          have HT66 := Lib.hid (fun W => TermQ tc 0 W hcc.1 hcc.2 hc0n (by decide) (by decide))
          have HWZ := Lib.hid (show IntKind.i64.wrap (tz + 0) = tz ∧ IntKind.i64.wrap tz = tz from ⟨by rw [Int.add_zero]; exact IntWalk.i64_in _ (by omega), IntWalk.i64_in _ (by omega)⟩)
          obtain ⟨TL, hTL⟩ : ∃ TL, TL = setL LA LZ (l.take i) := ⟨_, rfl⟩
          rw [← hTL] at rq HAD HNX
          clear hsl ha1 hz1 HSL hTL hc0n
          obtain ⟨B15, hB15⟩ : ∃ B, B = wr.heap.size := ⟨_, rfl⟩
          have hWo : ∀ W, W = wr.alloc (.cells #[.int .i64 ta, .int .i64 tz, .int .i64 tc] 65) → Arr W B15 65 [.int .i64 ta, .int .i64 tz, .int .i64 tc] ∧ Below wr.heap.size wr W ∧ S [w.heap.size + 3, B13, B15] W := by
            intro W hW
            subst hW
            rw [hB15]
            refine ⟨Arr.new _ _ [_, _, _], (Below.refl _ _).alloc (Nat.le_refl _) _, HJJ.out.s1 _ _ _ _ rs ((Below.refl _ _).alloc (Nat.le_refl _) _) fun k hk => ?_⟩
            simp only [List.mem_cons, List.not_mem_nil, or_false] at hk ⊢
            rcases hk with rfl | rfl | rfl
            · exact .inl (.inl rfl)
            · exact .inl (.inr rfl)
            · exact .inr ⟨Nat.le_refl _, by simp⟩
          go_upto_region 16 with fail
          rw [← hB15]
          generalize wr.alloc (.cells #[.int .i64 ta, .int .i64 tz, .int .i64 tc] 65) = w5 at hWo ⊢
          obtain ⟨q15, hb5, hs5⟩ := hWo w5 rfl
          obtain ⟨TT, hTT⟩ : ∃ TT, TT = KT w.heap.size [w.heap.size + 3, B13, B15] (S [w.heap.size + 3, B13, B15]) := ⟨_, rfl⟩
          have hz5 : w.heap.size ≤ w5.heap.size := Nat.le_trans rb.size hb5.size
          have hSB : ∀ a b, S [w.heap.size + 3, B13, B15] a → Below a.heap.size a b → S [w.heap.size + 3, B13, B15] b := fun a b h hb => HJJ.out.s1 _ _ _ _ h hb fun k hk => .inl hk
          have HTB := Lib.hid (show ∀ a b, TT w5 a → Below a.heap.size a b → TT a b from fun a b h hb => by
            subst hTT
            exact KT.of_below hSB hb (Nat.le_trans hz5 h.bel.size))
          have HT0 := Lib.hid (show TT w5 w5.drew from by
            subst hTT
            exact KT.of_below hSB (Below.refl _ _).drew hz5)
          have HTR := Lib.hid (show ∀ a b c, TT a b → TT b c → TT a c from fun a b c h k => by subst hTT; exact h.trans k)
          have HTQ := Lib.hid (show ∀ v L a b, QL a v L → TT a b → QL b v L from fun v L a b h k => by subst hTT; exact KT.ql h k)
          have HTS := Lib.hid (show ∀ W, TT w5 W → S [w.heap.size + 3, B13, B15] W ∧ w.heap.size ≤ W.heap.size from fun W h => by subst hTT; exact ⟨h.st hs5, Nat.le_trans hz5 h.bel.size⟩)
          have qt5 := rt.below hb5 rt.lt
          have HTG := Lib.hid (show ∀ W, TT w5 W → Arr W B13 38 [.bool false, .slice At nt ct] ∧ Arr W B15 65 [.int .i64 ta, .int .i64 tz, .int .i64 tc] from fun W h => by
            subst hTT
            exact ⟨KT.arr qt5 h (by simp), KT.arr q15 h (by simp)⟩)
          have HTV := Lib.hid (rq.below hb5)
          have HCA := Lib.hid (show (∀ args W, (callFunc KA args).run Tryz.prog W = .ok (.enter KA args) W) ∧ ∀ (n : Int) W, okA n → (S [w.heap.size + 3, B13, B15] W ∧ w.heap.size ≤ W.heap.size) → Calls Tryz.prog KA #[.int .i64 n, cA] W fun e w' => ∃ v, e = .returned v ∧ QL w' v (LA n) ∧ TT W w' from ⟨HJJ.out.nA, fun n W h1 h2 => by subst hTT; exact HJJ.out.cA' _ n W h1 h2.1 h2.2⟩)
          have HCZ := Lib.hid (show (∀ args W, (callFunc KZ args).run Tryz.prog W = .ok (.enter KZ args) W) ∧ ∀ (n : Int) W, okZ n → (S [w.heap.size + 3, B13, B15] W ∧ w.heap.size ≤ W.heap.size) → Calls Tryz.prog KZ #[.int .i64 n, cZ1, cZ2] W fun e w' => ∃ v, e = .returned v ∧ QL w' v (LZ n) ∧ TT W w' from ⟨HJJ.out.nZ, fun n W h1 h2 => by subst hTT; exact HJJ.out.cZ' _ n W h1 h2.1 h2.2⟩)
          have RP := Lib.hid (rp.below hb5 rp.lt)
          have RR := Lib.hid (rr.below hb5 rr.lt)
          have RB := Lib.hid (rb.trans (hb5.mono rb.size))
          have RZ := Lib.hid (rp.lt)
          have HTT := Lib.hid hTT
          have H15 := Lib.hid hB15
          have HLW := Lib.hid (And.intro rt.lt (And.intro rp.lt rr.lt))
          have HSB := Lib.hid hSB
          clear hc0 hc1 hc2 rp rr rt rq rs rb hWo q15 hb5 hs5 hSB qt5 hTT hB15 hz5 hcc hez
          refine wp_region_phx (TT) (fun h k => HTR.out _ _ _ h k) (HT0.out) 17 (by kernel_rfl) (by kernel_rfl) (by kernel_rfl) (by kernel_rfl) rfl (by kernel_rfl) (phiT (fun i => ([some (.agg #[.bool false, .slice At nt ct]), some (.pointer (some ⟨B15, 2, none⟩)), some (.int .i64 tc), none, some (.func (.func KA) #[] #[cA]), some (.pointer (some ⟨B15, 0, none⟩)), some (.int .i64 ta), none, none, some (.func (.func KZ) #[] #[cZ1, cZ2]), some (.pointer (some ⟨B15, 1, none⟩)), some (.int .i64 tz), some (.int .i64 0), some (.int .i64 tz), none, none, none, some (undef)] : List (Option Value)).getD i none) (fun i v w => (if i = 3 then (fun v w => QL w v [(0, tc)]) v w else (if i = 7 then (fun v w => QL w v (LA ta)) v w else (if i = 8 then (fun v w => QL w v (prs [(0, tc)] (LA ta))) v w else (if i = 14 then (fun v w => QL w v (LZ tz)) v w else (if i = 15 then (fun v w => QL w v (prs (prs [(0, tc)] (LA ta)) (LZ tz))) v w else (if i = 16 then (fun v w => QL w v (TL ++ prs (prs [(0, tc)] (LA ta)) (LZ tz))) v w else True)))))))) (fun i v w w' h hb => ?_) (fun _ W => ∃ (A : Option Addr) (n c : Nat), Arr W B13 38 [.bool false, .slice A n c] ∧ QL W (.agg #[.bool false, .slice A n c]) (TL ++ prs (prs [(0, tc)] (LA ta)) (LZ tz)) ∧ ∃ W1, TT w5 W1 ∧ ∃ u1 u2, W = (W1.setCell ⟨B13, 0, none⟩ u1).setCell ⟨B13, 1, none⟩ u2) ⟨?_, ?_, ?_, ?_, ?_, ?_, ?_, ?_, ?_, ?_, ?_, ?_, ?_, ?_, ?_, ?_, ?_, ?_, trivial⟩ ?_
          · unfold phiT at h ⊢
            split
            · next u hu => rw [hu] at h; exact h
            · next hu =>
              rw [hu] at h
              simp only at h ⊢
              by_cases q3 : i = 3
              · rw [if_pos q3] at h ⊢; exact HTQ.out _ _ _ _ h hb
              · rw [if_neg q3] at h ⊢
                by_cases q7 : i = 7
                · rw [if_pos q7] at h ⊢; exact HTQ.out _ _ _ _ h hb
                · rw [if_neg q7] at h ⊢
                  by_cases q8 : i = 8
                  · rw [if_pos q8] at h ⊢; exact HTQ.out _ _ _ _ h hb
                  · rw [if_neg q8] at h ⊢
                    by_cases q14 : i = 14
                    · rw [if_pos q14] at h ⊢; exact HTQ.out _ _ _ _ h hb
                    · rw [if_neg q14] at h ⊢
                      by_cases q15 : i = 15
                      · rw [if_pos q15] at h ⊢; exact HTQ.out _ _ _ _ h hb
                      · rw [if_neg q15] at h ⊢
                        by_cases q16 : i = 16
                        · rw [if_pos q16] at h ⊢; exact HTQ.out _ _ _ _ h hb
                        · rw [if_neg q16] at h ⊢
                          trivial
          · intro x w1 bA hT hdep hold hb
            refine ⟨fun _ => ?_, fun h => absurd h (by decide)⟩
            refine .inl ⟨trivial, ?_⟩
            have e13 : bA.tmps[13]?.getD undef = .pointer (some ⟨B13, 0, none⟩) := hb 13
            have cc0 := (HTG.out _ hT).1.cell 0
            have cc1 := (HTG.out _ hT).1.cell 1
            refine phx_run (.agg #[.bool false, .slice At nt ct]) ?_ (HTB.out _ _ hT (Below.refl _ _)) rfl
            clear hb hdep hold
            go_simp
          · intro x w1 bA hT hdep hold hb
            refine ⟨fun _ => ?_, fun h => absurd h (by decide)⟩
            refine .inl ⟨trivial, ?_⟩
            have e15 : bA.tmps[15]?.getD undef = .pointer (some ⟨B15, 0, none⟩) := hb 15
            refine phx_run (.pointer (some ⟨B15, 2, none⟩)) ?_ (HTB.out _ _ hT (Below.refl _ _)) rfl
            clear hb hdep hold
            go_simp
          · intro x w1 bA hT hdep hold hb
            refine ⟨fun _ => ?_, fun h => absurd h (by decide)⟩
            refine .inl ⟨trivial, ?_⟩
            have e64 : bA.tmps[64]?.getD undef = .pointer (some ⟨B15, 2, none⟩) := (hb 64).trans (hdep 1 (by decide))
            have ct := (HTG.out _ hT).2.cell 2
            refine phx_run (.int .i64 tc) ?_ (HTB.out _ _ hT (Below.refl _ _)) rfl
            clear hb hdep hold
            go_simp
          · intro x w1 bA hT hdep hold hb
            refine ⟨fun _ => ?_, fun h => absurd h (by decide)⟩
            refine .inl ⟨trivial, ?_⟩
            have e65 : bA.tmps[65]?.getD undef = .int .i64 tc := (hb 65).trans (hdep 2 (by decide))
            refine phx_call ?_ ((HT66.out w1).mono fun e w' h => (by obtain ⟨v, he, hb', hv⟩ := h; exact ⟨v, he, HTB.out _ _ hT hb', hv⟩))
            clear hb hdep hold
            go_simp
          · intro x w1 bA hT hdep hold hb
            refine ⟨fun _ => ?_, fun h => absurd h (by decide)⟩
            refine .inl ⟨trivial, ?_⟩
            have e11 : bA.tmps[11]?.getD undef = .func (.func KA) #[] #[cA] := hb 11
            refine phx_run (.func (.func KA) #[] #[cA]) ?_ (HTB.out _ _ hT (Below.refl _ _)) rfl
            clear hb hdep hold
            go_simp
          · intro x w1 bA hT hdep hold hb
            refine ⟨fun _ => ?_, fun h => absurd h (by decide)⟩
            refine .inl ⟨trivial, ?_⟩
            have e15 : bA.tmps[15]?.getD undef = .pointer (some ⟨B15, 0, none⟩) := hb 15
            refine phx_run (.pointer (some ⟨B15, 0, none⟩)) ?_ (HTB.out _ _ hT (Below.refl _ _)) rfl
            clear hb hdep hold
            go_simp
          · intro x w1 bA hT hdep hold hb
            refine ⟨fun _ => ?_, fun h => absurd h (by decide)⟩
            refine .inl ⟨trivial, ?_⟩
            have e68 : bA.tmps[68]?.getD undef = .pointer (some ⟨B15, 0, none⟩) := (hb 68).trans (hdep 5 (by decide))
            have ct := (HTG.out _ hT).2.cell 0
            refine phx_run (.int .i64 ta) ?_ (HTB.out _ _ hT (Below.refl _ _)) rfl
            clear hb hdep hold
            go_simp
          · intro x w1 bA hT hdep hold hb
            refine ⟨fun _ => ?_, fun h => absurd h (by decide)⟩
            refine .inl ⟨trivial, ?_⟩
            have e67 : bA.tmps[67]?.getD undef = .func (.func KA) #[] #[cA] := (hb 67).trans (hdep 4 (by decide))
            have e69 : bA.tmps[69]?.getD undef = .int .i64 ta := (hb 69).trans (hdep 6 (by decide))
            have eg := HCA.out.1
            have hS1 := HTS.out _ hT
            refine phx_call ?_ ((HCA.out.2 ta w1 HOA.out (HTS.out _ hT)).mono fun e w' h => (by obtain ⟨v, he, hv, ht⟩ := h; exact ⟨v, he, ht, hv⟩))
            clear hb hdep hold
            go_simp
          · intro x w1 bA hT hdep hold hb
            refine ⟨fun _ => ?_, fun h => absurd h (by decide)⟩
            refine .inl ⟨trivial, ?_⟩
            have p66 := hdep 3 (by decide)
            have e66 : bA.tmps[66]?.getD undef = x 3 := hb 66
            generalize x 3 = x66 at *
            have P66 := Lib.hid (show (fun v w => QL w v [(0, tc)]) x66 w1 from p66)
            clear p66
            have p70 := hdep 7 (by decide)
            have e70 : bA.tmps[70]?.getD undef = x 7 := hb 70
            generalize x 7 = x70 at *
            have P70 := Lib.hid (show (fun v w => QL w v (LA ta)) x70 w1 from p70)
            clear p70
            refine phx_call ?_ ((MulQ x66 x70 [(0, tc)] (LA ta) w1 P66.out P70.out HM1.out (N := 0) (M := 400000) HE0.out HEA.out (by omega)).mono fun e w' h => (by obtain ⟨v, he, hb', hv⟩ := h; exact ⟨v, he, HTB.out _ _ hT hb', hv⟩))
            clear hb hdep hold
            go_simp
          · intro x w1 bA hT hdep hold hb
            refine ⟨fun _ => ?_, fun h => absurd h (by decide)⟩
            refine .inl ⟨trivial, ?_⟩
            have e12 : bA.tmps[12]?.getD undef = .func (.func KZ) #[] #[cZ1, cZ2] := hb 12
            refine phx_run (.func (.func KZ) #[] #[cZ1, cZ2]) ?_ (HTB.out _ _ hT (Below.refl _ _)) rfl
            clear hb hdep hold
            go_simp
          · intro x w1 bA hT hdep hold hb
            refine ⟨fun _ => ?_, fun h => absurd h (by decide)⟩
            refine .inl ⟨trivial, ?_⟩
            have e15 : bA.tmps[15]?.getD undef = .pointer (some ⟨B15, 0, none⟩) := hb 15
            refine phx_run (.pointer (some ⟨B15, 1, none⟩)) ?_ (HTB.out _ _ hT (Below.refl _ _)) rfl
            clear hb hdep hold
            go_simp
          · intro x w1 bA hT hdep hold hb
            refine ⟨fun _ => ?_, fun h => absurd h (by decide)⟩
            refine .inl ⟨trivial, ?_⟩
            have e73 : bA.tmps[73]?.getD undef = .pointer (some ⟨B15, 1, none⟩) := (hb 73).trans (hdep 10 (by decide))
            have ct := (HTG.out _ hT).2.cell 1
            refine phx_run (.int .i64 tz) ?_ (HTB.out _ _ hT (Below.refl _ _)) rfl
            clear hb hdep hold
            go_simp
          · intro x w1 bA hT hdep hold hb
            refine ⟨fun _ => ?_, fun h => absurd h (by decide)⟩
            refine .inl ⟨trivial, ?_⟩
            have e8 : bA.tmps[8]?.getD undef = .int .i64 0 := hb 8
            refine phx_run (.int .i64 0) ?_ (HTB.out _ _ hT (Below.refl _ _)) rfl
            clear hb hdep hold
            go_simp
          · intro x w1 bA hT hdep hold hb
            refine ⟨fun _ => ?_, fun h => absurd h (by decide)⟩
            refine .inl ⟨trivial, ?_⟩
            have e74 : bA.tmps[74]?.getD undef = .int .i64 tz := (hb 74).trans (hdep 11 (by decide))
            have e75 : bA.tmps[75]?.getD undef = .int .i64 0 := (hb 75).trans (hdep 12 (by decide))
            have zw := HWZ.out
            have zz := Int.add_zero tz
            refine phx_run (.int .i64 tz) ?_ (HTB.out _ _ hT (Below.refl _ _)) rfl
            clear hb hdep hold
            go_simp
          · intro x w1 bA hT hdep hold hb
            refine ⟨fun _ => ?_, fun h => absurd h (by decide)⟩
            refine .inl ⟨trivial, ?_⟩
            have e72 : bA.tmps[72]?.getD undef = .func (.func KZ) #[] #[cZ1, cZ2] := (hb 72).trans (hdep 9 (by decide))
            have e76 : bA.tmps[76]?.getD undef = .int .i64 tz := (hb 76).trans (hdep 13 (by decide))
            have eg := HCZ.out.1
            refine phx_call ?_ ((HCZ.out.2 tz w1 HOZ.out (HTS.out _ hT)).mono fun e w' h => (by obtain ⟨v, he, hv, ht⟩ := h; exact ⟨v, he, ht, hv⟩))
            clear hb hdep hold
            go_simp
          · intro x w1 bA hT hdep hold hb
            refine ⟨fun _ => ?_, fun h => absurd h (by decide)⟩
            refine .inl ⟨trivial, ?_⟩
            have p71 := hdep 8 (by decide)
            have e71 : bA.tmps[71]?.getD undef = x 8 := hb 71
            generalize x 8 = x71 at *
            have P71 := Lib.hid (show (fun v w => QL w v (prs [(0, tc)] (LA ta))) x71 w1 from p71)
            clear p71
            have p77 := hdep 14 (by decide)
            have e77 : bA.tmps[77]?.getD undef = x 14 := hb 77
            generalize x 14 = x77 at *
            have P77 := Lib.hid (show (fun v w => QL w v (LZ tz)) x77 w1 from p77)
            clear p77
            refine phx_call ?_ ((MulQ x71 x77 (prs [(0, tc)] (LA ta)) (LZ tz) w1 P71.out P77.out HM2.out (N := 0 + 400000) (M := 400000) (HE0.out.mul HEA.out) HEZ.out (by omega)).mono fun e w' h => (by obtain ⟨v, he, hb', hv⟩ := h; exact ⟨v, he, HTB.out _ _ hT hb', hv⟩))
            clear hb hdep hold
            go_simp
          · intro x w1 bA hT hdep hold hb
            refine ⟨fun _ => ?_, fun h => absurd h (by decide)⟩
            refine .inl ⟨trivial, ?_⟩
            have e63 : bA.tmps[63]?.getD undef = .agg #[.bool false, .slice At nt ct] := (hb 63).trans (hdep 0 (by decide))
            have p78 := hdep 15 (by decide)
            have e78 : bA.tmps[78]?.getD undef = x 15 := hb 78
            generalize x 15 = x78 at *
            have P78 := Lib.hid (show (fun v w => QL w v (prs (prs [(0, tc)] (LA ta)) (LZ tz))) x78 w1 from p78)
            clear p78
            refine phx_call ?_ ((AddQ (.agg #[.bool false, .slice At nt ct]) x78 TL (prs (prs [(0, tc)] (LA ta)) (LZ tz)) w1 (HTQ.out _ _ _ _ HTV.out hT) P78.out HAD.out).mono fun e w' h => (by obtain ⟨v, he, hb', hv⟩ := h; exact ⟨v, he, HTB.out _ _ hT hb', hv⟩))
            clear hb hdep hold
            go_simp
          · intro x w1 bA hT hdep hold hb
            refine ⟨fun h => absurd h (by decide), fun _ hall => ?_⟩
            refine ⟨trivial, ?_⟩
            have e13 : bA.tmps[13]?.getD undef = .pointer (some ⟨B13, 0, none⟩) := hb 13
            have e79 : bA.tmps[79]?.getD undef = x 16 := hb 79
            have p66 := Lib.hid (show (fun v w => QL w v [(0, tc)]) (x 3) w1 from hall 3 (by decide))
            have p70 := Lib.hid (show (fun v w => QL w v (LA ta)) (x 7) w1 from hall 7 (by decide))
            have p71 := Lib.hid (show (fun v w => QL w v (prs [(0, tc)] (LA ta))) (x 8) w1 from hall 8 (by decide))
            have p77 := Lib.hid (show (fun v w => QL w v (LZ tz)) (x 14) w1 from hall 14 (by decide))
            have p78 := Lib.hid (show (fun v w => QL w v (prs (prs [(0, tc)] (LA ta)) (LZ tz))) (x 15) w1 from hall 15 (by decide))
            have p79 := Lib.hid (show (fun v w => QL w v (TL ++ prs (prs [(0, tc)] (LA ta)) (LZ tz))) (x 16) w1 from hall 16 (by decide))
            clear hb hdep hold
            obtain ⟨Az2, nz2, cz2, e79b⟩ := p79.out.form
            rw [e79b] at e79
            have HPV := Lib.hid (e79b ▸ p79.out)
            have q5 := (HTG.out _ hT).1
            have Q5b := Lib.hid q5
            have f0 := q5.frozen 0
            have f1 := q5.frozen 1
            have c0 := q5.cell 0
            have c1 := q5.cell 1
            have HBL := Lib.hid hT
            clear q5 e79b p66 p70 p71 p77 p78 p79 hT
            refine phx_st (R := fun W => ∃ (A : Option Addr) (n c : Nat), Arr W B13 38 [.bool false, .slice A n c] ∧ QL W (.agg #[.bool false, .slice A n c]) (TL ++ prs (prs [(0, tc)] (LA ta)) (LZ tz)) ∧ ∃ W1, TT w5 W1 ∧ ∃ u1 u2, W = (W1.setCell ⟨B13, 0, none⟩ u1).setCell ⟨B13, 1, none⟩ u2) ((w1.setCell ⟨B13, 0, none⟩ (.bool false)).setCell ⟨B13, 1, none⟩ (.slice Az2 nz2 cz2)) ?_ rfl ⟨Az2, nz2, cz2, (Q5b.out.set 0 _).set 1 _, HPV.out.box Q5b.out _ _, w1, HBL.out, _, _, rfl⟩
            go_simp
          intro x w1 hR
          simp only [putAll, dstOf, Act.put, List.map_cons, List.map_nil, List.setIfInBounds_toArray, List.set_cons_succ, List.set_cons_zero, Nat.reduceAdd]
          obtain ⟨An, nn, cn, h1, h2, W1, h3, u1, u2, h4⟩ := hR
          have HF := Lib.hid (show Arr w1 w.heap.size 27 [.bool false, .slice (some ⟨b, o', none⟩) l.length c] ∧ Arr w1 (w.heap.size + 3) 38 [.bool false, .slice none 0 0] ∧ Arr w1 B13 38 [.bool false, .slice An nn cn] ∧ QL w1 (.agg #[.bool false, .slice An nn cn]) (setL LA LZ (l.take (i + 1))) ∧ S [w.heap.size + 3, B13] w1 ∧ Below w.heap.size w w1 from by
            have g13 := (HTG.out W1 h3).1
            have s3 := (HTS.out W1 h3).1
            have hTT := HTT.out
            subst hTT
            have kh : ∀ k, k ≠ B13 → w1.heap[k]? = W1.heap[k]? := fun k hk => by
              rw [h4]
              exact (Below.heap_setCell _ ⟨B13, 1, none⟩ u2 k hk).trans (Below.heap_setCell W1 ⟨B13, 0, none⟩ u1 k hk)
            have hg := HG13.out
            have s4 : S [w.heap.size + 3, B13, B15] w1 := by
              rw [h4]
              exact HJJ.out.s2 _ _ B13 1 u2 _ (HJJ.out.s2 _ _ B13 0 u1 _ s3 (by simp) g13) (by simp) (g13.set 0 u1)
            refine ⟨(kh w.heap.size (by omega)).trans ((h3.ty _ _ _ _ RP.out (by decide) (by decide)).trans RP.out), (kh (w.heap.size + 3) (by omega)).trans (KT.arr RR.out h3 (by simp)), h1, by rw [HNX.out]; exact h2, HJJ.out.s1 _ _ _ _ s4 (Below.refl _ _) fun k hk => .inl ?_, ?_⟩
            · simp only [List.mem_cons, List.not_mem_nil, or_false] at hk ⊢
              rcases hk with rfl | rfl
              · exact .inl rfl
              · exact .inr (.inl rfl)
            · rw [h4]
              exact ((RB.out.trans h3.bel).setCell (p := ⟨B13, 0, none⟩) (by show w.heap.size ≤ B13; omega) u1).setCell (p := ⟨B13, 1, none⟩) (by show w.heap.size ≤ B13; omega) u2)
          have BG := Lib.hid (show Calls Tryz.prog 39 #[.agg #[.bool false, .slice An nn cn]] w1 fun e w' => e = .returned (.bool false) ∧ Below w1.heap.size w1 w' from by
            obtain ⟨l', e1, _⟩ := HF.out.2.2.2.1
            exact Big_any _ _ w1 e1)
          have c0 := h1.cell 0
          have c1 := h1.cell 1
          clear h1 h2 h3 h4 HTB HT0 HTR HTQ HTS HTG HTV HCA HCZ RP RR RB RZ HTT H15 HLW HSB
          go_wp2_with fail
          refine BG.out.mono ?_
          rintro e w6 ⟨rfl, hb6⟩
          have HF6 := Lib.hid (show ∃ (At : Option Addr) (nt ct : Nat), Arr w6 w.heap.size 27 [.bool false, .slice (some ⟨b, o', none⟩) l.length c] ∧ Arr w6 (w.heap.size + 3) 38 [.bool false, .slice none 0 0] ∧ Arr w6 B13 38 [.bool false, .slice At nt ct] ∧ QL w6 (.agg #[.bool false, .slice At nt ct]) (setL LA LZ (l.take (i + 1))) ∧ S [w.heap.size + 3, B13] w6 ∧ Below w.heap.size w w6 from
            ⟨An, nn, cn, HF.out.1.below hb6 HF.out.1.lt, HF.out.2.1.below hb6 HF.out.2.1.lt, HF.out.2.2.1.below hb6 HF.out.2.2.1.lt, HF.out.2.2.2.1.below hb6, HJJ.out.s1 _ _ _ _ HF.out.2.2.2.2.1 hb6 fun k hk => .inl hk, HF.out.2.2.2.2.2.trans (hb6.mono HF.out.2.2.2.2.2.size)⟩)
          clear BG c0 c1 hb6 HF
          go_wp2_with fail
          go_roundg (l.length - (i + 1))
          case measure => omega
          case rel => exact ⟨i + 1, by omega, rfl, by go_num, HF6⟩
        · have z1 : ¬ (i : Int) < (l.length : Int) := by omega
          have hkk : l.take i = l := List.take_of_length_le (by omega)
          rw [hkk] at rq
          have c0 := rt.cell 0
          have c1 := rt.cell 1
          have f0 := rr.frozen 0
          have f1 := rr.frozen 1
          have r0 := rr.cell 0
          have r1 := rr.cell 1
          have HQ := Lib.hid (rq.box rr (.bool false) (.slice At nt ct))
          have hres := Lib.hid ((rr.set 0 (.bool false)).set 1 (.slice At nt ct))
          have HBL := Lib.hid ((rb.setCell (p := ⟨w.heap.size + 3, 0, none⟩) (by simp) (.bool false)).setCell (p := ⟨w.heap.size + 3, 1, none⟩) (by simp) (.slice At nt ct))
          clear rp rr rt rq rs rb hkk
          go_wp2_with fail
          refine bodyPost_ret (v := .tuple #[.agg #[.bool false, .slice At nt ct], .int .i64 0]) (results_ct Tryz.results20 _ _ (w.heap.size + 3) 38 _ _ rfl hres.out Tryz.underlying38 rfl info_poly) rfl ?_
          exact ⟨At, nt, ct, rfl, HQ.out, HBL.out⟩
set_option maxHeartbeats 8000000 in
set_option maxRecDepth 100000 in
theorem Set_walk1 (vp va vz : Value) (l : List T2) (la lz : List T1) (w : World) (PsiA PsiZ : Value → World → Prop) (LA LZ : Int → List T1) (okA okZ : Int → Prop)
    (hp : PolyB w vp (some l)) (ha : PolyV w va (some la)) (hz : PolyV w vz (some lz)) (oka : okP (some la)) (hua : unitP (some la) = true) (lp : Lim2 l) (kp : Can2 l) (hl : l.length ≤ 10000) (hnn : ∀ t ∈ l, 0 ≤ t.1.2)
    (hPA : ∀ W, Below w.heap.size w W → w.heap.size + 4 ≤ W.heap.size → Calls Tryz.prog 41 #[va] W fun e w' => ∃ v, e = .returned v ∧ Below W.heap.size W w' ∧ PsiA v w')
    (hPZ : ∀ W, Below w.heap.size w W → w.heap.size + 4 ≤ W.heap.size → Calls Tryz.prog 41 #[vz] W fun e w' => ∃ v, e = .returned v ∧ Below W.heap.size W w' ∧ PsiZ v w')
    (hkA : ∀ v a b, PsiA v a → Below a.heap.size a b → PsiA v b) (hkZ : ∀ v a b, PsiZ v a → Below a.heap.size a b → PsiZ v b)
    (hJ : ∀ fA fZ W, PsiA fA W → PsiZ fZ W → ∃ (KA KZ : FuncId) (cA cZ1 : Value) (S : List Nat → World → Prop), PwJ w fA fZ LA LZ okA okZ KA KZ cA [cZ1] S ∧ S [w.heap.size + 3] W)
    (hokA : ∀ t ∈ l, okA t.1.1) (hokZ : ∀ t ∈ l, okZ t.1.2) (hEA : ∀ t ∈ l, Eb1 400000 (LA t.1.1)) (hEZ : ∀ t ∈ l, Eb1 400000 (LZ t.1.2)) (hA1 : ∀ t ∈ l, asum1 (LA t.1.1) ≤ 1) (hZ1 : ∀ t ∈ l, 1 ≤ asum1 (LZ t.1.2)) (hsum : asum1 (setL LA LZ l) ≤ 1125899906842624) :
    Calls Tryz.prog 20 #[vp, va, vz] w (SetR (setL LA LZ l) w) := by
  have HP := Lib.hid (fun W (hb : Below w.heap.size w W) => hp.below hb)
  have HBA := Lib.hid (fun W (hb : Below w.heap.size w W) => Big_any va (some la) W (ha.below hb))
  have HBZ := Lib.hid (fun W (hb : Below w.heap.size w W) => Big_any vz (some lz) W (hz.below hb))
  have HUN := Lib.hid (fun W (hb : Below w.heap.size w W) => unit_any va (some la) W (ha.below hb) oka)
  rw [hua] at HUN
  have HPA := Lib.hid hPA
  have HPZ := Lib.hid hPZ
  have HKA := Lib.hid hkA
  have HKZ := Lib.hid hkZ
  have HJ := Lib.hid hJ
  have HOK := Lib.hid (And.intro hokA hokZ)
  have HEE := Lib.hid (And.intro hEA hEZ)
  have HA1 := Lib.hid (And.intro hA1 hZ1)
  have HSU := Lib.hid hsum
  have HLP := Lib.hid (And.intro lp hnn)
  have HKP := Lib.hid kp
  obtain ⟨bA, Aa, na, ca0, rfl, jA, -⟩ := ha.parts
  have jb : bA = false := jA
  subst jb
  obtain ⟨bZ, Az, nz, cz0, rfl, jZ, -⟩ := hz.parts
  have jb : bZ = false := jZ
  subst jb
  obtain ⟨A, c, rfl, _⟩ := hp
  simp only [Option.isNone_some, Option.getD_some] at HP ⊢
  have hW : ∀ W, W = (((w.alloc (.cells #[.bool false, .slice A l.length c] 27)).alloc (.cells #[.bool false, .slice Aa na ca0] 38)).alloc (.cells #[.bool false, .slice Az nz cz0] 38)).alloc (.cells #[.bool false, .slice none 0 0] 38) → Arr W w.heap.size 27 [.bool false, .slice A l.length c] ∧ Arr W (w.heap.size + 1) 38 [.bool false, .slice Aa na ca0] ∧ Arr W (w.heap.size + 2) 38 [.bool false, .slice Az nz cz0] ∧ Arr W (w.heap.size + 3) 38 [.bool false, .slice none 0 0] ∧ Below w.heap.size w W ∧ W.heap.size = w.heap.size + 4 := by
    intro W hW
    subst hW
    exact ⟨(((Arr.new _ _ [_, _]).alloc _).alloc _).alloc _, ((Arr.newAt (w.alloc _) _ [_, _] _ (by simp)).alloc _).alloc _, (Arr.newAt ((w.alloc _).alloc _) _ [_, _] _ (by simp)).alloc _, Arr.newAt (((w.alloc _).alloc _).alloc _) _ [_, _] _ (by simp), ((((Below.refl _ _).alloc (Nat.le_refl _) _).alloc (by simp) _).alloc (by simp <;> omega) _).alloc (by simp <;> omega) _, by simp⟩
  clear ha hz jA jZ hPA hPZ hkA hkZ hJ hokA hokZ hEA hEZ hA1 hZ1 hsum lp kp hnn hua oka
  go_enter Tryz.func20, Tryz.ntmps20
  go_upto_region 1 with fail
  generalize (((w.alloc (.cells #[.bool false, .slice A l.length c] 27)).alloc (.cells #[.bool false, .slice Aa na ca0] 38)).alloc (.cells #[.bool false, .slice Az nz cz0] 38)).alloc (.cells #[.bool false, .slice none 0 0] 38) = w3 at hW ⊢
  obtain ⟨qp, qa, qz, qr, hb3, hs3⟩ := hW w3 rfl
  clear hW
  have y0 := qp.cell 0
  have y1 := qa.cell 0
  have y2 := qa.cell 1
  have B1 := Lib.hid (HBA.out w3 hb3)
  go_wp2_with fail
  refine B1.out.mono ?_
  rintro e w4 ⟨rfl, hb4⟩
  have hb3' := hb3.trans (hb4.mono hb3.size)
  have q3p := qp.below hb4 qp.lt
  have q3a := qa.below hb4 qa.lt
  have q3z := qz.below hb4 qz.lt
  have q3r := qr.below hb4 qr.lt
  have hs4 := hb4.size
  have y3 := q3z.cell 0
  have y4 := q3z.cell 1
  have B2 := Lib.hid (HBZ.out w4 hb3')
  clear y0 y1 y2 B1 qp qa qz qr hb3 hb4
  go_wp2_with fail
  refine B2.out.mono ?_
  rintro e w5 ⟨rfl, hb5⟩
  have qp := q3p.below hb5 q3p.lt
  have qa := q3a.below hb5 q3a.lt
  have qz := q3z.below hb5 q3z.lt
  have qr := q3r.below hb5 q3r.lt
  have hb6 := hb3'.trans (hb5.mono hb3'.size)
  have hs5 : w.heap.size + 4 ≤ w5.heap.size := by have := hb5.size; omega
  clear y3 y4 B2 q3p q3a q3z q3r hb3' hb5 hs3 hs4
  have y1 := qp.cell 1
  have HST := Lib.hid (show Arr w5 w.heap.size 27 [.bool false, .slice A l.length c] ∧ Arr w5 (w.heap.size + 1) 38 [.bool false, .slice Aa na ca0] ∧ Arr w5 (w.heap.size + 2) 38 [.bool false, .slice Az nz cz0] ∧ Arr w5 (w.heap.size + 3) 38 [.bool false, .slice none 0 0] ∧ Below w.heap.size w w5 ∧ w.heap.size + 4 ≤ w5.heap.size from ⟨qp, qa, qz, qr, hb6, hs5⟩)
  clear qp qa qz qr hb6 hs5
  go_wp2_with fail
  clear y1
  go_loopg [8, 33] l.length (fun gk s8 s33 wr => ∃ (i : Nat), i ≤ l.length ∧ gk = l.length - i ∧ s33 = .int .i64 (i : Int) ∧ s8 = .int .i64 0 ∧ Hid (Arr wr w.heap.size 27 [.bool false, .slice A l.length c] ∧ Arr wr (w.heap.size + 1) 38 [.bool false, .slice Aa na ca0] ∧ Arr wr (w.heap.size + 2) 38 [.bool false, .slice Az nz cz0] ∧ Arr wr (w.heap.size + 3) 38 [.bool false, .slice none 0 0] ∧ Below w.heap.size w wr ∧ w.heap.size + 4 ≤ wr.heap.size))
  case atStart => exact ⟨0, Nat.zero_le _, rfl, rfl, rfl, HST⟩
  case round =>
    clear HST
    obtain ⟨i, hi, rfl, rfl, rfl, HR⟩ := hrel
    by_cases hlt : i < l.length
    · have z1 : (i : Int) < (l.length : Int) := by omega
      obtain ⟨b, o', rfl, _, hc0, hc1, hc2⟩ := (HP.out wr HR.out.2.2.2.2.1).tm_some.at_ hlt
      have hnz := HLP.out.2 _ (List.getElem_mem hlt)
      have hea := HLP.out.1.ea _ (List.getElem_mem hlt)
      have hez := HLP.out.1.ez _ (List.getElem_mem hlt)
      generalize l[i].1.1 = ta at *
      generalize l[i].1.2 = tz at *
      generalize l[i].2 = tc at *
      have hWo : ∀ W, W = wr.alloc (.cells #[.int .i64 ta, .int .i64 tz, .int .i64 tc] 65) → Arr W wr.heap.size 65 [.int .i64 ta, .int .i64 tz, .int .i64 tc] ∧ Below wr.heap.size wr W := by
        intro W hW
        subst hW
        exact ⟨Arr.new _ _ [_, _, _], (Below.refl _ _).alloc (Nat.le_refl _) _⟩
      go_upto_region 7 with fail
      generalize wr.alloc (.cells #[.int .i64 ta, .int .i64 tz, .int .i64 tc] 65) = w6 at hWo ⊢
      obtain ⟨qt, hb6⟩ := hWo w6 rfl
      obtain ⟨B10, hB10⟩ : ∃ B, B = wr.heap.size := ⟨_, rfl⟩
      rw [← hB10] at qt ⊢
      have HF := Lib.hid (show Arr w6 w.heap.size 27 [.bool false, .slice (some ⟨b, o', none⟩) l.length c] ∧ Arr w6 (w.heap.size + 1) 38 [.bool false, .slice Aa na ca0] ∧ Arr w6 (w.heap.size + 2) 38 [.bool false, .slice Az nz cz0] ∧ Arr w6 (w.heap.size + 3) 38 [.bool false, .slice none 0 0] ∧ Below w.heap.size w w6 ∧ w.heap.size + 4 ≤ w6.heap.size from
        ⟨HR.out.1.below hb6 HR.out.1.lt, HR.out.2.1.below hb6 HR.out.2.1.lt, HR.out.2.2.1.below hb6 HR.out.2.2.1.lt, HR.out.2.2.2.1.below hb6 HR.out.2.2.2.1.lt, HR.out.2.2.2.2.1.trans (hb6.mono HR.out.2.2.2.2.1.size), Nat.le_trans HR.out.2.2.2.2.2 hb6.size⟩)
      have hmx : ∀ ty (W : World), (Builtin.max_ #[3, 3] ty #[.int .i64 0, .int .i64 (-tz)]).run Tryz.prog W = .ok (.int .i64 0) W := fun ty W => by
        rw [run_max_int2, if_neg (by omega)]
      have hmx0 : tz = 0 → ∀ ty (W : World), (Builtin.max_ #[3, 3] ty #[.int .i64 0, .int .i64 0]).run Tryz.prog W = .ok (.int .i64 0) W := fun _ ty W => by
        rw [run_max_int2, if_neg (by omega)]
      clear hc0 hc1 hc2 HR hWo hB10
      by_cases hneg : ta < 0
      · have y0 := qt.cell 0
        have x0 := HF.out.2.1.cell 0
        have x1 := HF.out.2.1.cell 1
        have U := Lib.hid (HUN.out w6 HF.out.2.2.2.2.1)
        go_wp2_with fail
        refine U.out.mono ?_
        rintro e w7 ⟨rfl, hb7⟩
        have qt7 := qt.below hb7 qt.lt
        have y1 := qt7.cell 1
        have HF7 := Lib.hid (show Arr w7 w.heap.size 27 [.bool false, .slice (some ⟨b, o', none⟩) l.length c] ∧ Arr w7 (w.heap.size + 1) 38 [.bool false, .slice Aa na ca0] ∧ Arr w7 (w.heap.size + 2) 38 [.bool false, .slice Az nz cz0] ∧ Arr w7 (w.heap.size + 3) 38 [.bool false, .slice none 0 0] ∧ Below w.heap.size w w7 ∧ w.heap.size + 4 ≤ w7.heap.size from
          ⟨HF.out.1.below hb7 HF.out.1.lt, HF.out.2.1.below hb7 HF.out.2.1.lt, HF.out.2.2.1.below hb7 HF.out.2.2.1.lt, HF.out.2.2.2.1.below hb7 HF.out.2.2.2.1.lt, HF.out.2.2.2.2.1.trans (hb7.mono HF.out.2.2.2.2.1.size), Nat.le_trans HF.out.2.2.2.2.2 hb7.size⟩)
        clear y0 x0 x1 U qt qt7 hb7
        go_wp2_with fail
        go_roundg (l.length - (i + 1))
        case measure => omega
        case rel => exact ⟨i + 1, by omega, rfl, by go_num, rfl, HF7⟩
      · have z3 : decide (ta < 0) = false := decide_eq_false hneg
        have y0 := qt.cell 0
        have y1 := qt.cell 1
        go_wp2_with fail
        go_roundg (l.length - (i + 1))
        case measure => omega
        case rel => exact ⟨i + 1, by omega, rfl, by go_num, rfl, HF⟩
    · have z1 : ¬ (i : Int) < (l.length : Int) := by omega
      go_upto_region 11 with fail
      have QA := Lib.hid HR.out.2.1
      have QZ := Lib.hid HR.out.2.2.1
      have HB3 := Lib.hid HR.out.2.2.2.2.1
      have HZ3 := Lib.hid HR.out.2.2.2.2.2
      refine wp_region_phy (fun a b => Below a.heap.size a b) (fun h k => h.trans (k.mono h.size)) ((Below.refl _ _).drew) (by kernel_rfl) (by kernel_rfl) (by kernel_rfl) (by kernel_rfl) (phiT (fun i => ([some (.agg #[.bool false, .slice Aa na ca0]), none, some (.agg #[.bool false, .slice Az nz cz0]), none, none, none] : List (Option Value)).getD i none) (fun i v w => (if i = 1 then (fun v w => PsiA v w) v w else (if i = 3 then (fun v w => PsiZ v w) v w else (if i = 4 then (fun v w => PsiA v w) v w else (if i = 5 then (fun v w => PsiZ v w) v w else True)))))) (fun i v w w' h hb => ?_) ⟨?_, ?_, ?_, ?_, ?_, ?_, trivial⟩ ?_
      · unfold phiT at h ⊢
        split
        · next u hu => rw [hu] at h; exact h
        · next hu =>
          rw [hu] at h
          simp only at h ⊢
          by_cases q1 : i = 1
          · rw [if_pos q1] at h ⊢; exact HKA.out _ _ _ h hb
          · rw [if_neg q1] at h ⊢
            by_cases q3 : i = 3
            · rw [if_pos q3] at h ⊢; exact HKZ.out _ _ _ h hb
            · rw [if_neg q3] at h ⊢
              by_cases q4 : i = 4
              · rw [if_pos q4] at h ⊢; exact HKA.out _ _ _ h hb
              · rw [if_neg q4] at h ⊢
                by_cases q5 : i = 5
                · rw [if_pos q5] at h ⊢; exact HKZ.out _ _ _ h hb
                · rw [if_neg q5] at h ⊢
                  trivial
      · intro x w1 bA hT hdep hold hb
        refine .inl ⟨trivial, ?_⟩
        have e4 : bA.tmps[4]?.getD undef = .pointer (some ⟨w.heap.size + 1, 0, none⟩) := hb 4
        have cc0 := (QA.out.below hT QA.out.lt).cell 0
        have cc1 := (QA.out.below hT QA.out.lt).cell 1
        refine phx_run (.agg #[.bool false, .slice Aa na ca0]) ?_ (Below.refl _ _) rfl
        clear hb hdep hold
        go_simp
      · intro x w1 bA hT hdep hold hb
        refine .inl ⟨trivial, ?_⟩
        have e52 : bA.tmps[52]?.getD undef = .agg #[.bool false, .slice Aa na ca0] := (hb 52).trans (hdep 0 (by decide))
        refine phx_call ?_ ((HPA.out w1 (HB3.out.trans (hT.mono HB3.out.size)) (Nat.le_trans HZ3.out hT.size)).mono fun e w' h => h)
        clear hb hdep hold
        go_simp
      · intro x w1 bA hT hdep hold hb
        refine .inl ⟨trivial, ?_⟩
        have e5 : bA.tmps[5]?.getD undef = .pointer (some ⟨w.heap.size + 2, 0, none⟩) := hb 5
        have cc0 := (QZ.out.below hT QZ.out.lt).cell 0
        have cc1 := (QZ.out.below hT QZ.out.lt).cell 1
        refine phx_run (.agg #[.bool false, .slice Az nz cz0]) ?_ (Below.refl _ _) rfl
        clear hb hdep hold
        go_simp
      · intro x w1 bA hT hdep hold hb
        refine .inl ⟨trivial, ?_⟩
        have e54 : bA.tmps[54]?.getD undef = .agg #[.bool false, .slice Az nz cz0] := (hb 54).trans (hdep 2 (by decide))
        refine phx_call ?_ ((HPZ.out w1 (HB3.out.trans (hT.mono HB3.out.size)) (Nat.le_trans HZ3.out hT.size)).mono fun e w' h => h)
        clear hb hdep hold
        go_simp
      · intro x w1 bA hT hdep hold hb
        refine .inl ⟨trivial, ?_⟩
        have p53 := hdep 1 (by decide)
        have e53 : bA.tmps[53]?.getD undef = x 1 := hb 53
        generalize x 1 = x53 at *
        have P53 := Lib.hid (show (fun v w => PsiA v w) x53 w1 from p53)
        clear p53
        refine phx_run (x53) ?_ (Below.refl _ _) (P53.out)
        clear hb hdep hold
        go_simp
      · intro x w1 bA hT hdep hold hb
        refine .inl ⟨trivial, ?_⟩
        have p55 := hdep 3 (by decide)
        have e55 : bA.tmps[55]?.getD undef = x 3 := hb 55
        generalize x 3 = x55 at *
        have P55 := Lib.hid (show (fun v w => PsiZ v w) x55 w1 from p55)
        clear p55
        refine phx_run (x55) ?_ (Below.refl _ _) (P55.out)
        clear hb hdep hold
        go_simp
      intro x w1 hT hall
      have x0e : x 0 = .agg #[.bool false, .slice Aa na ca0] := hall 0 (by decide)
      have p53 := hall 1 (by decide)
      have x2e : x 2 = .agg #[.bool false, .slice Az nz cz0] := hall 2 (by decide)
      have p55 := hall 3 (by decide)
      have p11 := hall 4 (by decide)
      have p12 := hall 5 (by decide)
      simp only [putAll, dstOf, Act.put, List.map_cons, List.map_nil, List.setIfInBounds_toArray, List.set_cons_succ, List.set_cons_zero, Nat.reduceAdd, x0e, x2e]
      clear x0e x2e hall
      clear p53 p55
      obtain ⟨KA, KZ, cA, cZ1, S, hJJ, hS0⟩ := HJ.out (x 4) (x 5) w1 p11 p12
      rw [hJJ.eA, hJJ.eZ]
      have HJJ := Lib.hid hJJ
      have QP := Lib.hid (HR.out.1.below hT HR.out.1.lt)
      have QR := Lib.hid (HR.out.2.2.2.1.below hT HR.out.2.2.2.1.lt)
      have HB1 := Lib.hid (HB3.out.trans (hT.mono HB3.out.size))
      have HZ1 := Lib.hid (Nat.le_trans HZ3.out hT.size)
      have HS0 := Lib.hid hS0
      clear p11 p12 hJJ hS0 hT QA QZ HB3 HZ3 HR HJ HPA HPZ HKA HKZ HBA HBZ HUN
      obtain ⟨B13, hB13⟩ : ∃ B, B = w1.heap.size := ⟨_, rfl⟩
      have hW : ∀ W, W = w1.alloc (.cells #[.bool false, .slice none 0 0] 38) → Arr W w.heap.size 27 [.bool false, .slice A l.length c] ∧ Arr W (w.heap.size + 3) 38 [.bool false, .slice none 0 0] ∧ Arr W B13 38 [.bool false, .slice none 0 0] ∧ S [w.heap.size + 3, B13] W ∧ Below w.heap.size w W ∧ B13 < W.heap.size := by
        intro W hW
        subst hW
        rw [hB13]
        refine ⟨QP.out.alloc _, QR.out.alloc _, Arr.new _ _ [_, _], HJJ.out.s1 _ _ _ _ HS0.out ((Below.refl _ _).alloc (Nat.le_refl _) _) fun k hk => ?_, HB1.out.alloc HB1.out.size _, by simp⟩
        simp only [List.mem_cons, List.not_mem_nil, or_false] at hk ⊢
        rcases hk with rfl | rfl
        · exact .inl rfl
        · exact .inr ⟨Nat.le_refl _, by simp⟩
      have HG13 := Lib.hid (show w.heap.size + 4 ≤ B13 from by rw [hB13]; exact HZ1.out)
      go_upto_region 13 with fail
      rw [← hB13]
      generalize w1.alloc (.cells #[.bool false, .slice none 0 0] 38) = w2 at hW ⊢
      obtain ⟨qp, qr, qt, hs2, hb2, hl2⟩ := hW w2 rfl
      have y1 := qp.cell 1
      have HST := Lib.hid (show ∃ (At : Option Addr) (nt ct : Nat), Arr w2 w.heap.size 27 [.bool false, .slice A l.length c] ∧ Arr w2 (w.heap.size + 3) 38 [.bool false, .slice none 0 0] ∧ Arr w2 B13 38 [.bool false, .slice At nt ct] ∧ QL w2 (.agg #[.bool false, .slice At nt ct]) (setL LA LZ (l.take 0)) ∧ S [w.heap.size + 3, B13] w2 ∧ Below w.heap.size w w2 from ⟨none, 0, 0, qp, qr, qt, QL.zero _, hs2, hb2⟩)
      clear hW qp qr qt hs2 hb2 hl2 QP QR HB1 HZ1 HS0 hB13
      go_wp2_with fail
      clear y1
      go_loopg [59] l.length (fun gk s59 wr => ∃ (i : Nat), i ≤ l.length ∧ gk = l.length - i ∧ s59 = .int .i64 (i : Int) ∧ Hid (∃ (At : Option Addr) (nt ct : Nat), Arr wr w.heap.size 27 [.bool false, .slice A l.length c] ∧ Arr wr (w.heap.size + 3) 38 [.bool false, .slice none 0 0] ∧ Arr wr B13 38 [.bool false, .slice At nt ct] ∧ QL wr (.agg #[.bool false, .slice At nt ct]) (setL LA LZ (l.take i)) ∧ S [w.heap.size + 3, B13] wr ∧ Below w.heap.size w wr))
      case atStart => exact ⟨0, Nat.zero_le _, rfl, rfl, HST⟩
      case round =>
        clear HST
        obtain ⟨i, hi, rfl, rfl, HR⟩ := hrel
        obtain ⟨At, nt, ct, rp, rr, rt, rq, rs, rb⟩ := HR.out
        clear HR
        by_cases hlt : i < l.length
        · have z1 : (i : Int) < (l.length : Int) := by omega
          obtain ⟨b, o', rfl, _, hc0, hc1, hc2⟩ := (HP.out wr rb).tm_some.at_ hlt
          have HNX := Lib.hid (setL_take (LA := LA) (LZ := LZ) hlt)
          have HSL := Lib.hid (Nat.le_trans (setL_le LA LZ l (i + 1)) HSU.out)
          have hm := List.getElem_mem hlt
          have hcc := HLP.out.1.co _ hm
          have hc0n := HKP.out.nz _ hm
          have hez := HLP.out.1.ez _ hm
          have HOA := Lib.hid (HOK.out.1 _ hm)
          have HOZ := Lib.hid (HOK.out.2 _ hm)
          have HEA := Lib.hid (HEE.out.1 _ hm)
          have HEZ := Lib.hid (HEE.out.2 _ hm)
          have ha1 := HA1.out.1 _ hm
          have hz1 := HA1.out.2 _ hm
          have HST1 := Lib.hid (show setT LA LZ l[i] = prs (prs [(0, l[i].2)] (LA l[i].1.1)) (LZ l[i].1.2) from rfl)
          clear hm
          generalize setT LA LZ l[i] = stt at *
          generalize l[i].1.1 = ta at *
          generalize l[i].1.2 = tz at *
          generalize l[i].2 = tc at *
          have hst := HST1.out
          subst hst
          clear HST1
          rw [HNX.out] at HSL
          have hsl := HSL.out
          rw [asum1_append] at hsl
          have HAD := Lib.hid hsl
          have HM2 := Lib.hid (show asum1 (prs [(0, tc)] (LA ta)) * asum1 (LZ tz) ≤ 1125899906842624 from by rw [← asum1_prs]; omega)
          have HM1 := Lib.hid (show asum1 [((0 : Int), tc)] * asum1 (LA ta) ≤ 1125899906842624 from by
            have e1 : asum1 [((0 : Int), tc)] = tc.natAbs := by unfold asum1; unfold asum1; rfl
            rw [e1]
            have : tc.natAbs * asum1 (LA ta) ≤ tc.natAbs * 1 := Nat.mul_le_mul_left _ ha1
            omega)
          have HE0 := Lib.hid (show Eb1 0 [((0 : Int), tc)] from fun t ht => by rw [List.mem_singleton.1 ht]; simp)
          have HT66 := Lib.hid (fun W => TermQ tc 0 W hcc.1 hcc.2 hc0n (by decide) (by decide))
          have HWZ := Lib.hid (show IntKind.i64.wrap (tz + 0) = tz ∧ IntKind.i64.wrap tz = tz from ⟨by rw [Int.add_zero]; exact IntWalk.i64_in _ (by omega), IntWalk.i64_in _ (by omega)⟩)
          obtain ⟨TL, hTL⟩ : ∃ TL, TL = setL LA LZ (l.take i) := ⟨_, rfl⟩
          rw [← hTL] at rq HAD HNX
          clear hsl ha1 hz1 HSL hTL hc0n
          obtain ⟨B15, hB15⟩ : ∃ B, B = wr.heap.size := ⟨_, rfl⟩
          have hWo : ∀ W, W = wr.alloc (.cells #[.int .i64 ta, .int .i64 tz, .int .i64 tc] 65) → Arr W B15 65 [.int .i64 ta, .int .i64 tz, .int .i64 tc] ∧ Below wr.heap.size wr W ∧ S [w.heap.size + 3, B13, B15] W := by
            intro W hW
            subst hW
            rw [hB15]
            refine ⟨Arr.new _ _ [_, _, _], (Below.refl _ _).alloc (Nat.le_refl _) _, HJJ.out.s1 _ _ _ _ rs ((Below.refl _ _).alloc (Nat.le_refl _) _) fun k hk => ?_⟩
            simp only [List.mem_cons, List.not_mem_nil, or_false] at hk ⊢
            rcases hk with rfl | rfl | rfl
            · exact .inl (.inl rfl)
            · exact .inl (.inr rfl)
            · exact .inr ⟨Nat.le_refl _, by simp⟩
          go_upto_region 16 with fail
          rw [← hB15]
          generalize wr.alloc (.cells #[.int .i64 ta, .int .i64 tz, .int .i64 tc] 65) = w5 at hWo ⊢
          obtain ⟨q15, hb5, hs5⟩ := hWo w5 rfl
          obtain ⟨TT, hTT⟩ : ∃ TT, TT = KT w.heap.size [w.heap.size + 3, B13, B15] (S [w.heap.size + 3, B13, B15]) := ⟨_, rfl⟩
          have hz5 : w.heap.size ≤ w5.heap.size := Nat.le_trans rb.size hb5.size
          have hSB : ∀ a b, S [w.heap.size + 3, B13, B15] a → Below a.heap.size a b → S [w.heap.size + 3, B13, B15] b := fun a b h hb => HJJ.out.s1 _ _ _ _ h hb fun k hk => .inl hk
          have HTB := Lib.hid (show ∀ a b, TT w5 a → Below a.heap.size a b → TT a b from fun a b h hb => by
            subst hTT
            exact KT.of_below hSB hb (Nat.le_trans hz5 h.bel.size))
          have HT0 := Lib.hid (show TT w5 w5.drew from by
            subst hTT
            exact KT.of_below hSB (Below.refl _ _).drew hz5)
          have HTR := Lib.hid (show ∀ a b c, TT a b → TT b c → TT a c from fun a b c h k => by subst hTT; exact h.trans k)
          have HTQ := Lib.hid (show ∀ v L a b, QL a v L → TT a b → QL b v L from fun v L a b h k => by subst hTT; exact KT.ql h k)
          have HTS := Lib.hid (show ∀ W, TT w5 W → S [w.heap.size + 3, B13, B15] W ∧ w.heap.size ≤ W.heap.size from fun W h => by subst hTT; exact ⟨h.st hs5, Nat.le_trans hz5 h.bel.size⟩)
          have qt5 := rt.below hb5 rt.lt
          have HTG := Lib.hid (show ∀ W, TT w5 W → Arr W B13 38 [.bool false, .slice At nt ct] ∧ Arr W B15 65 [.int .i64 ta, .int .i64 tz, .int .i64 tc] from fun W h => by
            subst hTT
            exact ⟨KT.arr qt5 h (by simp), KT.arr q15 h (by simp)⟩)
          have HTV := Lib.hid (rq.below hb5)
          have HCA := Lib.hid (show (∀ args W, (callFunc KA args).run Tryz.prog W = .ok (.enter KA args) W) ∧ ∀ (n : Int) W, okA n → (S [w.heap.size + 3, B13, B15] W ∧ w.heap.size ≤ W.heap.size) → Calls Tryz.prog KA #[.int .i64 n, cA] W fun e w' => ∃ v, e = .returned v ∧ QL w' v (LA n) ∧ TT W w' from ⟨HJJ.out.nA, fun n W h1 h2 => by subst hTT; exact HJJ.out.cA' _ n W h1 h2.1 h2.2⟩)
          have HCZ := Lib.hid (show (∀ args W, (callFunc KZ args).run Tryz.prog W = .ok (.enter KZ args) W) ∧ ∀ (n : Int) W, okZ n → (S [w.heap.size + 3, B13, B15] W ∧ w.heap.size ≤ W.heap.size) → Calls Tryz.prog KZ #[.int .i64 n, cZ1] W fun e w' => ∃ v, e = .returned v ∧ QL w' v (LZ n) ∧ TT W w' from ⟨HJJ.out.nZ, fun n W h1 h2 => by subst hTT; exact HJJ.out.cZ' _ n W h1 h2.1 h2.2⟩)
          have RP := Lib.hid (rp.below hb5 rp.lt)
          have RR := Lib.hid (rr.below hb5 rr.lt)
          have RB := Lib.hid (rb.trans (hb5.mono rb.size))
          have RZ := Lib.hid (rp.lt)
          have HTT := Lib.hid hTT
          have H15 := Lib.hid hB15
          have HLW := Lib.hid (And.intro rt.lt (And.intro rp.lt rr.lt))
          have HSB := Lib.hid hSB
          clear hc0 hc1 hc2 rp rr rt rq rs rb hWo q15 hb5 hs5 hSB qt5 hTT hB15 hz5 hcc hez
          refine wp_region_phx (TT) (fun h k => HTR.out _ _ _ h k) (HT0.out) 17 (by kernel_rfl) (by kernel_rfl) (by kernel_rfl) (by kernel_rfl) rfl (by kernel_rfl) (phiT (fun i => ([some (.agg #[.bool false, .slice At nt ct]), some (.pointer (some ⟨B15, 2, none⟩)), some (.int .i64 tc), none, some (.func (.func KA) #[] #[cA]), some (.pointer (some ⟨B15, 0, none⟩)), some (.int .i64 ta), none, none, some (.func (.func KZ) #[] #[cZ1]), some (.pointer (some ⟨B15, 1, none⟩)), some (.int .i64 tz), some (.int .i64 0), some (.int .i64 tz), none, none, none, some (undef)] : List (Option Value)).getD i none) (fun i v w => (if i = 3 then (fun v w => QL w v [(0, tc)]) v w else (if i = 7 then (fun v w => QL w v (LA ta)) v w else (if i = 8 then (fun v w => QL w v (prs [(0, tc)] (LA ta))) v w else (if i = 14 then (fun v w => QL w v (LZ tz)) v w else (if i = 15 then (fun v w => QL w v (prs (prs [(0, tc)] (LA ta)) (LZ tz))) v w else (if i = 16 then (fun v w => QL w v (TL ++ prs (prs [(0, tc)] (LA ta)) (LZ tz))) v w else True)))))))) (fun i v w w' h hb => ?_) (fun _ W => ∃ (A : Option Addr) (n c : Nat), Arr W B13 38 [.bool false, .slice A n c] ∧ QL W (.agg #[.bool false, .slice A n c]) (TL ++ prs (prs [(0, tc)] (LA ta)) (LZ tz)) ∧ ∃ W1, TT w5 W1 ∧ ∃ u1 u2, W = (W1.setCell ⟨B13, 0, none⟩ u1).setCell ⟨B13, 1, none⟩ u2) ⟨?_, ?_, ?_, ?_, ?_, ?_, ?_, ?_, ?_, ?_, ?_, ?_, ?_, ?_, ?_, ?_, ?_, ?_, trivial⟩ ?_
          · unfold phiT at h ⊢
            split
            · next u hu => rw [hu] at h; exact h
            · next hu =>
              rw [hu] at h
              simp only at h ⊢
              by_cases q3 : i = 3
              · rw [if_pos q3] at h ⊢; exact HTQ.out _ _ _ _ h hb
              · rw [if_neg q3] at h ⊢
                by_cases q7 : i = 7
                · rw [if_pos q7] at h ⊢; exact HTQ.out _ _ _ _ h hb
                · rw [if_neg q7] at h ⊢
                  by_cases q8 : i = 8
                  · rw [if_pos q8] at h ⊢; exact HTQ.out _ _ _ _ h hb
                  · rw [if_neg q8] at h ⊢
                    by_cases q14 : i = 14
                    · rw [if_pos q14] at h ⊢; exact HTQ.out _ _ _ _ h hb
                    · rw [if_neg q14] at h ⊢
                      by_cases q15 : i = 15
                      · rw [if_pos q15] at h ⊢; exact HTQ.out _ _ _ _ h hb
                      · rw [if_neg q15] at h ⊢
                        by_cases q16 : i = 16
                        · rw [if_pos q16] at h ⊢; exact HTQ.out _ _ _ _ h hb
                        · rw [if_neg q16] at h ⊢
                          trivial
          · intro x w1 bA hT hdep hold hb
            refine ⟨fun _ => ?_, fun h => absurd h (by decide)⟩
            refine .inl ⟨trivial, ?_⟩
            have e13 : bA.tmps[13]?.getD undef = .pointer (some ⟨B13, 0, none⟩) := hb 13
            have cc0 := (HTG.out _ hT).1.cell 0
            have cc1 := (HTG.out _ hT).1.cell 1
            refine phx_run (.agg #[.bool false, .slice At nt ct]) ?_ (HTB.out _ _ hT (Below.refl _ _)) rfl
            clear hb hdep hold
            go_simp
          · intro x w1 bA hT hdep hold hb
            refine ⟨fun _ => ?_, fun h => absurd h (by decide)⟩
            refine .inl ⟨trivial, ?_⟩
            have e15 : bA.tmps[15]?.getD undef = .pointer (some ⟨B15, 0, none⟩) := hb 15
            refine phx_run (.pointer (some ⟨B15, 2, none⟩)) ?_ (HTB.out _ _ hT (Below.refl _ _)) rfl
            clear hb hdep hold
            go_simp
          · intro x w1 bA hT hdep hold hb
            refine ⟨fun _ => ?_, fun h => absurd h (by decide)⟩
            refine .inl ⟨trivial, ?_⟩
            have e64 : bA.tmps[64]?.getD undef = .pointer (some ⟨B15, 2, none⟩) := (hb 64).trans (hdep 1 (by decide))
            have ct := (HTG.out _ hT).2.cell 2
            refine phx_run (.int .i64 tc) ?_ (HTB.out _ _ hT (Below.refl _ _)) rfl
            clear hb hdep hold
            go_simp
          · intro x w1 bA hT hdep hold hb
            refine ⟨fun _ => ?_, fun h => absurd h (by decide)⟩
            refine .inl ⟨trivial, ?_⟩
            have e65 : bA.tmps[65]?.getD undef = .int .i64 tc := (hb 65).trans (hdep 2 (by decide))
            refine phx_call ?_ ((HT66.out w1).mono fun e w' h => (by obtain ⟨v, he, hb', hv⟩ := h; exact ⟨v, he, HTB.out _ _ hT hb', hv⟩))
            clear hb hdep hold
            go_simp
          · intro x w1 bA hT hdep hold hb
            refine ⟨fun _ => ?_, fun h => absurd h (by decide)⟩
            refine .inl ⟨trivial, ?_⟩
            have e11 : bA.tmps[11]?.getD undef = .func (.func KA) #[] #[cA] := hb 11
            refine phx_run (.func (.func KA) #[] #[cA]) ?_ (HTB.out _ _ hT (Below.refl _ _)) rfl
            clear hb hdep hold
            go_simp
          · intro x w1 bA hT hdep hold hb
            refine ⟨fun _ => ?_, fun h => absurd h (by decide)⟩
            refine .inl ⟨trivial, ?_⟩
            have e15 : bA.tmps[15]?.getD undef = .pointer (some ⟨B15, 0, none⟩) := hb 15
            refine phx_run (.pointer (some ⟨B15, 0, none⟩)) ?_ (HTB.out _ _ hT (Below.refl _ _)) rfl
            clear hb hdep hold
            go_simp
          · intro x w1 bA hT hdep hold hb
            refine ⟨fun _ => ?_, fun h => absurd h (by decide)⟩
            refine .inl ⟨trivial, ?_⟩
            have e68 : bA.tmps[68]?.getD undef = .pointer (some ⟨B15, 0, none⟩) := (hb 68).trans (hdep 5 (by decide))
            have ct := (HTG.out _ hT).2.cell 0
            refine phx_run (.int .i64 ta) ?_ (HTB.out _ _ hT (Below.refl _ _)) rfl
            clear hb hdep hold
            go_simp
          · intro x w1 bA hT hdep hold hb
            refine ⟨fun _ => ?_, fun h => absurd h (by decide)⟩
            refine .inl ⟨trivial, ?_⟩
            have e67 : bA.tmps[67]?.getD undef = .func (.func KA) #[] #[cA] := (hb 67).trans (hdep 4 (by decide))
            have e69 : bA.tmps[69]?.getD undef = .int .i64 ta := (hb 69).trans (hdep 6 (by decide))
            have eg := HCA.out.1
            have hS1 := HTS.out _ hT
            refine phx_call ?_ ((HCA.out.2 ta w1 HOA.out (HTS.out _ hT)).mono fun e w' h => (by obtain ⟨v, he, hv, ht⟩ := h; exact ⟨v, he, ht, hv⟩))
            clear hb hdep hold
            go_simp
          · intro x w1 bA hT hdep hold hb
            refine ⟨fun _ => ?_, fun h => absurd h (by decide)⟩
            refine .inl ⟨trivial, ?_⟩
            have p66 := hdep 3 (by decide)
            have e66 : bA.tmps[66]?.getD undef = x 3 := hb 66
            generalize x 3 = x66 at *
            have P66 := Lib.hid (show (fun v w => QL w v [(0, tc)]) x66 w1 from p66)
            clear p66
            have p70 := hdep 7 (by decide)
            have e70 : bA.tmps[70]?.getD undef = x 7 := hb 70
            generalize x 7 = x70 at *
            have P70 := Lib.hid (show (fun v w => QL w v (LA ta)) x70 w1 from p70)
            clear p70
            refine phx_call ?_ ((MulQ x66 x70 [(0, tc)] (LA ta) w1 P66.out P70.out HM1.out (N := 0) (M := 400000) HE0.out HEA.out (by omega)).mono fun e w' h => (by obtain ⟨v, he, hb', hv⟩ := h; exact ⟨v, he, HTB.out _ _ hT hb', hv⟩))
            clear hb hdep hold
            go_simp
          · intro x w1 bA hT hdep hold hb
            refine ⟨fun _ => ?_, fun h => absurd h (by decide)⟩
            refine .inl ⟨trivial, ?_⟩
            have e12 : bA.tmps[12]?.getD undef = .func (.func KZ) #[] #[cZ1] := hb 12
            refine phx_run (.func (.func KZ) #[] #[cZ1]) ?_ (HTB.out _ _ hT (Below.refl _ _)) rfl
            clear hb hdep hold
            go_simp
          · intro x w1 bA hT hdep hold hb
            refine ⟨fun _ => ?_, fun h => absurd h (by decide)⟩
            refine .inl ⟨trivial, ?_⟩
            have e15 : bA.tmps[15]?.getD undef = .pointer (some ⟨B15, 0, none⟩) := hb 15
            refine phx_run (.pointer (some ⟨B15, 1, none⟩)) ?_ (HTB.out _ _ hT (Below.refl _ _)) rfl
            clear hb hdep hold
            go_simp
          · intro x w1 bA hT hdep hold hb
            refine ⟨fun _ => ?_, fun h => absurd h (by decide)⟩
            refine .inl ⟨trivial, ?_⟩
            have e73 : bA.tmps[73]?.getD undef = .pointer (some ⟨B15, 1, none⟩) := (hb 73).trans (hdep 10 (by decide))
            have ct := (HTG.out _ hT).2.cell 1
            refine phx_run (.int .i64 tz) ?_ (HTB.out _ _ hT (Below.refl _ _)) rfl
            clear hb hdep hold
            go_simp
          · intro x w1 bA hT hdep hold hb
            refine ⟨fun _ => ?_, fun h => absurd h (by decide)⟩
            refine .inl ⟨trivial, ?_⟩
            have e8 : bA.tmps[8]?.getD undef = .int .i64 0 := hb 8
            refine phx_run (.int .i64 0) ?_ (HTB.out _ _ hT (Below.refl _ _)) rfl
            clear hb hdep hold
            go_simp
          · intro x w1 bA hT hdep hold hb
            refine ⟨fun _ => ?_, fun h => absurd h (by decide)⟩
            refine .inl ⟨trivial, ?_⟩
            have e74 : bA.tmps[74]?.getD undef = .int .i64 tz := (hb 74).trans (hdep 11 (by decide))
            have e75 : bA.tmps[75]?.getD undef = .int .i64 0 := (hb 75).trans (hdep 12 (by decide))
            have zw := HWZ.out
            have zz := Int.add_zero tz
            refine phx_run (.int .i64 tz) ?_ (HTB.out _ _ hT (Below.refl _ _)) rfl
            clear hb hdep hold
            go_simp
          · intro x w1 bA hT hdep hold hb
            refine ⟨fun _ => ?_, fun h => absurd h (by decide)⟩
            refine .inl ⟨trivial, ?_⟩
            have e72 : bA.tmps[72]?.getD undef = .func (.func KZ) #[] #[cZ1] := (hb 72).trans (hdep 9 (by decide))
            have e76 : bA.tmps[76]?.getD undef = .int .i64 tz := (hb 76).trans (hdep 13 (by decide))
            have eg := HCZ.out.1
            refine phx_call ?_ ((HCZ.out.2 tz w1 HOZ.out (HTS.out _ hT)).mono fun e w' h => (by obtain ⟨v, he, hv, ht⟩ := h; exact ⟨v, he, ht, hv⟩))
            clear hb hdep hold
            go_simp
          · intro x w1 bA hT hdep hold hb
            refine ⟨fun _ => ?_, fun h => absurd h (by decide)⟩
            refine .inl ⟨trivial, ?_⟩
            have p71 := hdep 8 (by decide)
            have e71 : bA.tmps[71]?.getD undef = x 8 := hb 71
            generalize x 8 = x71 at *
            have P71 := Lib.hid (show (fun v w => QL w v (prs [(0, tc)] (LA ta))) x71 w1 from p71)
            clear p71
            have p77 := hdep 14 (by decide)
            have e77 : bA.tmps[77]?.getD undef = x 14 := hb 77
            generalize x 14 = x77 at *
            have P77 := Lib.hid (show (fun v w => QL w v (LZ tz)) x77 w1 from p77)
            clear p77
            refine phx_call ?_ ((MulQ x71 x77 (prs [(0, tc)] (LA ta)) (LZ tz) w1 P71.out P77.out HM2.out (N := 0 + 400000) (M := 400000) (HE0.out.mul HEA.out) HEZ.out (by omega)).mono fun e w' h => (by obtain ⟨v, he, hb', hv⟩ := h; exact ⟨v, he, HTB.out _ _ hT hb', hv⟩))
            clear hb hdep hold
            go_simp
          · intro x w1 bA hT hdep hold hb
            refine ⟨fun _ => ?_, fun h => absurd h (by decide)⟩
            refine .inl ⟨trivial, ?_⟩
            have e63 : bA.tmps[63]?.getD undef = .agg #[.bool false, .slice At nt ct] := (hb 63).trans (hdep 0 (by decide))
            have p78 := hdep 15 (by decide)
            have e78 : bA.tmps[78]?.getD undef = x 15 := hb 78
            generalize x 15 = x78 at *
            have P78 := Lib.hid (show (fun v w => QL w v (prs (prs [(0, tc)] (LA ta)) (LZ tz))) x78 w1 from p78)
            clear p78
            refine phx_call ?_ ((AddQ (.agg #[.bool false, .slice At nt ct]) x78 TL (prs (prs [(0, tc)] (LA ta)) (LZ tz)) w1 (HTQ.out _ _ _ _ HTV.out hT) P78.out HAD.out).mono fun e w' h => (by obtain ⟨v, he, hb', hv⟩ := h; exact ⟨v, he, HTB.out _ _ hT hb', hv⟩))
            clear hb hdep hold
            go_simp
          · intro x w1 bA hT hdep hold hb
            refine ⟨fun h => absurd h (by decide), fun _ hall => ?_⟩
            refine ⟨trivial, ?_⟩
            have e13 : bA.tmps[13]?.getD undef = .pointer (some ⟨B13, 0, none⟩) := hb 13
            have e79 : bA.tmps[79]?.getD undef = x 16 := hb 79
            have p66 := Lib.hid (show (fun v w => QL w v [(0, tc)]) (x 3) w1 from hall 3 (by decide))
            have p70 := Lib.hid (show (fun v w => QL w v (LA ta)) (x 7) w1 from hall 7 (by decide))
            have p71 := Lib.hid (show (fun v w => QL w v (prs [(0, tc)] (LA ta))) (x 8) w1 from hall 8 (by decide))
            have p77 := Lib.hid (show (fun v w => QL w v (LZ tz)) (x 14) w1 from hall 14 (by decide))
            have p78 := Lib.hid (show (fun v w => QL w v (prs (prs [(0, tc)] (LA ta)) (LZ tz))) (x 15) w1 from hall 15 (by decide))
            have p79 := Lib.hid (show (fun v w => QL w v (TL ++ prs (prs [(0, tc)] (LA ta)) (LZ tz))) (x 16) w1 from hall 16 (by decide))
            clear hb hdep hold
            obtain ⟨Az2, nz2, cz2, e79b⟩ := p79.out.form
            rw [e79b] at e79
            have HPV := Lib.hid (e79b ▸ p79.out)
            have q5 := (HTG.out _ hT).1
            have Q5b := Lib.hid q5
            have f0 := q5.frozen 0
            have f1 := q5.frozen 1
            have c0 := q5.cell 0
            have c1 := q5.cell 1
            have HBL := Lib.hid hT
            clear q5 e79b p66 p70 p71 p77 p78 p79 hT
            refine phx_st (R := fun W => ∃ (A : Option Addr) (n c : Nat), Arr W B13 38 [.bool false, .slice A n c] ∧ QL W (.agg #[.bool false, .slice A n c]) (TL ++ prs (prs [(0, tc)] (LA ta)) (LZ tz)) ∧ ∃ W1, TT w5 W1 ∧ ∃ u1 u2, W = (W1.setCell ⟨B13, 0, none⟩ u1).setCell ⟨B13, 1, none⟩ u2) ((w1.setCell ⟨B13, 0, none⟩ (.bool false)).setCell ⟨B13, 1, none⟩ (.slice Az2 nz2 cz2)) ?_ rfl ⟨Az2, nz2, cz2, (Q5b.out.set 0 _).set 1 _, HPV.out.box Q5b.out _ _, w1, HBL.out, _, _, rfl⟩
            go_simp
          intro x w1 hR
          simp only [putAll, dstOf, Act.put, List.map_cons, List.map_nil, List.setIfInBounds_toArray, List.set_cons_succ, List.set_cons_zero, Nat.reduceAdd]
          obtain ⟨An, nn, cn, h1, h2, W1, h3, u1, u2, h4⟩ := hR
          have HF := Lib.hid (show Arr w1 w.heap.size 27 [.bool false, .slice (some ⟨b, o', none⟩) l.length c] ∧ Arr w1 (w.heap.size + 3) 38 [.bool false, .slice none 0 0] ∧ Arr w1 B13 38 [.bool false, .slice An nn cn] ∧ QL w1 (.agg #[.bool false, .slice An nn cn]) (setL LA LZ (l.take (i + 1))) ∧ S [w.heap.size + 3, B13] w1 ∧ Below w.heap.size w w1 from by
            have g13 := (HTG.out W1 h3).1
            have s3 := (HTS.out W1 h3).1
            have hTT := HTT.out
            subst hTT
            have kh : ∀ k, k ≠ B13 → w1.heap[k]? = W1.heap[k]? := fun k hk => by
              rw [h4]
              exact (Below.heap_setCell _ ⟨B13, 1, none⟩ u2 k hk).trans (Below.heap_setCell W1 ⟨B13, 0, none⟩ u1 k hk)
            have hg := HG13.out
            have s4 : S [w.heap.size + 3, B13, B15] w1 := by
              rw [h4]
              exact HJJ.out.s2 _ _ B13 1 u2 _ (HJJ.out.s2 _ _ B13 0 u1 _ s3 (by simp) g13) (by simp) (g13.set 0 u1)
            refine ⟨(kh w.heap.size (by omega)).trans ((h3.ty _ _ _ _ RP.out (by decide) (by decide)).trans RP.out), (kh (w.heap.size + 3) (by omega)).trans (KT.arr RR.out h3 (by simp)), h1, by rw [HNX.out]; exact h2, HJJ.out.s1 _ _ _ _ s4 (Below.refl _ _) fun k hk => .inl ?_, ?_⟩
            · simp only [List.mem_cons, List.not_mem_nil, or_false] at hk ⊢
              rcases hk with rfl | rfl
              · exact .inl rfl
              · exact .inr (.inl rfl)
            · rw [h4]
              exact ((RB.out.trans h3.bel).setCell (p := ⟨B13, 0, none⟩) (by show w.heap.size ≤ B13; omega) u1).setCell (p := ⟨B13, 1, none⟩) (by show w.heap.size ≤ B13; omega) u2)
          have BG := Lib.hid (show Calls Tryz.prog 39 #[.agg #[.bool false, .slice An nn cn]] w1 fun e w' => e = .returned (.bool false) ∧ Below w1.heap.size w1 w' from by
            obtain ⟨l', e1, _⟩ := HF.out.2.2.2.1
            exact Big_any _ _ w1 e1)
          have c0 := h1.cell 0
          have c1 := h1.cell 1
          clear h1 h2 h3 h4 HTB HT0 HTR HTQ HTS HTG HTV HCA HCZ RP RR RB RZ HTT H15 HLW HSB
          go_wp2_with fail
          refine BG.out.mono ?_
          rintro e w6 ⟨rfl, hb6⟩
          have HF6 := Lib.hid (show ∃ (At : Option Addr) (nt ct : Nat), Arr w6 w.heap.size 27 [.bool false, .slice (some ⟨b, o', none⟩) l.length c] ∧ Arr w6 (w.heap.size + 3) 38 [.bool false, .slice none 0 0] ∧ Arr w6 B13 38 [.bool false, .slice At nt ct] ∧ QL w6 (.agg #[.bool false, .slice At nt ct]) (setL LA LZ (l.take (i + 1))) ∧ S [w.heap.size + 3, B13] w6 ∧ Below w.heap.size w w6 from
            ⟨An, nn, cn, HF.out.1.below hb6 HF.out.1.lt, HF.out.2.1.below hb6 HF.out.2.1.lt, HF.out.2.2.1.below hb6 HF.out.2.2.1.lt, HF.out.2.2.2.1.below hb6, HJJ.out.s1 _ _ _ _ HF.out.2.2.2.2.1 hb6 fun k hk => .inl hk, HF.out.2.2.2.2.2.trans (hb6.mono HF.out.2.2.2.2.2.size)⟩)
          clear BG c0 c1 hb6 HF
          go_wp2_with fail
          go_roundg (l.length - (i + 1))
          case measure => omega
          case rel => exact ⟨i + 1, by omega, rfl, by go_num, HF6⟩
        · have z1 : ¬ (i : Int) < (l.length : Int) := by omega
          have hkk : l.take i = l := List.take_of_length_le (by omega)
          rw [hkk] at rq
          have c0 := rt.cell 0
          have c1 := rt.cell 1
          have f0 := rr.frozen 0
          have f1 := rr.frozen 1
          have r0 := rr.cell 0
          have r1 := rr.cell 1
          have HQ := Lib.hid (rq.box rr (.bool false) (.slice At nt ct))
          have hres := Lib.hid ((rr.set 0 (.bool false)).set 1 (.slice At nt ct))
          have HBL := Lib.hid ((rb.setCell (p := ⟨w.heap.size + 3, 0, none⟩) (by simp) (.bool false)).setCell (p := ⟨w.heap.size + 3, 1, none⟩) (by simp) (.slice At nt ct))
          clear rp rr rt rq rs rb hkk
          go_wp2_with fail
          refine bodyPost_ret (v := .tuple #[.agg #[.bool false, .slice At nt ct], .int .i64 0]) (results_ct Tryz.results20 _ _ (w.heap.size + 3) 38 _ _ rfl hres.out Tryz.underlying38 rfl info_poly) rfl ?_
          exact ⟨At, nt, ct, rfl, HQ.out, HBL.out⟩
end Go.Proofs.YtbfggncmjdhapaaGreatDoor
