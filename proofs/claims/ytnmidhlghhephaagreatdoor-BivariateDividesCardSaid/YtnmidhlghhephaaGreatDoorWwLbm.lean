/- bivariate: Set at any exponents of z. -/
/- Div at the powers of t^-1 - t, of polynomials told by lists. -/
/- Set at a = t^3, z = t^-1 - t, with any exponents of z; and what the law compares. -/
/- unravellaw13.awake. -/
/- BivariateRing: the law's walk. -/
/- BivariateMaps: the law's walk. -/
import Derived.Test.YtnmidhlghhephaaGreatDoorWwBtx
import Derived.Test.YtnmidhlghhephaaGreatDoorWwMua
import Derived.Test.YtnmidhlghhephaaGreatDoorWwEnd
import Derived.Test.YtnmidhlghhephaaGreatDoorWwDvd
import Derived.Test.YtnmidhlghhephaaGreatDoorWwDvo
import Derived.Test.YtnmidhlghhephaaGreatDoorWwBfs
namespace Go.Proofs.YtnmidhlghhephaaGreatDoor
open Go.RowKit
set_option linter.unusedVariables false
/-- the greatest of 0 and the -z -/
def kmx (l : List T2) : Int := l.foldl (fun k t => max k (-t.1.2)) 0
theorem kmx_take {l : List T2} {i : Nat} (h : i < l.length) : kmx (l.take (i + 1)) = max (kmx (l.take i)) (-l[i].1.2) := by
  unfold kmx
  rw [take_snocB h, List.foldl_append]
  rfl
theorem kmx_fold : ∀ (l : List T2) (a : Int), 0 ≤ a → a ≤ 1000 → (∀ t ∈ l, -1000 ≤ t.1.2 ∧ t.1.2 ≤ 1000) → a ≤ l.foldl (fun k t => max k (-t.1.2)) a ∧ l.foldl (fun k t => max k (-t.1.2)) a ≤ 1000 ∧ ∀ t ∈ l, -t.1.2 ≤ l.foldl (fun k t => max k (-t.1.2)) a
  | [], a, _, h1, _ => ⟨Int.le_refl _, h1, fun t h => by cases h⟩
  | s :: l, a, h0, h1, h => by
    have hs := h s (List.mem_cons_self ..)
    obtain ⟨r1, r2, r3⟩ := kmx_fold l (max a (-s.1.2)) (by omega) (by omega) (fun t ht => h t (List.mem_cons_of_mem _ ht))
    refine ⟨by rw [List.foldl_cons]; omega, by rw [List.foldl_cons]; exact r2, fun t ht => ?_⟩
    rw [List.foldl_cons]
    rcases List.mem_cons.1 ht with rfl | ht
    · omega
    · exact r3 t ht
theorem kmx_bd (l : List T2) (h : ∀ t ∈ l, -1000 ≤ t.1.2 ∧ t.1.2 ≤ 1000) : 0 ≤ kmx l ∧ kmx l ≤ 1000 := by
  have := kmx_fold l 0 (by omega) (by omega) h
  exact ⟨this.1, this.2.1⟩
theorem kmx_ge (l : List T2) (h : ∀ t ∈ l, -1000 ≤ t.1.2 ∧ t.1.2 ≤ 1000) : ∀ t ∈ l, 0 ≤ t.1.2 + kmx l := fun t ht => by
  have := (kmx_fold l 0 (by omega) (by omega) h).2.2 t ht
  unfold kmx
  omega
def LKz (LZ : Int → List T1) (K : Int) (z : Int) : List T1 := LZ (z + K)
/-- a polynomial that is good, or that the division is not exact -/
def DvA (Good : List T1 → Prop) (Bad : Prop) (w : World) (e : Ending) (w' : World) : Prop := Below w.heap.size w w' ∧
  ((∃ (A : Option Addr) (n c : Nat) (L : List T1), e = .returned (.tuple #[.agg #[.bool false, .slice A n c], .int .i64 0]) ∧ QL w' (.agg #[.bool false, .slice A n c]) L ∧ Good L) ∨ (e = .returned (.tuple #[.agg #[.bool false, .slice none 0 0], .int .i64 10]) ∧ Bad))
set_option maxHeartbeats 8000000 in
set_option maxRecDepth 100000 in
theorem Set_walkN (vp va vz : Value) (l : List T2) (la lz : List T1) (w : World) (K : Int) (Good : List T1 → Prop) (Bad : Prop) (PsiA PsiZ : Value → World → Prop) (LA LZ : Int → List T1) (okA okZ : Int → Prop)
    (hp : PolyB w vp (some l)) (ha : PolyV w va (some la)) (hz : PolyV w vz (some lz)) (oka : okP (some la)) (hua : unitP (some la) = true) (lp : Lim2 l) (kp : Can2 l) (hl : l.length ≤ 10000) (hnn : ∀ t ∈ l, -1000 ≤ t.1.2 ∧ t.1.2 ≤ 1000) (hK : K = kmx l) (hokK : okZ K) (hG0 : K = 0 → Good (setL LA (LKz LZ K) l)) (hDV : ∀ (v1 v2 : Value) (W : World), 0 < K → QL W v1 (setL LA (LKz LZ K) l) → QL W v2 (LZ K) → Calls Tryz.prog 12 #[v1, v2] W (DvA Good Bad W))
    (hPA : ∀ W, Below w.heap.size w W → w.heap.size + 4 ≤ W.heap.size → Calls Tryz.prog 22 #[va] W fun e w' => ∃ v, e = .returned v ∧ Below W.heap.size W w' ∧ PsiA v w')
    (hPZ : ∀ W, Below w.heap.size w W → w.heap.size + 4 ≤ W.heap.size → Calls Tryz.prog 22 #[vz] W fun e w' => ∃ v, e = .returned v ∧ Below W.heap.size W w' ∧ PsiZ v w')
    (hkA : ∀ v a b, PsiA v a → Below a.heap.size a b → PsiA v b) (hkZ : ∀ v a b, PsiZ v a → Below a.heap.size a b → PsiZ v b)
    (hJ : ∀ fA fZ W, PsiA fA W → PsiZ fZ W → ∃ (KA KZ : FuncId) (cA cZ1 cZ2 : Value) (S : List Nat → World → Prop), PwJ w fA fZ LA LZ okA okZ KA KZ cA [cZ1, cZ2] S ∧ S [w.heap.size + 3] W)
    (hokA : ∀ t ∈ l, okA t.1.1) (hokZ : ∀ t ∈ l, okZ (t.1.2 + K)) (hEA : ∀ t ∈ l, Eb1 400000 (LA t.1.1)) (hEZ : ∀ t ∈ l, Eb1 400000 (LZ (t.1.2 + K))) (hA1 : ∀ t ∈ l, asum1 (LA t.1.1) ≤ 1) (hZ1 : ∀ t ∈ l, 1 ≤ asum1 (LZ (t.1.2 + K))) (hsum : asum1 (setL LA (LKz LZ K) l) ≤ 1125899906842624) :
    Calls Tryz.prog 10 #[vp, va, vz] w (DvA Good Bad w) := by
  have HP := Lib.hid (fun W (hb : Below w.heap.size w W) => hp.below hb)
  have HBA := Lib.hid (fun W (hb : Below w.heap.size w W) => Big_any va (some la) W (ha.below hb))
  have HBZ := Lib.hid (fun W (hb : Below w.heap.size w W) => Big_any vz (some lz) W (hz.below hb))
  have HUN := Lib.hid (fun W (hb : Below w.heap.size w W) => unit_any va (some la) W (ha.below hb) oka)
  rw [hua] at HUN
  have HPA := Lib.hid hPA
  have HPZ := Lib.hid hPZ
  have HKA := Lib.hid hkA
  have HKZ := Lib.hid hkZ
  have HJ := Lib.hid hJ
  have HOK := Lib.hid (And.intro hokA hokZ)
  have HEE := Lib.hid (And.intro hEA hEZ)
  have HA1 := Lib.hid (And.intro hA1 hZ1)
  have HSU := Lib.hid hsum
  have HLP := Lib.hid (And.intro lp hnn)
  have HKP := Lib.hid kp
  have HKK := Lib.hid hK
  have hKb := kmx_bd l hnn
  rw [← hK] at hKb
  have HKB := Lib.hid (fun i => kmx_bd (l.take i) (fun t ht => hnn t (List.mem_of_mem_take ht)))
  have HOKK := Lib.hid hokK
  have HG0 := Lib.hid hG0
  have HDV := Lib.hid hDV
  clear hK hokK hG0 hDV
  obtain ⟨bA, Aa, na, ca0, rfl, jA, -⟩ := ha.parts
  have jb : bA = false := jA
  subst jb
  obtain ⟨bZ, Az, nz, cz0, rfl, jZ, -⟩ := hz.parts
  have jb : bZ = false := jZ
  subst jb
  obtain ⟨A, c, rfl, _⟩ := hp
  simp only [Option.isNone_some, Option.getD_some] at HP ⊢
  have hW : ∀ W, W = (((w.alloc (.cells #[.bool false, .slice A l.length c] 29)).alloc (.cells #[.bool false, .slice Aa na ca0] 34)).alloc (.cells #[.bool false, .slice Az nz cz0] 34)).alloc (.cells #[.bool false, .slice none 0 0] 34) → Arr W w.heap.size 29 [.bool false, .slice A l.length c] ∧ Arr W (w.heap.size + 1) 34 [.bool false, .slice Aa na ca0] ∧ Arr W (w.heap.size + 2) 34 [.bool false, .slice Az nz cz0] ∧ Arr W (w.heap.size + 3) 34 [.bool false, .slice none 0 0] ∧ Below w.heap.size w W ∧ W.heap.size = w.heap.size + 4 := by
    intro W hW
    subst hW
    exact ⟨(((Arr.new _ _ [_, _]).alloc _).alloc _).alloc _, ((Arr.newAt (w.alloc _) _ [_, _] _ (by simp)).alloc _).alloc _, (Arr.newAt ((w.alloc _).alloc _) _ [_, _] _ (by simp)).alloc _, Arr.newAt (((w.alloc _).alloc _).alloc _) _ [_, _] _ (by simp), ((((Below.refl _ _).alloc (Nat.le_refl _) _).alloc (by simp) _).alloc (by simp <;> omega) _).alloc (by simp <;> omega) _, by simp⟩
  clear ha hz jA jZ hPA hPZ hkA hkZ hJ hokA hokZ hEA hEZ hA1 hZ1 hsum lp kp hnn hua oka
  go_enter Tryz.func10, Tryz.ntmps10
  go_upto_region 1 with fail
  generalize (((w.alloc (.cells #[.bool false, .slice A l.length c] 29)).alloc (.cells #[.bool false, .slice Aa na ca0] 34)).alloc (.cells #[.bool false, .slice Az nz cz0] 34)).alloc (.cells #[.bool false, .slice none 0 0] 34) = w3 at hW ⊢
  obtain ⟨qp, qa, qz, qr, hb3, hs3⟩ := hW w3 rfl
  clear hW
  have y0 := qp.cell 0
  have y1 := qa.cell 0
  have y2 := qa.cell 1
  have B1 := Lib.hid (HBA.out w3 hb3)
  go_wp2_with fail
  refine B1.out.mono ?_
  rintro e w4 ⟨rfl, hb4⟩
  have hb3' := hb3.trans (hb4.mono hb3.size)
  have q3p := qp.below hb4 qp.lt
  have q3a := qa.below hb4 qa.lt
  have q3z := qz.below hb4 qz.lt
  have q3r := qr.below hb4 qr.lt
  have hs4 := hb4.size
  have y3 := q3z.cell 0
  have y4 := q3z.cell 1
  have B2 := Lib.hid (HBZ.out w4 hb3')
  clear y0 y1 y2 B1 qp qa qz qr hb3 hb4
  go_wp2_with fail
  refine B2.out.mono ?_
  rintro e w5 ⟨rfl, hb5⟩
  have qp := q3p.below hb5 q3p.lt
  have qa := q3a.below hb5 q3a.lt
  have qz := q3z.below hb5 q3z.lt
  have qr := q3r.below hb5 q3r.lt
  have hb6 := hb3'.trans (hb5.mono hb3'.size)
  have hs5 : w.heap.size + 4 ≤ w5.heap.size := by have := hb5.size; omega
  clear y3 y4 B2 q3p q3a q3z q3r hb3' hb5 hs3 hs4
  have y1 := qp.cell 1
  have HST := Lib.hid (show Arr w5 w.heap.size 29 [.bool false, .slice A l.length c] ∧ Arr w5 (w.heap.size + 1) 34 [.bool false, .slice Aa na ca0] ∧ Arr w5 (w.heap.size + 2) 34 [.bool false, .slice Az nz cz0] ∧ Arr w5 (w.heap.size + 3) 34 [.bool false, .slice none 0 0] ∧ Below w.heap.size w w5 ∧ w.heap.size + 4 ≤ w5.heap.size from ⟨qp, qa, qz, qr, hb6, hs5⟩)
  clear qp qa qz qr hb6 hs5
  go_wp2_with fail
  clear y1
  go_loopg [8, 33] l.length (fun gk s8 s33 wr => ∃ (i : Nat), i ≤ l.length ∧ gk = l.length - i ∧ s33 = .int .i64 (i : Int) ∧ s8 = .int .i64 (kmx (l.take i)) ∧ Hid (Arr wr w.heap.size 29 [.bool false, .slice A l.length c] ∧ Arr wr (w.heap.size + 1) 34 [.bool false, .slice Aa na ca0] ∧ Arr wr (w.heap.size + 2) 34 [.bool false, .slice Az nz cz0] ∧ Arr wr (w.heap.size + 3) 34 [.bool false, .slice none 0 0] ∧ Below w.heap.size w wr ∧ w.heap.size + 4 ≤ wr.heap.size))
  case atStart => exact ⟨0, Nat.zero_le _, rfl, rfl, rfl, HST⟩
  case round =>
    clear HST
    obtain ⟨i, hi, rfl, rfl, rfl, HR⟩ := hrel
    by_cases hlt : i < l.length
    · have z1 : (i : Int) < (l.length : Int) := by omega
      obtain ⟨b, o', rfl, _, hc0, hc1, hc2⟩ := (HP.out wr HR.out.2.2.2.2.1).tm_some.at_ hlt
      have hnz := HLP.out.2 _ (List.getElem_mem hlt)
      have hea := HLP.out.1.ea _ (List.getElem_mem hlt)
      have hez := HLP.out.1.ez _ (List.getElem_mem hlt)
      have HKN := Lib.hid (kmx_take hlt)
      have hkb := HKB.out i
      obtain ⟨km, hkm⟩ : ∃ x, x = kmx (l.take i) := ⟨_, rfl⟩
      rw [← hkm] at HKN hkb ⊢
      clear hkm
      generalize l[i].1.1 = ta at *
      generalize l[i].1.2 = tz at *
      generalize l[i].2 = tc at *
      have hWo : ∀ W, W = wr.alloc (.cells #[.int .i64 ta, .int .i64 tz, .int .i64 tc] 49) → Arr W wr.heap.size 49 [.int .i64 ta, .int .i64 tz, .int .i64 tc] ∧ Below wr.heap.size wr W := by
        intro W hW
        subst hW
        exact ⟨Arr.new _ _ [_, _, _], (Below.refl _ _).alloc (Nat.le_refl _) _⟩
      go_upto_region 7 with fail
      generalize wr.alloc (.cells #[.int .i64 ta, .int .i64 tz, .int .i64 tc] 49) = w6 at hWo ⊢
      obtain ⟨qt, hb6⟩ := hWo w6 rfl
      obtain ⟨B10, hB10⟩ : ∃ B, B = wr.heap.size := ⟨_, rfl⟩
      rw [← hB10] at qt ⊢
      have HF := Lib.hid (show Arr w6 w.heap.size 29 [.bool false, .slice (some ⟨b, o', none⟩) l.length c] ∧ Arr w6 (w.heap.size + 1) 34 [.bool false, .slice Aa na ca0] ∧ Arr w6 (w.heap.size + 2) 34 [.bool false, .slice Az nz cz0] ∧ Arr w6 (w.heap.size + 3) 34 [.bool false, .slice none 0 0] ∧ Below w.heap.size w w6 ∧ w.heap.size + 4 ≤ w6.heap.size from
        ⟨HR.out.1.below hb6 HR.out.1.lt, HR.out.2.1.below hb6 HR.out.2.1.lt, HR.out.2.2.1.below hb6 HR.out.2.2.1.lt, HR.out.2.2.2.1.below hb6 HR.out.2.2.2.1.lt, HR.out.2.2.2.2.1.trans (hb6.mono HR.out.2.2.2.2.1.size), Nat.le_trans HR.out.2.2.2.2.2 hb6.size⟩)
      obtain ⟨kn, hkn⟩ : ∃ x, x = max km (-tz) := ⟨_, rfl⟩
      rw [← hkn] at HKN
      have hmx : ∀ ty (W : World), (Builtin.max_ #[3, 3] ty #[.int .i64 km, .int .i64 (-tz)]).run Tryz.prog W = .ok (.int .i64 kn) W := fun ty W => by
        have e : (if -tz > km then -tz else km) = max km (-tz) := by split <;> omega
        rw [run_max_int2, e, hkn]
      clear hkn
      clear hc0 hc1 hc2 HR hWo hB10
      by_cases hneg : ta < 0
      · have y0 := qt.cell 0
        have x0 := HF.out.2.1.cell 0
        have x1 := HF.out.2.1.cell 1
        have U := Lib.hid (HUN.out w6 HF.out.2.2.2.2.1)
        go_wp2_with fail
        refine U.out.mono ?_
        rintro e w7 ⟨rfl, hb7⟩
        have qt7 := qt.below hb7 qt.lt
        have y1 := qt7.cell 1
        have HF7 := Lib.hid (show Arr w7 w.heap.size 29 [.bool false, .slice (some ⟨b, o', none⟩) l.length c] ∧ Arr w7 (w.heap.size + 1) 34 [.bool false, .slice Aa na ca0] ∧ Arr w7 (w.heap.size + 2) 34 [.bool false, .slice Az nz cz0] ∧ Arr w7 (w.heap.size + 3) 34 [.bool false, .slice none 0 0] ∧ Below w.heap.size w w7 ∧ w.heap.size + 4 ≤ w7.heap.size from
          ⟨HF.out.1.below hb7 HF.out.1.lt, HF.out.2.1.below hb7 HF.out.2.1.lt, HF.out.2.2.1.below hb7 HF.out.2.2.1.lt, HF.out.2.2.2.1.below hb7 HF.out.2.2.2.1.lt, HF.out.2.2.2.2.1.trans (hb7.mono HF.out.2.2.2.2.1.size), Nat.le_trans HF.out.2.2.2.2.2 hb7.size⟩)
        clear y0 x0 x1 U qt qt7 hb7
        go_wp2_with fail
        go_roundg (l.length - (i + 1))
        case measure => omega
        case rel => exact ⟨i + 1, by omega, rfl, by go_num, by rw [HKN.out], HF7⟩
      · have z3 : decide (ta < 0) = false := decide_eq_false hneg
        have y0 := qt.cell 0
        have y1 := qt.cell 1
        go_wp2_with fail
        go_roundg (l.length - (i + 1))
        case measure => omega
        case rel => exact ⟨i + 1, by omega, rfl, by go_num, by rw [HKN.out], HF⟩
    · have z1 : ¬ (i : Int) < (l.length : Int) := by omega
      have hkk : kmx (l.take i) = K := by rw [List.take_of_length_le (by omega), HKK.out]
      rw [hkk]
      clear hkk
      go_upto_region 11 with fail
      have QA := Lib.hid HR.out.2.1
      have QZ := Lib.hid HR.out.2.2.1
      have HB3 := Lib.hid HR.out.2.2.2.2.1
      have HZ3 := Lib.hid HR.out.2.2.2.2.2
      refine wp_region_phy (fun a b => Below a.heap.size a b) (fun h k => h.trans (k.mono h.size)) ((Below.refl _ _).drew) (by kernel_rfl) (by kernel_rfl) (by kernel_rfl) (by kernel_rfl) (phiT (fun i => ([some (.agg #[.bool false, .slice Aa na ca0]), none, some (.agg #[.bool false, .slice Az nz cz0]), none, none, none] : List (Option Value)).getD i none) (fun i v w => (if i = 1 then (fun v w => PsiA v w) v w else (if i = 3 then (fun v w => PsiZ v w) v w else (if i = 4 then (fun v w => PsiA v w) v w else (if i = 5 then (fun v w => PsiZ v w) v w else True)))))) (fun i v w w' h hb => ?_) ⟨?_, ?_, ?_, ?_, ?_, ?_, trivial⟩ ?_
      · unfold phiT at h ⊢
        split
        · next u hu => rw [hu] at h; exact h
        · next hu =>
          rw [hu] at h
          simp only at h ⊢
          by_cases q1 : i = 1
          · rw [if_pos q1] at h ⊢; exact HKA.out _ _ _ h hb
          · rw [if_neg q1] at h ⊢
            by_cases q3 : i = 3
            · rw [if_pos q3] at h ⊢; exact HKZ.out _ _ _ h hb
            · rw [if_neg q3] at h ⊢
              by_cases q4 : i = 4
              · rw [if_pos q4] at h ⊢; exact HKA.out _ _ _ h hb
              · rw [if_neg q4] at h ⊢
                by_cases q5 : i = 5
                · rw [if_pos q5] at h ⊢; exact HKZ.out _ _ _ h hb
                · rw [if_neg q5] at h ⊢
                  trivial
      · intro x w1 bA hT hdep hold hb
        refine .inl ⟨trivial, ?_⟩
        have e4 : bA.tmps[4]?.getD undef = .pointer (some ⟨w.heap.size + 1, 0, none⟩) := hb 4
        have cc0 := (QA.out.below hT QA.out.lt).cell 0
        have cc1 := (QA.out.below hT QA.out.lt).cell 1
        refine phx_run (.agg #[.bool false, .slice Aa na ca0]) ?_ (Below.refl _ _) rfl
        clear hb hdep hold
        go_simp
      · intro x w1 bA hT hdep hold hb
        refine .inl ⟨trivial, ?_⟩
        have e52 : bA.tmps[52]?.getD undef = .agg #[.bool false, .slice Aa na ca0] := (hb 52).trans (hdep 0 (by decide))
        refine phx_call ?_ ((HPA.out w1 (HB3.out.trans (hT.mono HB3.out.size)) (Nat.le_trans HZ3.out hT.size)).mono fun e w' h => h)
        clear hb hdep hold
        go_simp
      · intro x w1 bA hT hdep hold hb
        refine .inl ⟨trivial, ?_⟩
        have e5 : bA.tmps[5]?.getD undef = .pointer (some ⟨w.heap.size + 2, 0, none⟩) := hb 5
        have cc0 := (QZ.out.below hT QZ.out.lt).cell 0
        have cc1 := (QZ.out.below hT QZ.out.lt).cell 1
        refine phx_run (.agg #[.bool false, .slice Az nz cz0]) ?_ (Below.refl _ _) rfl
        clear hb hdep hold
        go_simp
      · intro x w1 bA hT hdep hold hb
        refine .inl ⟨trivial, ?_⟩
        have e54 : bA.tmps[54]?.getD undef = .agg #[.bool false, .slice Az nz cz0] := (hb 54).trans (hdep 2 (by decide))
        refine phx_call ?_ ((HPZ.out w1 (HB3.out.trans (hT.mono HB3.out.size)) (Nat.le_trans HZ3.out hT.size)).mono fun e w' h => h)
        clear hb hdep hold
        go_simp
      · intro x w1 bA hT hdep hold hb
        refine .inl ⟨trivial, ?_⟩
        have p53 := hdep 1 (by decide)
        have e53 : bA.tmps[53]?.getD undef = x 1 := hb 53
        generalize x 1 = x53 at *
        have P53 := Lib.hid (show (fun v w => PsiA v w) x53 w1 from p53)
        clear p53
        refine phx_run (x53) ?_ (Below.refl _ _) (P53.out)
        clear hb hdep hold
        go_simp
      · intro x w1 bA hT hdep hold hb
        refine .inl ⟨trivial, ?_⟩
        have p55 := hdep 3 (by decide)
        have e55 : bA.tmps[55]?.getD undef = x 3 := hb 55
        generalize x 3 = x55 at *
        have P55 := Lib.hid (show (fun v w => PsiZ v w) x55 w1 from p55)
        clear p55
        refine phx_run (x55) ?_ (Below.refl _ _) (P55.out)
        clear hb hdep hold
        go_simp
      intro x w1 hT hall
      have x0e : x 0 = .agg #[.bool false, .slice Aa na ca0] := hall 0 (by decide)
      have p53 := hall 1 (by decide)
      have x2e : x 2 = .agg #[.bool false, .slice Az nz cz0] := hall 2 (by decide)
      have p55 := hall 3 (by decide)
      have p11 := hall 4 (by decide)
      have p12 := hall 5 (by decide)
      simp only [putAll, dstOf, Act.put, List.map_cons, List.map_nil, List.setIfInBounds_toArray, List.set_cons_succ, List.set_cons_zero, Nat.reduceAdd, x0e, x2e]
      clear x0e x2e hall
      clear p53 p55
      obtain ⟨KA, KZ, cA, cZ1, cZ2, S, hJJ, hS0⟩ := HJ.out (x 4) (x 5) w1 p11 p12
      rw [hJJ.eA, hJJ.eZ]
      have HJJ := Lib.hid hJJ
      have QP := Lib.hid (HR.out.1.below hT HR.out.1.lt)
      have QR := Lib.hid (HR.out.2.2.2.1.below hT HR.out.2.2.2.1.lt)
      have HB1 := Lib.hid (HB3.out.trans (hT.mono HB3.out.size))
      have HZ1 := Lib.hid (Nat.le_trans HZ3.out hT.size)
      have HS0 := Lib.hid hS0
      clear p11 p12 hJJ hS0 hT QA QZ HB3 HZ3 HR HJ HPA HPZ HKA HKZ HBA HBZ HUN
      obtain ⟨B13, hB13⟩ : ∃ B, B = w1.heap.size := ⟨_, rfl⟩
      have hW : ∀ W, W = w1.alloc (.cells #[.bool false, .slice none 0 0] 34) → Arr W w.heap.size 29 [.bool false, .slice A l.length c] ∧ Arr W (w.heap.size + 3) 34 [.bool false, .slice none 0 0] ∧ Arr W B13 34 [.bool false, .slice none 0 0] ∧ S [w.heap.size + 3, B13] W ∧ Below w.heap.size w W ∧ B13 < W.heap.size := by
        intro W hW
        subst hW
        rw [hB13]
        refine ⟨QP.out.alloc _, QR.out.alloc _, Arr.new _ _ [_, _], HJJ.out.s1 _ _ _ _ HS0.out ((Below.refl _ _).alloc (Nat.le_refl _) _) fun k hk => ?_, HB1.out.alloc HB1.out.size _, by simp⟩
        simp only [List.mem_cons, List.not_mem_nil, or_false] at hk ⊢
        rcases hk with rfl | rfl
        · exact .inl rfl
        · exact .inr ⟨Nat.le_refl _, by simp⟩
      have HG13 := Lib.hid (show w.heap.size + 4 ≤ B13 from by rw [hB13]; exact HZ1.out)
      go_upto_region 13 with fail
      rw [← hB13]
      generalize w1.alloc (.cells #[.bool false, .slice none 0 0] 34) = w2 at hW ⊢
      obtain ⟨qp, qr, qt, hs2, hb2, hl2⟩ := hW w2 rfl
      have y1 := qp.cell 1
      have HST := Lib.hid (show ∃ (At : Option Addr) (nt ct : Nat), Arr w2 w.heap.size 29 [.bool false, .slice A l.length c] ∧ Arr w2 (w.heap.size + 3) 34 [.bool false, .slice none 0 0] ∧ Arr w2 B13 34 [.bool false, .slice At nt ct] ∧ QL w2 (.agg #[.bool false, .slice At nt ct]) (setL LA (LKz LZ K) (l.take 0)) ∧ S [w.heap.size + 3, B13] w2 ∧ Below w.heap.size w w2 from ⟨none, 0, 0, qp, qr, qt, QL.zero _, hs2, hb2⟩)
      clear hW qp qr qt hs2 hb2 hl2 QP QR HB1 HZ1 HS0 hB13
      go_wp2_with fail
      clear y1
      go_loopg [59] l.length (fun gk s59 wr => ∃ (i : Nat), i ≤ l.length ∧ gk = l.length - i ∧ s59 = .int .i64 (i : Int) ∧ Hid (∃ (At : Option Addr) (nt ct : Nat), Arr wr w.heap.size 29 [.bool false, .slice A l.length c] ∧ Arr wr (w.heap.size + 3) 34 [.bool false, .slice none 0 0] ∧ Arr wr B13 34 [.bool false, .slice At nt ct] ∧ QL wr (.agg #[.bool false, .slice At nt ct]) (setL LA (LKz LZ K) (l.take i)) ∧ S [w.heap.size + 3, B13] wr ∧ Below w.heap.size w wr))
      case atStart => exact ⟨0, Nat.zero_le _, rfl, rfl, HST⟩
      case round =>
        clear HST
        obtain ⟨i, hi, rfl, rfl, HR⟩ := hrel
        obtain ⟨At, nt, ct, rp, rr, rt, rq, rs, rb⟩ := HR.out
        clear HR
        by_cases hlt : i < l.length
        · have z1 : (i : Int) < (l.length : Int) := by omega
          obtain ⟨b, o', rfl, _, hc0, hc1, hc2⟩ := (HP.out wr rb).tm_some.at_ hlt
          have HNX := Lib.hid (setL_take (LA := LA) (LZ := LKz LZ K) hlt)
          have HSL := Lib.hid (Nat.le_trans (setL_le LA (LKz LZ K) l (i + 1)) HSU.out)
          have hm := List.getElem_mem hlt
          have hcc := HLP.out.1.co _ hm
          have hc0n := HKP.out.nz _ hm
          have hez := HLP.out.1.ez _ hm
          have HOA := Lib.hid (HOK.out.1 _ hm)
          have HOZ := Lib.hid (HOK.out.2 _ hm)
          have HEA := Lib.hid (HEE.out.1 _ hm)
          have HEZ := Lib.hid (HEE.out.2 _ hm)
          have ha1 := HA1.out.1 _ hm
          have hz1 := HA1.out.2 _ hm
          have HST1 := Lib.hid (show setT LA (LKz LZ K) l[i] = prs (prs [(0, l[i].2)] (LA l[i].1.1)) (LZ (l[i].1.2 + K)) from rfl)
          clear hm
          generalize setT LA (LKz LZ K) l[i] = stt at *
          generalize l[i].1.1 = ta at *
          generalize l[i].1.2 = tz at *
          generalize l[i].2 = tc at *
          obtain ⟨tk, htk⟩ : ∃ x, x = tz + K := ⟨_, rfl⟩
          rw [← htk] at HST1 HOZ HEZ hz1
          have HWZ := Lib.hid (show IntKind.i64.wrap (tz + K) = tk from by rw [htk]; exact IntWalk.i64_in _ (by omega))
          clear htk
          have hst := HST1.out
          subst hst
          clear HST1
          rw [HNX.out] at HSL
          have hsl := HSL.out
          rw [asum1_append] at hsl
          have HAD := Lib.hid hsl
          have HM2 := Lib.hid (show asum1 (prs [(0, tc)] (LA ta)) * asum1 (LZ tk) ≤ 1125899906842624 from by rw [← asum1_prs]; omega)
          have HM1 := Lib.hid (show asum1 [((0 : Int), tc)] * asum1 (LA ta) ≤ 1125899906842624 from by
            have e1 : asum1 [((0 : Int), tc)] = tc.natAbs := by unfold asum1; unfold asum1; rfl
            rw [e1]
            have : tc.natAbs * asum1 (LA ta) ≤ tc.natAbs * 1 := Nat.mul_le_mul_left _ ha1
            omega)
          have HE0 := Lib.hid (show Eb1 0 [((0 : Int), tc)] from fun t ht => by rw [List.mem_singleton.1 ht]; simp)
          have HT66 := Lib.hid (fun W => TermQ tc 0 W hcc.1 hcc.2 hc0n (by decide) (by decide))
          obtain ⟨TL, hTL⟩ : ∃ TL, TL = setL LA (LKz LZ K) (l.take i) := ⟨_, rfl⟩
          rw [← hTL] at rq HAD HNX
          clear hsl ha1 hz1 HSL hTL hc0n
          obtain ⟨B15, hB15⟩ : ∃ B, B = wr.heap.size := ⟨_, rfl⟩
          have hWo : ∀ W, W = wr.alloc (.cells #[.int .i64 ta, .int .i64 tz, .int .i64 tc] 49) → Arr W B15 49 [.int .i64 ta, .int .i64 tz, .int .i64 tc] ∧ Below wr.heap.size wr W ∧ S [w.heap.size + 3, B13, B15] W := by
            intro W hW
            subst hW
            rw [hB15]
            refine ⟨Arr.new _ _ [_, _, _], (Below.refl _ _).alloc (Nat.le_refl _) _, HJJ.out.s1 _ _ _ _ rs ((Below.refl _ _).alloc (Nat.le_refl _) _) fun k hk => ?_⟩
            simp only [List.mem_cons, List.not_mem_nil, or_false] at hk ⊢
            rcases hk with rfl | rfl | rfl
            · exact .inl (.inl rfl)
            · exact .inl (.inr rfl)
            · exact .inr ⟨Nat.le_refl _, by simp⟩
          go_upto_region 16 with fail
          rw [← hB15]
          generalize wr.alloc (.cells #[.int .i64 ta, .int .i64 tz, .int .i64 tc] 49) = w5 at hWo ⊢
          obtain ⟨q15, hb5, hs5⟩ := hWo w5 rfl
          obtain ⟨TT, hTT⟩ : ∃ TT, TT = KT w.heap.size [w.heap.size + 3, B13, B15] (S [w.heap.size + 3, B13, B15]) := ⟨_, rfl⟩
          have hz5 : w.heap.size ≤ w5.heap.size := Nat.le_trans rb.size hb5.size
          have hSB : ∀ a b, S [w.heap.size + 3, B13, B15] a → Below a.heap.size a b → S [w.heap.size + 3, B13, B15] b := fun a b h hb => HJJ.out.s1 _ _ _ _ h hb fun k hk => .inl hk
          have HTB := Lib.hid (show ∀ a b, TT w5 a → Below a.heap.size a b → TT a b from fun a b h hb => by
            subst hTT
            exact KT.of_below hSB hb (Nat.le_trans hz5 h.bel.size))
          have HT0 := Lib.hid (show TT w5 w5.drew from by
            subst hTT
            exact KT.of_below hSB (Below.refl _ _).drew hz5)
          have HTR := Lib.hid (show ∀ a b c, TT a b → TT b c → TT a c from fun a b c h k => by subst hTT; exact h.trans k)
          have HTQ := Lib.hid (show ∀ v L a b, QL a v L → TT a b → QL b v L from fun v L a b h k => by subst hTT; exact KT.ql h k)
          have HTS := Lib.hid (show ∀ W, TT w5 W → S [w.heap.size + 3, B13, B15] W ∧ w.heap.size ≤ W.heap.size from fun W h => by subst hTT; exact ⟨h.st hs5, Nat.le_trans hz5 h.bel.size⟩)
          have qt5 := rt.below hb5 rt.lt
          have HTG := Lib.hid (show ∀ W, TT w5 W → Arr W B13 34 [.bool false, .slice At nt ct] ∧ Arr W B15 49 [.int .i64 ta, .int .i64 tz, .int .i64 tc] from fun W h => by
            subst hTT
            exact ⟨KT.arr qt5 h (by simp), KT.arr q15 h (by simp)⟩)
          have HTV := Lib.hid (rq.below hb5)
          have HCA := Lib.hid (show (∀ args W, (callFunc KA args).run Tryz.prog W = .ok (.enter KA args) W) ∧ ∀ (n : Int) W, okA n → (S [w.heap.size + 3, B13, B15] W ∧ w.heap.size ≤ W.heap.size) → Calls Tryz.prog KA #[.int .i64 n, cA] W fun e w' => ∃ v, e = .returned v ∧ QL w' v (LA n) ∧ TT W w' from ⟨HJJ.out.nA, fun n W h1 h2 => by subst hTT; exact HJJ.out.cA' _ n W h1 h2.1 h2.2⟩)
          have HCZ := Lib.hid (show (∀ args W, (callFunc KZ args).run Tryz.prog W = .ok (.enter KZ args) W) ∧ ∀ (n : Int) W, okZ n → (S [w.heap.size + 3, B13, B15] W ∧ w.heap.size ≤ W.heap.size) → Calls Tryz.prog KZ #[.int .i64 n, cZ1, cZ2] W fun e w' => ∃ v, e = .returned v ∧ QL w' v (LZ n) ∧ TT W w' from ⟨HJJ.out.nZ, fun n W h1 h2 => by subst hTT; exact HJJ.out.cZ' _ n W h1 h2.1 h2.2⟩)
          have RP := Lib.hid (rp.below hb5 rp.lt)
          have RR := Lib.hid (rr.below hb5 rr.lt)
          have RB := Lib.hid (rb.trans (hb5.mono rb.size))
          have RZ := Lib.hid (rp.lt)
          have HTT := Lib.hid hTT
          have H15 := Lib.hid hB15
          have HLW := Lib.hid (And.intro rt.lt (And.intro rp.lt rr.lt))
          have HSB := Lib.hid hSB
          clear hc0 hc1 hc2 rp rr rt rq rs rb hWo q15 hb5 hs5 hSB qt5 hTT hB15 hz5 hcc hez
          refine wp_region_phx (TT) (fun h k => HTR.out _ _ _ h k) (HT0.out) 17 (by kernel_rfl) (by kernel_rfl) (by kernel_rfl) (by kernel_rfl) rfl (by kernel_rfl) (phiT (fun i => ([some (.agg #[.bool false, .slice At nt ct]), some (.pointer (some ⟨B15, 2, none⟩)), some (.int .i64 tc), none, some (.func (.func KA) #[] #[cA]), some (.pointer (some ⟨B15, 0, none⟩)), some (.int .i64 ta), none, none, some (.func (.func KZ) #[] #[cZ1, cZ2]), some (.pointer (some ⟨B15, 1, none⟩)), some (.int .i64 tz), some (.int .i64 K), some (.int .i64 tk), none, none, none, some (undef)] : List (Option Value)).getD i none) (fun i v w => (if i = 3 then (fun v w => QL w v [(0, tc)]) v w else (if i = 7 then (fun v w => QL w v (LA ta)) v w else (if i = 8 then (fun v w => QL w v (prs [(0, tc)] (LA ta))) v w else (if i = 14 then (fun v w => QL w v (LZ tk)) v w else (if i = 15 then (fun v w => QL w v (prs (prs [(0, tc)] (LA ta)) (LZ tk))) v w else (if i = 16 then (fun v w => QL w v (TL ++ prs (prs [(0, tc)] (LA ta)) (LZ tk))) v w else True)))))))) (fun i v w w' h hb => ?_) (fun _ W => ∃ (A : Option Addr) (n c : Nat), Arr W B13 34 [.bool false, .slice A n c] ∧ QL W (.agg #[.bool false, .slice A n c]) (TL ++ prs (prs [(0, tc)] (LA ta)) (LZ tk)) ∧ ∃ W1, TT w5 W1 ∧ ∃ u1 u2, W = (W1.setCell ⟨B13, 0, none⟩ u1).setCell ⟨B13, 1, none⟩ u2) ⟨?_, ?_, ?_, ?_, ?_, ?_, ?_, ?_, ?_, ?_, ?_, ?_, ?_, ?_, ?_, ?_, ?_, ?_, trivial⟩ ?_
          · unfold phiT at h ⊢
            split
            · next u hu => rw [hu] at h; exact h
            · next hu =>
              rw [hu] at h
              simp only at h ⊢
              by_cases q3 : i = 3
              · rw [if_pos q3] at h ⊢; exact HTQ.out _ _ _ _ h hb
              · rw [if_neg q3] at h ⊢
                by_cases q7 : i = 7
                · rw [if_pos q7] at h ⊢; exact HTQ.out _ _ _ _ h hb
                · rw [if_neg q7] at h ⊢
                  by_cases q8 : i = 8
                  · rw [if_pos q8] at h ⊢; exact HTQ.out _ _ _ _ h hb
                  · rw [if_neg q8] at h ⊢
                    by_cases q14 : i = 14
                    · rw [if_pos q14] at h ⊢; exact HTQ.out _ _ _ _ h hb
                    · rw [if_neg q14] at h ⊢
                      by_cases q15 : i = 15
                      · rw [if_pos q15] at h ⊢; exact HTQ.out _ _ _ _ h hb
                      · rw [if_neg q15] at h ⊢
                        by_cases q16 : i = 16
                        · rw [if_pos q16] at h ⊢; exact HTQ.out _ _ _ _ h hb
                        · rw [if_neg q16] at h ⊢
                          trivial
          · intro x w1 bA hT hdep hold hb
            refine ⟨fun _ => ?_, fun h => absurd h (by decide)⟩
            refine .inl ⟨trivial, ?_⟩
            have e13 : bA.tmps[13]?.getD undef = .pointer (some ⟨B13, 0, none⟩) := hb 13
            have cc0 := (HTG.out _ hT).1.cell 0
            have cc1 := (HTG.out _ hT).1.cell 1
            refine phx_run (.agg #[.bool false, .slice At nt ct]) ?_ (HTB.out _ _ hT (Below.refl _ _)) rfl
            clear hb hdep hold
            go_simp
          · intro x w1 bA hT hdep hold hb
            refine ⟨fun _ => ?_, fun h => absurd h (by decide)⟩
            refine .inl ⟨trivial, ?_⟩
            have e15 : bA.tmps[15]?.getD undef = .pointer (some ⟨B15, 0, none⟩) := hb 15
            refine phx_run (.pointer (some ⟨B15, 2, none⟩)) ?_ (HTB.out _ _ hT (Below.refl _ _)) rfl
            clear hb hdep hold
            go_simp
          · intro x w1 bA hT hdep hold hb
            refine ⟨fun _ => ?_, fun h => absurd h (by decide)⟩
            refine .inl ⟨trivial, ?_⟩
            have e64 : bA.tmps[64]?.getD undef = .pointer (some ⟨B15, 2, none⟩) := (hb 64).trans (hdep 1 (by decide))
            have ct := (HTG.out _ hT).2.cell 2
            refine phx_run (.int .i64 tc) ?_ (HTB.out _ _ hT (Below.refl _ _)) rfl
            clear hb hdep hold
            go_simp
          · intro x w1 bA hT hdep hold hb
            refine ⟨fun _ => ?_, fun h => absurd h (by decide)⟩
            refine .inl ⟨trivial, ?_⟩
            have e65 : bA.tmps[65]?.getD undef = .int .i64 tc := (hb 65).trans (hdep 2 (by decide))
            refine phx_call ?_ ((HT66.out w1).mono fun e w' h => (by obtain ⟨v, he, hb', hv⟩ := h; exact ⟨v, he, HTB.out _ _ hT hb', hv⟩))
            clear hb hdep hold
            go_simp
          · intro x w1 bA hT hdep hold hb
            refine ⟨fun _ => ?_, fun h => absurd h (by decide)⟩
            refine .inl ⟨trivial, ?_⟩
            have e11 : bA.tmps[11]?.getD undef = .func (.func KA) #[] #[cA] := hb 11
            refine phx_run (.func (.func KA) #[] #[cA]) ?_ (HTB.out _ _ hT (Below.refl _ _)) rfl
            clear hb hdep hold
            go_simp
          · intro x w1 bA hT hdep hold hb
            refine ⟨fun _ => ?_, fun h => absurd h (by decide)⟩
            refine .inl ⟨trivial, ?_⟩
            have e15 : bA.tmps[15]?.getD undef = .pointer (some ⟨B15, 0, none⟩) := hb 15
            refine phx_run (.pointer (some ⟨B15, 0, none⟩)) ?_ (HTB.out _ _ hT (Below.refl _ _)) rfl
            clear hb hdep hold
            go_simp
          · intro x w1 bA hT hdep hold hb
            refine ⟨fun _ => ?_, fun h => absurd h (by decide)⟩
            refine .inl ⟨trivial, ?_⟩
            have e68 : bA.tmps[68]?.getD undef = .pointer (some ⟨B15, 0, none⟩) := (hb 68).trans (hdep 5 (by decide))
            have ct := (HTG.out _ hT).2.cell 0
            refine phx_run (.int .i64 ta) ?_ (HTB.out _ _ hT (Below.refl _ _)) rfl
            clear hb hdep hold
            go_simp
          · intro x w1 bA hT hdep hold hb
            refine ⟨fun _ => ?_, fun h => absurd h (by decide)⟩
            refine .inl ⟨trivial, ?_⟩
            have e67 : bA.tmps[67]?.getD undef = .func (.func KA) #[] #[cA] := (hb 67).trans (hdep 4 (by decide))
            have e69 : bA.tmps[69]?.getD undef = .int .i64 ta := (hb 69).trans (hdep 6 (by decide))
            have eg := HCA.out.1
            have hS1 := HTS.out _ hT
            refine phx_call ?_ ((HCA.out.2 ta w1 HOA.out (HTS.out _ hT)).mono fun e w' h => (by obtain ⟨v, he, hv, ht⟩ := h; exact ⟨v, he, ht, hv⟩))
            clear hb hdep hold
            go_simp
          · intro x w1 bA hT hdep hold hb
            refine ⟨fun _ => ?_, fun h => absurd h (by decide)⟩
            refine .inl ⟨trivial, ?_⟩
            have p66 := hdep 3 (by decide)
            have e66 : bA.tmps[66]?.getD undef = x 3 := hb 66
            generalize x 3 = x66 at *
            have P66 := Lib.hid (show (fun v w => QL w v [(0, tc)]) x66 w1 from p66)
            clear p66
            have p70 := hdep 7 (by decide)
            have e70 : bA.tmps[70]?.getD undef = x 7 := hb 70
            generalize x 7 = x70 at *
            have P70 := Lib.hid (show (fun v w => QL w v (LA ta)) x70 w1 from p70)
            clear p70
            refine phx_call ?_ ((MulQ x66 x70 [(0, tc)] (LA ta) w1 P66.out P70.out HM1.out (N := 0) (M := 400000) HE0.out HEA.out (by omega)).mono fun e w' h => (by obtain ⟨v, he, hb', hv⟩ := h; exact ⟨v, he, HTB.out _ _ hT hb', hv⟩))
            clear hb hdep hold
            go_simp
          · intro x w1 bA hT hdep hold hb
            refine ⟨fun _ => ?_, fun h => absurd h (by decide)⟩
            refine .inl ⟨trivial, ?_⟩
            have e12 : bA.tmps[12]?.getD undef = .func (.func KZ) #[] #[cZ1, cZ2] := hb 12
            refine phx_run (.func (.func KZ) #[] #[cZ1, cZ2]) ?_ (HTB.out _ _ hT (Below.refl _ _)) rfl
            clear hb hdep hold
            go_simp
          · intro x w1 bA hT hdep hold hb
            refine ⟨fun _ => ?_, fun h => absurd h (by decide)⟩
            refine .inl ⟨trivial, ?_⟩
            have e15 : bA.tmps[15]?.getD undef = .pointer (some ⟨B15, 0, none⟩) := hb 15
            refine phx_run (.pointer (some ⟨B15, 1, none⟩)) ?_ (HTB.out _ _ hT (Below.refl _ _)) rfl
            clear hb hdep hold
            go_simp
          · intro x w1 bA hT hdep hold hb
            refine ⟨fun _ => ?_, fun h => absurd h (by decide)⟩
            refine .inl ⟨trivial, ?_⟩
            have e73 : bA.tmps[73]?.getD undef = .pointer (some ⟨B15, 1, none⟩) := (hb 73).trans (hdep 10 (by decide))
            have ct := (HTG.out _ hT).2.cell 1
            refine phx_run (.int .i64 tz) ?_ (HTB.out _ _ hT (Below.refl _ _)) rfl
            clear hb hdep hold
            go_simp
          · intro x w1 bA hT hdep hold hb
            refine ⟨fun _ => ?_, fun h => absurd h (by decide)⟩
            refine .inl ⟨trivial, ?_⟩
            have e8 : bA.tmps[8]?.getD undef = .int .i64 K := hb 8
            refine phx_run (.int .i64 K) ?_ (HTB.out _ _ hT (Below.refl _ _)) rfl
            clear hb hdep hold
            go_simp
          · intro x w1 bA hT hdep hold hb
            refine ⟨fun _ => ?_, fun h => absurd h (by decide)⟩
            refine .inl ⟨trivial, ?_⟩
            have e74 : bA.tmps[74]?.getD undef = .int .i64 tz := (hb 74).trans (hdep 11 (by decide))
            have e75 : bA.tmps[75]?.getD undef = .int .i64 K := (hb 75).trans (hdep 12 (by decide))
            have zw := HWZ.out
            refine phx_run (.int .i64 tk) ?_ (HTB.out _ _ hT (Below.refl _ _)) rfl
            clear hb hdep hold
            go_simp
          · intro x w1 bA hT hdep hold hb
            refine ⟨fun _ => ?_, fun h => absurd h (by decide)⟩
            refine .inl ⟨trivial, ?_⟩
            have e72 : bA.tmps[72]?.getD undef = .func (.func KZ) #[] #[cZ1, cZ2] := (hb 72).trans (hdep 9 (by decide))
            have e76 : bA.tmps[76]?.getD undef = .int .i64 tk := (hb 76).trans (hdep 13 (by decide))
            have eg := HCZ.out.1
            refine phx_call ?_ ((HCZ.out.2 tk w1 HOZ.out (HTS.out _ hT)).mono fun e w' h => (by obtain ⟨v, he, hv, ht⟩ := h; exact ⟨v, he, ht, hv⟩))
            clear hb hdep hold
            go_simp
          · intro x w1 bA hT hdep hold hb
            refine ⟨fun _ => ?_, fun h => absurd h (by decide)⟩
            refine .inl ⟨trivial, ?_⟩
            have p71 := hdep 8 (by decide)
            have e71 : bA.tmps[71]?.getD undef = x 8 := hb 71
            generalize x 8 = x71 at *
            have P71 := Lib.hid (show (fun v w => QL w v (prs [(0, tc)] (LA ta))) x71 w1 from p71)
            clear p71
            have p77 := hdep 14 (by decide)
            have e77 : bA.tmps[77]?.getD undef = x 14 := hb 77
            generalize x 14 = x77 at *
            have P77 := Lib.hid (show (fun v w => QL w v (LZ tk)) x77 w1 from p77)
            clear p77
            refine phx_call ?_ ((MulQ x71 x77 (prs [(0, tc)] (LA ta)) (LZ tk) w1 P71.out P77.out HM2.out (N := 0 + 400000) (M := 400000) (HE0.out.mul HEA.out) HEZ.out (by omega)).mono fun e w' h => (by obtain ⟨v, he, hb', hv⟩ := h; exact ⟨v, he, HTB.out _ _ hT hb', hv⟩))
            clear hb hdep hold
            go_simp
          · intro x w1 bA hT hdep hold hb
            refine ⟨fun _ => ?_, fun h => absurd h (by decide)⟩
            refine .inl ⟨trivial, ?_⟩
            have e63 : bA.tmps[63]?.getD undef = .agg #[.bool false, .slice At nt ct] := (hb 63).trans (hdep 0 (by decide))
            have p78 := hdep 15 (by decide)
            have e78 : bA.tmps[78]?.getD undef = x 15 := hb 78
            generalize x 15 = x78 at *
            have P78 := Lib.hid (show (fun v w => QL w v (prs (prs [(0, tc)] (LA ta)) (LZ tk))) x78 w1 from p78)
            clear p78
            refine phx_call ?_ ((AddQ (.agg #[.bool false, .slice At nt ct]) x78 TL (prs (prs [(0, tc)] (LA ta)) (LZ tk)) w1 (HTQ.out _ _ _ _ HTV.out hT) P78.out HAD.out).mono fun e w' h => (by obtain ⟨v, he, hb', hv⟩ := h; exact ⟨v, he, HTB.out _ _ hT hb', hv⟩))
            clear hb hdep hold
            go_simp
          · intro x w1 bA hT hdep hold hb
            refine ⟨fun h => absurd h (by decide), fun _ hall => ?_⟩
            refine ⟨trivial, ?_⟩
            have e13 : bA.tmps[13]?.getD undef = .pointer (some ⟨B13, 0, none⟩) := hb 13
            have e79 : bA.tmps[79]?.getD undef = x 16 := hb 79
            have p66 := Lib.hid (show (fun v w => QL w v [(0, tc)]) (x 3) w1 from hall 3 (by decide))
            have p70 := Lib.hid (show (fun v w => QL w v (LA ta)) (x 7) w1 from hall 7 (by decide))
            have p71 := Lib.hid (show (fun v w => QL w v (prs [(0, tc)] (LA ta))) (x 8) w1 from hall 8 (by decide))
            have p77 := Lib.hid (show (fun v w => QL w v (LZ tk)) (x 14) w1 from hall 14 (by decide))
            have p78 := Lib.hid (show (fun v w => QL w v (prs (prs [(0, tc)] (LA ta)) (LZ tk))) (x 15) w1 from hall 15 (by decide))
            have p79 := Lib.hid (show (fun v w => QL w v (TL ++ prs (prs [(0, tc)] (LA ta)) (LZ tk))) (x 16) w1 from hall 16 (by decide))
            clear hb hdep hold
            obtain ⟨Az2, nz2, cz2, e79b⟩ := p79.out.form
            rw [e79b] at e79
            have HPV := Lib.hid (e79b ▸ p79.out)
            have q5 := (HTG.out _ hT).1
            have Q5b := Lib.hid q5
            have f0 := q5.frozen 0
            have f1 := q5.frozen 1
            have c0 := q5.cell 0
            have c1 := q5.cell 1
            have HBL := Lib.hid hT
            clear q5 e79b p66 p70 p71 p77 p78 p79 hT
            refine phx_st (R := fun W => ∃ (A : Option Addr) (n c : Nat), Arr W B13 34 [.bool false, .slice A n c] ∧ QL W (.agg #[.bool false, .slice A n c]) (TL ++ prs (prs [(0, tc)] (LA ta)) (LZ tk)) ∧ ∃ W1, TT w5 W1 ∧ ∃ u1 u2, W = (W1.setCell ⟨B13, 0, none⟩ u1).setCell ⟨B13, 1, none⟩ u2) ((w1.setCell ⟨B13, 0, none⟩ (.bool false)).setCell ⟨B13, 1, none⟩ (.slice Az2 nz2 cz2)) ?_ rfl ⟨Az2, nz2, cz2, (Q5b.out.set 0 _).set 1 _, HPV.out.box Q5b.out _ _, w1, HBL.out, _, _, rfl⟩
            go_simp
          intro x w1 hR
          simp only [putAll, dstOf, Act.put, List.map_cons, List.map_nil, List.setIfInBounds_toArray, List.set_cons_succ, List.set_cons_zero, Nat.reduceAdd]
          obtain ⟨An, nn, cn, h1, h2, W1, h3, u1, u2, h4⟩ := hR
          have HF := Lib.hid (show Arr w1 w.heap.size 29 [.bool false, .slice (some ⟨b, o', none⟩) l.length c] ∧ Arr w1 (w.heap.size + 3) 34 [.bool false, .slice none 0 0] ∧ Arr w1 B13 34 [.bool false, .slice An nn cn] ∧ QL w1 (.agg #[.bool false, .slice An nn cn]) (setL LA (LKz LZ K) (l.take (i + 1))) ∧ S [w.heap.size + 3, B13] w1 ∧ Below w.heap.size w w1 from by
            have g13 := (HTG.out W1 h3).1
            have s3 := (HTS.out W1 h3).1
            have hTT := HTT.out
            subst hTT
            have kh : ∀ k, k ≠ B13 → w1.heap[k]? = W1.heap[k]? := fun k hk => by
              rw [h4]
              exact (Below.heap_setCell _ ⟨B13, 1, none⟩ u2 k hk).trans (Below.heap_setCell W1 ⟨B13, 0, none⟩ u1 k hk)
            have hg := HG13.out
            have s4 : S [w.heap.size + 3, B13, B15] w1 := by
              rw [h4]
              exact HJJ.out.s2 _ _ B13 1 u2 _ (HJJ.out.s2 _ _ B13 0 u1 _ s3 (by simp) g13) (by simp) (g13.set 0 u1)
            refine ⟨(kh w.heap.size (by omega)).trans ((h3.ty _ _ _ _ RP.out (by decide) (by decide)).trans RP.out), (kh (w.heap.size + 3) (by omega)).trans (KT.arr RR.out h3 (by simp)), h1, by rw [HNX.out]; exact h2, HJJ.out.s1 _ _ _ _ s4 (Below.refl _ _) fun k hk => .inl ?_, ?_⟩
            · simp only [List.mem_cons, List.not_mem_nil, or_false] at hk ⊢
              rcases hk with rfl | rfl
              · exact .inl rfl
              · exact .inr (.inl rfl)
            · rw [h4]
              exact ((RB.out.trans h3.bel).setCell (p := ⟨B13, 0, none⟩) (by show w.heap.size ≤ B13; omega) u1).setCell (p := ⟨B13, 1, none⟩) (by show w.heap.size ≤ B13; omega) u2)
          have BG := Lib.hid (show Calls Tryz.prog 20 #[.agg #[.bool false, .slice An nn cn]] w1 fun e w' => e = .returned (.bool false) ∧ Below w1.heap.size w1 w' from by
            obtain ⟨l', e1, _⟩ := HF.out.2.2.2.1
            exact Big_any _ _ w1 e1)
          have c0 := h1.cell 0
          have c1 := h1.cell 1
          clear h1 h2 h3 h4 HTB HT0 HTR HTQ HTS HTG HTV HCA HCZ RP RR RB RZ HTT H15 HLW HSB
          go_wp2_with fail
          refine BG.out.mono ?_
          rintro e w6 ⟨rfl, hb6⟩
          have HF6 := Lib.hid (show ∃ (At : Option Addr) (nt ct : Nat), Arr w6 w.heap.size 29 [.bool false, .slice (some ⟨b, o', none⟩) l.length c] ∧ Arr w6 (w.heap.size + 3) 34 [.bool false, .slice none 0 0] ∧ Arr w6 B13 34 [.bool false, .slice At nt ct] ∧ QL w6 (.agg #[.bool false, .slice At nt ct]) (setL LA (LKz LZ K) (l.take (i + 1))) ∧ S [w.heap.size + 3, B13] w6 ∧ Below w.heap.size w w6 from
            ⟨An, nn, cn, HF.out.1.below hb6 HF.out.1.lt, HF.out.2.1.below hb6 HF.out.2.1.lt, HF.out.2.2.1.below hb6 HF.out.2.2.1.lt, HF.out.2.2.2.1.below hb6, HJJ.out.s1 _ _ _ _ HF.out.2.2.2.2.1 hb6 fun k hk => .inl hk, HF.out.2.2.2.2.2.trans (hb6.mono HF.out.2.2.2.2.2.size)⟩)
          clear BG c0 c1 hb6 HF
          go_wp2_with fail
          go_roundg (l.length - (i + 1))
          case measure => omega
          case rel => exact ⟨i + 1, by omega, rfl, by go_num, HF6⟩
        · have z1 : ¬ (i : Int) < (l.length : Int) := by omega
          have hkk : l.take i = l := List.take_of_length_le (by omega)
          rw [hkk] at rq
          have RR := Lib.hid rr
          have RT := Lib.hid rt
          have RQ := Lib.hid rq
          have RS' := Lib.hid rs
          have RB := Lib.hid rb
          have c0 := rt.cell 0
          have c1 := rt.cell 1
          by_cases hK0 : K = 0
          · have f0 := rr.frozen 0
            have f1 := rr.frozen 1
            have r0 := rr.cell 0
            have r1 := rr.cell 1
            have HQ := Lib.hid (rq.box rr (.bool false) (.slice At nt ct))
            have hres := Lib.hid ((rr.set 0 (.bool false)).set 1 (.slice At nt ct))
            have HBL := Lib.hid ((rb.setCell (p := ⟨w.heap.size + 3, 0, none⟩) (by simp) (.bool false)).setCell (p := ⟨w.heap.size + 3, 1, none⟩) (by simp) (.slice At nt ct))
            have HGG := Lib.hid (HG0.out hK0)
            have zK : (K == 0) = true := by simp [hK0]
            clear rp rr rt rq rs rb hkk hK0
            go_wp2_with fail
            refine bodyPost_ret (v := .tuple #[.agg #[.bool false, .slice At nt ct], .int .i64 0]) (results_ct Tryz.results10 _ _ (w.heap.size + 3) 34 _ _ rfl hres.out Tryz.underlying34 rfl info_poly) rfl ?_
            exact ⟨HBL.out, .inl ⟨At, nt, ct, _, rfl, HQ.out, HGG.out⟩⟩
          · have zK : (K == 0) = false := by simp [hK0]
            have hKp : 0 < K := by omega
            have HCZ := Lib.hid (HJJ.out.cZ' [w.heap.size + 3, B13] K wr HOKK.out rs rb.size)
            have eg := HJJ.out.nZ
            clear rp rr rt rq rs rb hkk hK0 c0 c1
            go_wp2_with fail
            refine HCZ.out.mono ?_
            rintro e w6 ⟨v16, rfl, hq16, hkt⟩
            have RR6 := Lib.hid (KT.arr RR.out hkt (by simp))
            have RT6 := Lib.hid (KT.arr RT.out hkt (by simp))
            have RQ6 := Lib.hid (KT.ql RQ.out hkt)
            have RB6 := Lib.hid (RB.out.trans hkt.bel)
            obtain ⟨A16, n16, c16, e16⟩ := hq16.form
            subst e16
            have HQ16 := Lib.hid hq16
            clear HCZ eg RR RT RQ RB RS' hkt hq16
            have hW : ∀ W, W = w6.alloc (.cells #[.bool false, .slice A16 n16 c16] 34) → Arr W w6.heap.size 34 [.bool false, .slice A16 n16 c16] ∧ Arr W (w.heap.size + 3) 34 [.bool false, .slice none 0 0] ∧ Arr W B13 34 [.bool false, .slice At nt ct] ∧ QL W (.agg #[.bool false, .slice At nt ct]) (setL LA (LKz LZ K) l) ∧ QL W (.agg #[.bool false, .slice A16 n16 c16]) (LZ K) ∧ Below w.heap.size w W := by
              intro W hW
              subst hW
              have hb : Below w6.heap.size w6 (w6.alloc (.cells #[.bool false, .slice A16 n16 c16] 34)) := (Below.refl _ _).alloc (Nat.le_refl _) _
              exact ⟨Arr.new _ _ [_, _], RR6.out.alloc _, RT6.out.alloc _, RQ6.out.below hb, HQ16.out.below hb, RB6.out.trans (hb.mono RB6.out.size)⟩
            go_upto_region 23 with fail
            generalize w6.alloc (.cells #[.bool false, .slice A16 n16 c16] 34) = w7 at hW ⊢
            generalize w6.heap.size = B16 at hW ⊢
            obtain ⟨a16, ar, at13, hqt, hq16, hb7⟩ := hW w7 rfl
            have BG := Lib.hid (show Calls Tryz.prog 20 #[.agg #[.bool false, .slice A16 n16 c16]] w7 fun e w' => e = .returned (.bool false) ∧ Below w7.heap.size w7 w' from by
              obtain ⟨l', e1, _⟩ := hq16
              exact Big_any _ _ w7 e1)
            have b0 := a16.cell 0
            have b1 := a16.cell 1
            have A16' := Lib.hid a16
            have AR := Lib.hid ar
            have AT := Lib.hid at13
            have HQT := Lib.hid hqt
            have HQ7 := Lib.hid hq16
            have HB7 := Lib.hid hb7
            clear hW a16 ar at13 hqt hq16 hb7 RR6 RT6 RQ6 RB6 HQ16
            go_wp2_with fail
            refine BG.out.mono ?_
            rintro e w8 ⟨rfl, hb8⟩
            have A16b := Lib.hid (A16'.out.below hb8 A16'.out.lt)
            have AR8 := Lib.hid (AR.out.below hb8 AR.out.lt)
            have AT8 := Lib.hid (AT.out.below hb8 AT.out.lt)
            have HQT8 := Lib.hid (HQT.out.below hb8)
            have HQ8 := Lib.hid (HQ7.out.below hb8)
            have HB8 := Lib.hid (HB7.out.trans (hb8.mono HB7.out.size))
            clear BG b0 b1 A16' AR AT HQT HQ7 HB7 hb8
            have b0 := A16b.out.cell 0
            have b1 := A16b.out.cell 1
            have c0 := AT8.out.cell 0
            have c1 := AT8.out.cell 1
            have HD := Lib.hid (HDV.out _ _ w8 hKp HQT8.out HQ8.out)
            clear hKp
            go_wp2_with fail
            refine HD.out.mono ?_
            rintro e w9 ⟨hb9, h9⟩
            have AR9 := Lib.hid (AR8.out.below hb9 AR8.out.lt)
            have HB9 := Lib.hid (HB8.out.trans (hb9.mono HB8.out.size))
            clear HD b0 b1 c0 c1 A16b AT8 HQT8 HQ8 AR8 HB8 hb9
            rcases h9 with ⟨A17, n17, c17, RL, rfl, hq17, hgood⟩ | ⟨rfl, hbad⟩
            · have HG := Lib.hid hgood
              have hW : ∀ W, W = w9.alloc (.cells #[.bool false, .slice A17 n17 c17] 34) → Arr W w9.heap.size 34 [.bool false, .slice A17 n17 c17] ∧ Arr W (w.heap.size + 3) 34 [.bool false, .slice none 0 0] ∧ QL W (.agg #[.bool false, .slice A17 n17 c17]) RL ∧ Below w.heap.size w W := by
                intro W hW
                subst hW
                have hb : Below w9.heap.size w9 (w9.alloc (.cells #[.bool false, .slice A17 n17 c17] 34)) := (Below.refl _ _).alloc (Nat.le_refl _) _
                exact ⟨Arr.new _ _ [_, _], AR9.out.alloc _, hq17.below hb, HB9.out.trans (hb.mono HB9.out.size)⟩
              clear hgood hq17
              go_upto_region 26 with fail
              generalize w9.alloc (.cells #[.bool false, .slice A17 n17 c17] 34) = w10 at hW ⊢
              generalize w9.heap.size = B17 at hW ⊢
              obtain ⟨a17, ar, hq17, hb10⟩ := hW w10 rfl
              have b0 := a17.cell 0
              have b1 := a17.cell 1
              have f0 := ar.frozen 0
              have f1 := ar.frozen 1
              have r0 := ar.cell 0
              have r1 := ar.cell 1
              have HQ := Lib.hid (hq17.box ar (.bool false) (.slice A17 n17 c17))
              have hres := Lib.hid ((ar.set 0 (.bool false)).set 1 (.slice A17 n17 c17))
              have HBL := Lib.hid ((hb10.setCell (p := ⟨w.heap.size + 3, 0, none⟩) (by simp) (.bool false)).setCell (p := ⟨w.heap.size + 3, 1, none⟩) (by simp) (.slice A17 n17 c17))
              clear hW a17 ar hq17 hb10 AR9 HB9
              go_wp2_with fail
              refine bodyPost_ret (v := .tuple #[.agg #[.bool false, .slice A17 n17 c17], .int .i64 0]) (results_ct Tryz.results10 _ _ (w.heap.size + 3) 34 _ _ rfl hres.out Tryz.underlying34 rfl info_poly) rfl ?_
              exact ⟨HBL.out, .inl ⟨A17, n17, c17, RL, rfl, HQ.out, HG.out⟩⟩
            · have HBD := Lib.hid hbad
              have hW : ∀ W, W = w9.alloc (.cells #[.bool false, .slice none 0 0] 34) → Arr W (w.heap.size + 3) 34 [.bool false, .slice none 0 0] ∧ Below w.heap.size w W := by
                intro W hW
                subst hW
                exact ⟨AR9.out.alloc _, HB9.out.alloc HB9.out.size _⟩
              clear hbad
              go_upto_region 26 with fail
              generalize w9.alloc (.cells #[.bool false, .slice none 0 0] 34) = w10 at hW ⊢
              obtain ⟨ar, hb10⟩ := hW w10 rfl
              have f0 := ar.frozen 0
              have f1 := ar.frozen 1
              have r0 := ar.cell 0
              have r1 := ar.cell 1
              have hres := Lib.hid ((ar.set 0 (.bool false)).set 1 (.slice none 0 0))
              have HBL := Lib.hid ((hb10.setCell (p := ⟨w.heap.size + 3, 0, none⟩) (by simp) (.bool false)).setCell (p := ⟨w.heap.size + 3, 1, none⟩) (by simp) (.slice none 0 0))
              clear hW ar hb10 AR9 HB9
              go_wp2_with fail
              refine bodyPost_ret (v := .tuple #[.agg #[.bool false, .slice none 0 0], .int .i64 10]) (results_ct Tryz.results10 _ _ (w.heap.size + 3) 34 _ _ rfl hres.out Tryz.underlying34 rfl info_poly) rfl ?_
              exact ⟨HBL.out, .inr ⟨rfl, HBD.out⟩⟩
end Go.Proofs.YtnmidhlghhephaaGreatDoor

namespace Go.Proofs.YtnmidhlghhephaaGreatDoor
open Go.RowKit
set_option linter.unusedVariables false
theorem cvF_bq {F : Int → Int} {B : Nat} (h : ∀ e, (F e).natAbs ≤ B) : ∀ (q : List (Int × Int)) (e : Int), (cvF F q e).natAbs ≤ B * asum1 q
  | [], e => by simp [cvF]
  | t :: q, e => by
    have h1 := cvF_bq h q e
    have h2 : (t.2 * F (e - t.1)).natAbs ≤ t.2.natAbs * B := by rw [Int.natAbs_mul]; exact Nat.mul_le_mul_left _ (h _)
    rw [cvF, asum1, Nat.mul_add, Nat.mul_comm B t.2.natAbs]
    have := Int.natAbs_add_le (t.2 * F (e - t.1)) (cvF F q e)
    omega
theorem zk_asum {k : Nat} (h : k ≤ 3) : asum1 (zk k) ≤ 8 := by
  rcases (show k = 0 ∨ k = 1 ∨ k = 2 ∨ k = 3 by omega) with rfl | rfl | rfl | rfl <;> decide
theorem zk_low {k : Nat} (h : k ≤ 3) : lowL (zk k) = -(k : Int) ∧ highL (zk k) = (k : Int) := by
  rcases (show k = 0 ∨ k = 1 ∨ k = 2 ∨ k = 3 by omega) with rfl | rfl | rfl | rfl <;> exact ⟨rfl, rfl⟩
theorem zk_len {k : Nat} (h : k ≤ 3) (h0 : k ≠ 0) : 2 ≤ (zk k).length ∧ ∀ h : 0 < (zk k).length, (zk k)[0].2 = 1 := by
  rcases (show k = 1 ∨ k = 2 ∨ k = 3 by omega) with rfl | rfl | rfl <;> exact ⟨by decide, fun _ => rfl⟩
/-- the exact quotient -/
def QuL (k : Nat) (P L : List T1) : Prop := ∀ e, cvF (cf L) (zk k) e = cf P e
def QuN (k : Nat) (P : List T1) : Prop := ¬ ∃ L : List T1, QuL k P L
theorem fsup (L : List T1) : ∃ lo hi : Int, ∀ t ∈ L, lo ≤ t.1 ∧ t.1 ≤ hi := by
  induction L with
  | nil => exact ⟨0, 0, fun t h => by cases h⟩
  | cons s L ih =>
    obtain ⟨lo, hi, h⟩ := ih
    refine ⟨min lo s.1, max hi s.1, fun t ht => ?_⟩
    rcases List.mem_cons.1 ht with rfl | ht
    · omega
    · have := h t ht; omega
theorem DivQ {P : List T1} (k : Nat) (hk : k ≤ 3) (v1 v2 : Value) (w : World) (h1 : QL w v1 P) (h2 : QL w v2 (zk k)) (hE : Eb1 30 P) (hM : asum1 P ≤ 1000000) :
    Calls Tryz.prog 12 #[v1, v2] w (DvA (QuL k P) (QuN k P) w) := by
  obtain ⟨p, hp, cp, lp, ep⟩ := h1
  obtain ⟨q, hq, cq, lq, eq⟩ := h2
  have hqz : q = zk k := cq.ext (zk_can hk) eq
  subst hqz
  have fin : ∀ (v : Value) (L : List T1) (w' : World), Below w.heap.size w w' → PolyV w' v (some L) → Can L → Lim L → QuL k P L → DvA (QuL k P) (QuN k P) w (.returned (.tuple #[v, .int .i64 0])) w' := fun v L w' hb hv cL lL hL => by
    obtain ⟨b, A, n, c, rfl, j, _⟩ := hv.parts
    have j : b = false := j
    subst j
    exact ⟨hb, .inl ⟨A, n, c, L, rfl, ⟨L, hv, cL, lL, fun e => rfl⟩, hL⟩⟩
  by_cases hz : p = []
  · subst hz
    refine (Div_zero v1 v2 (zk k) w hp hq (by rcases (show k = 0 ∨ k = 1 ∨ k = 2 ∨ k = 3 by omega) with rfl | rfl | rfl | rfl <;> decide) (lq.len cq)).mono ?_
    rintro e w' ⟨v, rfl, hb, hv⟩
    exact fin v [] w' hb hv cp lp fun e => by rw [← ep e]; exact cvF_zero_of fun t _ => rfl
  · have hnp : 0 < p.length := List.length_pos_iff.2 hz
    by_cases hk0 : k = 0
    · subst hk0
      refine (Div_one v1 v2 p w hp hq lp cp hnp).mono ?_
      rintro e w' ⟨v, rfl, hb, hv⟩
      exact fin v p w' hb hv cp lp fun e => by rw [cvF_one, ep]
    · obtain ⟨z1, z2⟩ := zk_low hk
      obtain ⟨g1, g2⟩ := zk_len hk hk0
      have hin : ∀ t ∈ p, -30 ≤ t.1 ∧ t.1 ≤ 30 := fun t ht => by
        obtain ⟨s, hs, e1⟩ := cf_ne (l := P) (e := t.1) (by rw [← ep]; exact cp.ne ht)
        have := hE s hs
        omega
      have hlo : -30 ≤ lowL p ∧ lowL p ≤ 30 := by rw [lowL_0 hnp]; exact hin _ (List.getElem_mem _)
      have hhi : -30 ≤ highL p ∧ highL p ≤ 30 := by rw [highL_0 hnp]; exact hin _ (List.getElem_mem _)
      have p0 : ∀ e, e < lowL p → cf p e = 0 := fun e he => cf_out fun t ht => by have := lowL_le cp.srt t ht; omega
      have p1 : ∀ e, highL p < e → cf p e = 0 := fun e he => cf_out fun t ht => by have := highL_ge cp.srt t ht; omega
      have pb : ∀ e, (cf p e).natAbs ≤ 1000000 := fun e => by rw [ep]; exact Nat.le_trans (cf_asum P e) hM
      have small : ∀ i : Nat, (i : Int) ≤ highL p - lowL p - (k - -k) → -262144000000 ≤ RS (cf p) (lowL p) (-(k : Int)) (zk k) i (lowL p + i) ∧ RS (cf p) (lowL p) (-(k : Int)) (zk k) i (lowL p + i) ≤ 262144000000 := fun i hi => by
        have h := RS_small (P := cf p) (M := 1000000) (lp := lowL p) (E := lowL p + k + (i + 1 : Nat)) (D := 64) hk p0 (by decide) (fun e _ => by have := pb e; omega) (by omega) (i + 1) (Int.le_refl _) i (by omega)
        have h64 : ((64 : Nat) : Int) ^ k * 1000000 ≤ 262144000000 := by
          rcases (show k = 0 ∨ k = 1 ∨ k = 2 ∨ k = 3 by omega) with rfl | rfl | rfl | rfl <;> decide
        omega
      have rbd : ∀ (n : Nat), (n : Int) ≤ highL p - lowL p - (k - -k) + 1 → ∀ e, (cf (rL (cf p) (lowL p) (-(k : Int)) (zk k) n) e).natAbs ≤ 262144000000 := fun n hn e => by
        by_cases h0 : cf (rL (cf p) (lowL p) (-(k : Int)) (zk k) n) e = 0
        · rw [h0]; decide
        · obtain ⟨t, ht, e1⟩ := cf_ne h0
          have e2 := cf_mem (rL_can (P := cf p) (lp := lowL p) (lq := -(k : Int)) (q := zk k) n).srt ht
          obtain ⟨_, _, i, hi, e3⟩ := rL_mem n t ht
          rw [← e1, e2, e3]
          have := small i (by omega)
          simp only
          omega
      have z12 : highL p - lowL p - (highL (zk k) - lowL (zk k)) = highL p - lowL p - (k - -k) := by rw [z1, z2]
      have hD := Div_many v1 v2 p (zk k) w hp hq lp cp lq cq hnp g1 (g2 _)
        (fun i hi => by rw [z1]; have := small i (by omega); omega)
        (fun i e hi => by
          rw [z1, RS_eq]
          have b1 := cvF_bq (rbd i (by omega)) (zk k) e
          have b2 := Nat.le_trans b1 (Nat.mul_le_mul_left _ (zk_asum hk))
          have b3 := pb e
          omega)
        (fun i hi => by rw [z1]; omega)
      refine hD.mono ?_
      rintro e w' ⟨hb, h⟩
      rw [z1, z2] at h
      rcases h with ⟨s, v, hs, hrest, rfl, hv⟩ | ⟨rfl, h⟩
      · refine fin v _ w' hb hv (rL_can _) ⟨fun t ht => ?_, fun t ht => ?_⟩ fun e => ?_
        · obtain ⟨_, _, i, hi, e3⟩ := rL_mem _ t ht
          have := small i (by omega)
          rw [e3]; simp only; omega
        · obtain ⟨a1, a2, _⟩ := rL_mem _ t ht
          omega
        · rw [← ep]
          exact div_yes (zk_beg hk) (zk_fin hk) p0 p1 hs hrest e
      · refine ⟨hb, .inr ⟨rfl, fun ⟨L, hL⟩ => ?_⟩⟩
        obtain ⟨lo, hi, hlh⟩ := fsup L
        have f0 : ∀ e, e < lo → cf L e = 0 := fun e he => cf_out fun t ht => by have := hlh t ht; omega
        have f1 : ∀ e, hi < e → cf L e = 0 := fun e he => cf_out fun t ht => by have := hlh t ht; omega
        have hP : ∀ e, cvF (cf L) (zk k) e = cf p e := fun e => by rw [hL e, ep]
        rcases h with h | ⟨s, j, hs, hsj, hj, hne⟩
        · have hzz := div_short (zk_beg hk) (zk_fin hk) p1 f0 f1 hP p0 h
          apply hz
          refine cp.ext Can.nil fun e => ?_
          rw [← hP e]
          exact cvF_zero_of fun t _ => hzz _
        · exact hne ((div_all (zk_beg hk) (zk_fin hk) p1 f0 f1 hP p0 hs).2 _)
end Go.Proofs.YtnmidhlghhephaaGreatDoor

namespace Go.Proofs.YtnmidhlghhephaaGreatDoor
open Go.RowKit
set_option linter.unusedVariables false
/-- multiplied n times by z -/
def itZ : Nat → (Int → Int) → Int → Int
  | 0, F => F
  | n + 1, F => itZ n (cvF F (zk 1))
theorem itZ_add : ∀ (m j : Nat) (F : Int → Int), itZ (m + j) F = itZ j (itZ m F)
  | 0, j, F => by rw [Nat.zero_add]; rfl
  | m + 1, j, F => by rw [show m + 1 + j = m + j + 1 by omega, itZ, itZ, itZ_add m j]
theorem itZ_powL : ∀ (n : Nat) (F : Int → Int), cvF F (powL (zk 1) n) = itZ n F
  | 0, F => funext fun e => cvF_one F e
  | n + 1, F => by
    rw [itZ, ← itZ_powL n]
    funext e
    rw [powL, cvF_prs]
theorem itZ_zk : ∀ (k : Nat), k ≤ 3 → ∀ (F : Int → Int), cvF F (zk k) = itZ k F
  | 0, _, F => funext fun e => cvF_one F e
  | k + 1, h, F => by
    rw [itZ, ← itZ_zk k (by omega)]
    funext e
    rw [zk_succ (by omega)]
theorem powL_zk {k : Nat} (h : k ≤ 3) (e : Int) : cf (powL (zk 1) k) e = cf (zk k) e := by
  have h1 : ∀ q : List T1, cf q e = cvF (cf [(0, 1)]) q e := fun q => by
    have := cvF_single (0, 1) q e
    simp only at this
    have h2 : cvF (cf [(0, 1)]) q e = cvF (fun e => if (0 : Int) = e then 1 else 0) q e := congrFun (congrFun (congrArg cvF (funext fun x => cf_one (0, 1) x)) q) e
    rw [h2, this, Int.sub_zero, Int.one_mul]
  rw [h1, h1, itZ_powL, itZ_zk k h]
theorem asum1_pz (n : Nat) : asum1 (powL (zk 1) n) = 2 ^ n := asum1_powL _ n
theorem Eb1_pz (n : Nat) : Eb1 n (powL (zk 1) n) := by
  have h : Eb1 1 (zk 1) := fun t ht => by simp [zk] at ht; rcases ht with rfl | rfl <;> decide
  have := h.powL n
  rwa [Nat.mul_one] at this
/-- the exponents of the law's polynomials -/
def Sm7 (l : List T2) (K : Int) : Prop := ∀ t ∈ l, -6 ≤ t.1.1 ∧ t.1.1 ≤ 6 ∧ 0 ≤ t.1.2 + K ∧ t.1.2 + K ≤ 7
theorem setT_asum {t : T2} {K : Int} (h0 : 0 ≤ t.1.2 + K) (h1 : t.1.2 + K ≤ 7) : asum1 (setT (LAu 3 1) (LKz (LZp (zk 1)) K) t) ≤ 128 * t.2.natAbs := by
  unfold setT LKz LZp
  rw [asum1_prs, asum1_prs, asum1_LAu (.inl rfl), asum1_pz]
  have e1 : asum1 [((0 : Int), t.2)] = t.2.natAbs := by unfold asum1; unfold asum1; rfl
  rw [e1, Nat.mul_one, Nat.mul_comm]
  exact Nat.mul_le_mul_right _ (Nat.le_trans (Nat.pow_le_pow_right (by decide) (show (t.1.2 + K).toNat ≤ 7 by omega)) (by decide))
theorem setL_asum {K : Int} : ∀ (l : List T2), Sm7 l K → asum1 (setL (LAu 3 1) (LKz (LZp (zk 1)) K) l) ≤ 128 * asum2 l
  | [], _ => Nat.zero_le _
  | t :: l, h => by
    obtain ⟨_, _, h3, h4⟩ := h t (List.mem_cons_self ..)
    have h1 := setT_asum h3 h4
    have h2 := setL_asum l (fun s hs => h s (List.mem_cons_of_mem _ hs))
    rw [show setL (LAu 3 1) (LKz (LZp (zk 1)) K) (t :: l) = setT (LAu 3 1) (LKz (LZp (zk 1)) K) t ++ setL (LAu 3 1) (LKz (LZp (zk 1)) K) l from rfl, asum1_append, asum2, Nat.mul_add]
    omega
theorem setL_eb {K : Int} {l : List T2} (h : Sm7 l K) : Eb1 30 (setL (LAu 3 1) (LKz (LZp (zk 1)) K) l) := fun u hu => by
  obtain ⟨t, ht, hut⟩ := List.mem_flatMap.1 hu
  obtain ⟨a1, a2, a3, a4⟩ := h t ht
  unfold setT LKz LZp at hut
  obtain ⟨s, hs, v, hv, rfl⟩ := prs_mem hut
  obtain ⟨s1, hs1, s2, hs2, rfl⟩ := prs_mem hs
  have g := Eb1_pz _ v hv
  rw [List.mem_singleton.1 hs1]
  unfold LAu at hs2
  rw [List.mem_singleton.1 hs2]
  simp only
  omega
set_option maxHeartbeats 1000000 in
theorem SetQ (vp va vz : Value) (l : List T2) (w : World) (hp : PolyB w vp (some l)) (ha : PolyV w va (some [(3, 1)])) (hz : PolyV w vz (some [(-1, 1), (1, -1)])) (lp : Lim2 l) (kp : Can2 l) (hl : l.length ≤ 10000) (hb : ∀ t ∈ l, -6 ≤ t.1.1 ∧ t.1.1 ≤ 6 ∧ -3 ≤ t.1.2 ∧ t.1.2 ≤ 4) (hK3 : kmx l ≤ 3) (hs : asum2 l ≤ 7000) :
    Calls Tryz.prog 10 #[vp, va, vz] w (DvA (QuL (kmx l).toNat (setL (LAu 3 1) (LKz (LZp (zk 1)) (kmx l)) l)) (QuN (kmx l).toNat (setL (LAu 3 1) (LKz (LZp (zk 1)) (kmx l)) l)) w) := by
  have hnn : ∀ t ∈ l, -1000 ≤ t.1.2 ∧ t.1.2 ≤ 1000 := fun t ht => by have := hb t ht; omega
  have hk0 := (kmx_bd l hnn).1
  have hge := kmx_ge l hnn
  obtain ⟨K, hK⟩ : ∃ K, K = kmx l := ⟨_, rfl⟩
  rw [← hK] at hk0 hge hK3 ⊢
  have h7 : Sm7 l K := fun t ht => by have := hb t ht; have := hge t ht; omega
  have oka := okP_one (ea := 3) (.inl rfl) (by decide)
  have okz : okP (some (zk 1)) := ⟨zk_can (by decide), zk_lim (by decide)⟩
  have hsum := setL_asum l h7
  have h1 : Eb1 1 (zk 1) := fun t ht => by simp [zk] at ht; rcases ht with rfl | rfl <;> decide
  have hea : -1048576 ≤ (3 : Int) ∧ (3 : Int) ≤ 1048576 := by decide
  refine Set_walkN vp va vz l [(3, 1)] (zk 1) w K _ _ (PsA w va) (PsZ w (zk 1)) (LAu 3 1) (LZp (zk 1)) (fun n => (-1000000000 ≤ n ∧ n ≤ 1000000000) ∧ -1048576 ≤ 3 * n ∧ 3 * n ≤ 1048576) (fun n => 0 ≤ n ∧ n ≤ 7) hp ha hz oka (unitP_one (.inl rfl)) lp kp hl hnn hK ⟨hk0, by omega⟩ (fun h0 => ?_) (fun v1 v2 W _ q1 q2 => ?_) (psA_any va 3 1 w ha oka) (psZ_any vz (zk 1) w hz okz (by decide) (by decide)) (psA_keep w va) (psZ_keep w (zk 1)) ?_ (fun t ht => ?_) (fun t ht => ?_) (fun t ht => ?_) (fun t ht => ?_) (fun t ht => by rw [asum1_LAu (.inl rfl)]; exact Nat.le_refl _) (fun t ht => ?_) (by omega)
  · subst h0
    exact fun e => cvF_one _ e
  · exact DivQ K.toNat (by omega) v1 v2 W q1 (q2.congr fun e => by unfold LZp; exact powL_zk (by omega) e) (setL_eb h7) (by omega)
  · rintro fA fZ W ⟨am, Ba, hva, rfl, h3, h4, h5⟩ ⟨zm, Bk, Bz, g, m, rfl, k2, k3, k4, k5⟩
    refine ⟨_, _, _, _, _, SAZ w Ba am Bk Bz zm (zk 1), ⟨rfl, rfl, SAZ.s1, SAZ.s2, enters_of Tryz.func48 (by kernel_rfl) rfl, enters_of Tryz.func50 (by kernel_rfl) rfl, ?_, ?_⟩, ?_⟩
    · intro G n W' hn hS' hsz
      refine (pow1_any Ba am.2.1 am.2.2 am.1 3 1 n W' hS'.2.1 (by rw [← hva]; exact ha.below hS'.1) (.inl rfl) hn.1 hea hn.2).mono ?_
      rintro e w' ⟨v, he, hb, hv⟩
      have hd := pwU_bd (c := 1) (.inl rfl) n
      exact ⟨v, he, ⟨_, hv, (okP_one hd ⟨by have := hn.2; omega, by have := hn.2; omega⟩).1, (okP_one hd ⟨by have := hn.2; omega, by have := hn.2; omega⟩).2, fun e => rfl⟩, KT.of_below (fun a b h hb => SAZ.s1 G G a b h hb fun k hk => .inl hk) hb hsz⟩
    · intro G n W' hn hS' hsz
      obtain ⟨h1', h2, s, ms, q3, q4, q5, q6⟩ := hS'
      have hnt : (n.toNat : Int) = n := Int.toNat_of_nonneg hn.1
      have hle : n.toNat ≤ 7 := by omega
      have := pow2_any Bk Bz (Bz + 1) zm (zk 1) s ms n.toNat W' q3 (by omega) q4 (S := 0) (fun i hi => by
        rw [show asum1 (zk 1) = 2 from rfl]
        exact Nat.le_trans (Nat.pow_le_pow_right (by decide) (show i ≤ 7 by omega)) (by decide)) h1 (by omega) (by omega) (by have := q3.bz.lt; omega)
      rw [hnt] at this
      refine this.mono ?_
      intro e w' hr
      exact SAZ.pow2 (by omega) h1' h2 q3 q5 q6 hr
    · have hgl := k2.own.lt g rfl
      refine ⟨h5, h4, _, _, k2, by simp, fun e => ?_, fun k hk => ?_⟩
      · have e1 : g = Ba := by simpa [Value.ownBlock] using e
        subst e1
        have c1 := (k2.at_ (k := 0) (by simp)).2
        have c2 := h4.cell 1
        simp only [Nat.zero_mul, Nat.zero_add, List.getElem_cons_zero] at c1
        have c3 : W.cell? ⟨g, 1, none⟩ = some (.slice am.1 am.2.1 am.2.2) := c2
        rw [c3] at c1
        injection c1 with c1
        have hq := k2.el 0 (by simp)
        simp only [List.getElem_cons_zero] at hq
        rw [← c1, ← hva] at hq
        obtain ⟨l', q1, q2, q3, q4⟩ := hq
        have := q1.inj (ha.below h5)
        subst this
        have h1 := q4 3
        rw [cf_one, if_pos rfl] at h1
        have h2 : cf (powL (zk 1) 0) 3 = 0 := by
          show cf [(0, 1)] 3 = 0
          rw [cf_one, if_neg (by decide)]
        rw [h2] at h1
        cases h1
      · have := List.mem_singleton.1 hk
        subst this
        refine ⟨by omega, by omega, by omega, by omega, by omega, fun e => ?_⟩
        have e1 : g = w.heap.size + 3 := by simpa [Value.ownBlock] using e
        omega
  · have := hb t ht
    exact ⟨⟨by omega, by omega⟩, by omega, by omega⟩
  · have := h7 t ht
    exact ⟨by omega, by omega⟩
  · intro s hs
    have := hb t ht
    unfold LAu at hs
    rw [List.mem_singleton.1 hs]
    simp only
    omega
  · have := h7 t ht
    exact (Eb1_pz _).mono (by omega)
  · unfold LZp
    rw [asum1_pz]
    exact Nat.one_le_pow _ _ (by decide)
/-- the sum of a shorter power of z -/
theorem setL_up {K : Int} {k : Nat} (hk : k ≤ 3) (h0 : 0 ≤ K) (hKk : K ≤ k) : ∀ (c : List T2), (∀ t ∈ c, 0 ≤ t.1.2 - k + K) → ∀ e, cf (setL (LAu 3 1) (LKz (LZp (zk 1)) 0) c) e = cvF (cf (setL (LAu 3 1) (LKz (LZp (zk 1)) K) (c.map (shT 0 (-(k : Int)))))) (zk (k - K.toNat)) e
  | [], _, e => (cvF_zero_of fun t _ => rfl).symm
  | t :: c, h, e => by
    have ht := h t (List.mem_cons_self ..)
    rw [show setL (LAu 3 1) (LKz (LZp (zk 1)) 0) (t :: c) = setT (LAu 3 1) (LKz (LZp (zk 1)) 0) t ++ setL (LAu 3 1) (LKz (LZp (zk 1)) 0) c from rfl, cf_append,
      show setL (LAu 3 1) (LKz (LZp (zk 1)) K) ((t :: c).map (shT 0 (-(k : Int)))) = setT (LAu 3 1) (LKz (LZp (zk 1)) K) (shT 0 (-(k : Int)) t) ++ setL (LAu 3 1) (LKz (LZp (zk 1)) K) (c.map (shT 0 (-(k : Int)))) from rfl,
      cvF_congr (cf_append _ _), cvF_add, ← setL_up hk h0 hKk c (fun s hs => h s (List.mem_cons_of_mem _ hs)) e]
    congr 1
    unfold setT LKz LZp shT
    simp only [Int.add_zero]
    rw [cf_prs, cv, itZ_powL, cvF_congr (cf_prs _ _)]
    rw [show cv (prs [(0, t.2)] (LAu 3 1 t.1.1)) (powL (zk 1) (t.1.2 + -(k : Int) + K).toNat) = itZ (t.1.2 + -(k : Int) + K).toNat (cf (prs [(0, t.2)] (LAu 3 1 t.1.1))) from by
      rw [← itZ_powL]; rfl, itZ_zk _ (by omega), ← itZ_add]
    rw [show (t.1.2 + -(k : Int) + K).toNat + (k - K.toNat) = t.1.2.toNat by omega]
/-- the two divisions answer alike -/
theorem qu_up {k K : Nat} (hk : k ≤ 3) (hK : K ≤ k) {X T : List T1} (h : ∀ e, cf X e = cvF (cf T) (zk (k - K)) e) {L : List T1} : QuL k X L ↔ QuL K T L := by
  have e1 : ∀ e, cvF (cf L) (zk k) e = cvF (cvF (cf L) (zk K)) (zk (k - K)) e := fun e => by
    have := zk_add (k - K) K (by omega) (cf L) e
    rwa [show k - K + K = k by omega] at this
  constructor
  · intro hq
    obtain ⟨lo, hi, hlh⟩ := fsup L
    obtain ⟨lo2, hi2, hlh2⟩ := fsup T
    have f0 : ∀ e, e < min (lo - K) lo2 → cvF (cf L) (zk K) e - cf T e = 0 := fun e he => by
      rw [cf_out (l := T) fun t ht => by have := hlh2 t ht; omega, cvF_zero_of fun t ht => cf_out fun s hs => by
        have h1 := hlh s hs
        have h2 : -(K : Int) ≤ t.1 := by
          obtain ⟨q', e2, h3⟩ := zk_beg (k := K) (by omega)
          rw [e2] at ht
          rcases List.mem_cons.1 ht with rfl | ht
          · exact Int.le_refl _
          · have := h3 t ht; omega
        omega]
      rfl
    have hz : ∀ e, cvF (fun x => cvF (cf L) (zk K) x - cf T x) (zk (k - K)) e = 0 := fun e => by
      rw [cvF_sub, ← e1, hq e, h e]; omega
    intro e
    have := cvF_inj (zk_beg (k := k - K) (by omega)) f0 hz e
    omega
  · intro hq e
    rw [e1, h e]
    exact congrFun (congrFun (congrArg cvF (funext hq)) _) e
/-- the exact quotient is one -/
theorem qu_uniq {k : Nat} (hk : k ≤ 3) {P L M : List T1} (h1 : QuL k P L) (h2 : QuL k P M) (e : Int) : cf L e = cf M e := by
  obtain ⟨lo, hi, hlh⟩ := fsup (L ++ M)
  have f0 : ∀ e, e < lo → cf L e - cf M e = 0 := fun e he => by
    rw [cf_out (l := L) fun t ht => by have := hlh t (List.mem_append_left _ ht); omega, cf_out (l := M) fun t ht => by have := hlh t (List.mem_append_right _ ht); omega]; rfl
  have hz : ∀ e, cvF (fun x => cf L x - cf M x) (zk k) e = 0 := fun e => by rw [cvF_sub, h1 e, h2 e]; omega
  have := cvF_inj (zk_beg hk) f0 hz e
  omega
end Go.Proofs.YtnmidhlghhephaaGreatDoor

namespace Go.Proofs.YtnmidhlghhephaaGreatDoor
open Go.RowKit
set_option linter.unusedVariables false
def awP : List T2 := [((0, 2), -1), ((2, 0), 1)]
def awS : List T1 := setL (LAu 1 1) (LZp [(0, 1), (1, -1)]) awP
theorem awP_can : Can2 awP := ⟨by unfold awP Srt2; simp [kb], by unfold awP; simp⟩
theorem awP_lim : Lim2 awP := ⟨by unfold awP; simp, by unfold awP; simp, by unfold awP; simp⟩
theorem awS_cf (e : Int) : cf awS e = cf [(0, -1), (1, 2)] e := by
  have h : awS = [(0, -1), (1, 1), (1, 1), (2, -1), (2, 1)] := by decide +kernel
  rw [h]
  have key : ∀ (l : List T1) (t : T1), cf (t :: l) e = (if t.1 = e then t.2 else 0) + cf l e := fun l t => by
    rw [show t :: l = [t] ++ l from rfl, cf_append, cf_one]
  rw [key, key, key, key, key, key, key, cf_nil]
  simp only
  split <;> split <;> split <;> omega
theorem aw_text : (⟨(txtB [97] [122] (some awP)).toArray⟩ : ByteArray) = ⟨#[45, 122, 94, 50, 43, 97, 94, 50]⟩ := by decide +kernel
theorem aw_prod (e : K2) : cg2 (mulT [((1, 0), 1), ((0, 1), -1)] [((1, 0), 1), ((0, 1), 1)]) e = cg2 awP e := by
  have h : mulT [((1, 0), 1), ((0, 1), -1)] [((1, 0), 1), ((0, 1), 1)] = [((2, 0), 1), ((1, 1), 1), ((1, 1), -1), ((0, 2), -1)] := by decide +kernel
  rw [h]
  unfold awP
  simp only [cg2_cons, cg2_nil]
  split <;> split <;> split <;> omega
theorem OfQ_m12 (vc : Value) (w : World) (h : Ints w vc [-1, 2]) : Calls Tryz.prog 9 #[.int .i64 0, vc] w (QLR [(0, -1), (1, 2)] w) := by
  refine (Of_any 0 vc [-1, 2] w h (by simp) (by decide)).mono ?_
  rintro e w' ⟨v, he, hv, hb⟩
  have h2 : ofP 0 [-1, 2] = some [(0, -1), (1, 2)] := by decide +kernel
  rw [h2] at hv
  exact ⟨v, he, hb, _, hv, ⟨by unfold Srt; simp, by simp⟩, ⟨by simp, by simp⟩, fun e => rfl⟩
theorem OfP_11 (vc : Value) (w : World) (h : Ints w vc [1, -1]) : Calls Tryz.prog 9 #[.int .i64 0, vc] w fun e w' => ∃ v, e = .returned v ∧ PolyV w' v (some [(0, 1), (1, -1)]) ∧ Below w.heap.size w w' := by
  refine (Of_any 0 vc [1, -1] w h (by simp) (by decide)).mono ?_
  rintro e w' ⟨v, he, hv, hb⟩
  have h2 : ofP 0 [1, -1] = some [(0, 1), (1, -1)] := by decide +kernel
  rw [h2] at hv
  exact ⟨v, he, hv, hb⟩
theorem aw_set (vp va vz : Value) (w : World) (hp : PolyB w vp (some awP)) (ha : PolyV w va (some [(1, 1)])) (hz : PolyV w vz (some [(0, 1), (1, -1)])) : Calls Tryz.prog 10 #[vp, va, vz] w (SetR awS w) :=
  Set_list (N := 1) (ZM := 2) vp va vz awP 1 1 [(0, 1), (1, -1)] w hp ha hz (.inl rfl) (by decide) ⟨⟨by unfold Srt; simp, by simp⟩, ⟨by simp, by simp⟩⟩ (by simp) (by decide) awP_lim awP_can (by decide) (by unfold awP; simp) (by unfold awP; simp) (fun t ht => by simp at ht; rcases ht with rfl | rfl <;> simp) (by decide) (by decide) (fun i hi => by
    have : i = 0 ∨ i = 1 ∨ i = 2 := by omega
    rcases this with rfl | rfl | rfl <;> decide +kernel) (by decide +kernel) (by decide +kernel) (by decide)
set_option maxHeartbeats 4000000 in
set_option maxRecDepth 100000 in
theorem awake13 (w : World) (ht : Tb w) : Calls Tryz.prog 4 #[] w fun e w' => e = .returned (.bool true) ∧ Below w.heap.size w w' := by
  have HTB := Lib.hid ht
  clear ht
  have HO1 := Lib.hid (fun W => of_any (.slice (some ⟨W.heap.size, 0, none⟩) 2 2) [((1, 0), 1), ((0, 1), -1)] (W.alloc (.cells #[.int .i64 1, .int .i64 0, .int .i64 1, .int .i64 0, .int .i64 1, .int .i64 (-1)] 26)) (OwnA.lit (w := W) (base := W.heap.size) (e := 26) (sz := 3) (enc := tB) (xs := [((1, 0), 1), ((0, 1), -1)]) (fun x _ => rfl) (Nat.le_refl _) (by simp) (by simp)).sl (by intro t ht; simp at ht; rcases ht with rfl | rfl <;> simp) (by simp))
  have HO2 := Lib.hid (fun W => of_any (.slice (some ⟨W.heap.size, 0, none⟩) 2 2) [((1, 0), 1), ((0, 1), 1)] (W.alloc (.cells #[.int .i64 1, .int .i64 0, .int .i64 1, .int .i64 0, .int .i64 1, .int .i64 1] 26)) (OwnA.lit (w := W) (base := W.heap.size) (e := 26) (sz := 3) (enc := tB) (xs := [((1, 0), 1), ((0, 1), 1)]) (fun x _ => rfl) (Nat.le_refl _) (by simp) (by simp)).sl (by intro t ht; simp at ht; rcases ht with rfl | rfl <;> simp) (by simp))
  go_enter Tryz.func4, Tryz.ntmps4
  have H1 := Lib.hid (HO1.out w)
  go_wp2_with fail
  refine H1.out.mono ?_
  rintro e w2 ⟨v1, r1, rfl, hv1, ho1, hb2⟩
  have hp1 := ho1.pl (S := 2) (N := 1) (by refine ⟨by decide, ?_, by simp⟩; intro t ht; simp at ht; rcases ht with rfl | rfl <;> simp) (by decide) (by decide) hv1
  have hb2' : Below w.heap.size w w2 := ((Below.refl _ _).alloc (Nat.le_refl _) _).trans (hb2.mono (by simp))
  obtain ⟨A1, n1, c1, rfl⟩ := hp1.form
  clear hv1 ho1 hb2 H1
  have hW : ∀ W, W = w2.alloc (.cells #[.bool false, .slice A1 n1 c1] 29) → Arr W w2.heap.size 29 [.bool false, .slice A1 n1 c1] ∧ PL W (.agg #[.bool false, .slice A1 n1 c1]) [((1, 0), 1), ((0, 1), -1)] ∧ Below w.heap.size w W := by
    intro W hW
    subst hW
    exact ⟨Arr.new _ _ [_, _], hp1.below ((Below.refl _ _).alloc (Nat.le_refl _) _), hb2'.alloc hb2'.size _⟩
  go_upto_region 2 with fail
  generalize w2.alloc (.cells #[.bool false, .slice A1 n1 c1] 29) = w4 at hW ⊢
  obtain ⟨q1, p1, hb4⟩ := hW w4 rfl
  obtain ⟨B1, hB1⟩ : ∃ B, B = w2.heap.size := ⟨_, rfl⟩
  rw [← hB1] at q1 ⊢
  have H2 := Lib.hid (HO2.out w4)
  clear hW hp1 hb2' hB1 HO1 HO2
  go_wp2_with fail
  refine H2.out.mono ?_
  rintro e w5 ⟨v2, r2, rfl, hv2, ho2, hb5⟩
  have hp2 := ho2.pl (S := 2) (N := 1) (by refine ⟨by decide, ?_, by simp⟩; intro t ht; simp at ht; rcases ht with rfl | rfl <;> simp) (by decide) (by decide) hv2
  have hb5' : Below w4.heap.size w4 w5 := ((Below.refl _ _).alloc (Nat.le_refl _) _).trans (hb5.mono (by simp))
  obtain ⟨A2, n2, c2, rfl⟩ := hp2.form
  clear hv2 ho2 hb5 H2
  have hW : ∀ W, W = w5.alloc (.cells #[.bool false, .slice A2 n2 c2] 29) → Arr W B1 29 [.bool false, .slice A1 n1 c1] ∧ Arr W w5.heap.size 29 [.bool false, .slice A2 n2 c2] ∧ PL W (.agg #[.bool false, .slice A1 n1 c1]) [((1, 0), 1), ((0, 1), -1)] ∧ PL W (.agg #[.bool false, .slice A2 n2 c2]) [((1, 0), 1), ((0, 1), 1)] ∧ Below w.heap.size w W := by
    intro W hW
    subst hW
    have b1 := hb5'.alloc hb5'.size (.cells #[.bool false, .slice A2 n2 c2] 29)
    exact ⟨q1.below b1 q1.lt, Arr.new _ _ [_, _], p1.below b1, hp2.below ((Below.refl _ _).alloc (Nat.le_refl _) _), hb4.trans (b1.mono hb4.size)⟩
  go_upto_region 3 with fail
  generalize w5.alloc (.cells #[.bool false, .slice A2 n2 c2] 29) = w6 at hW ⊢
  obtain ⟨q1', q2, p1', p2, hb6⟩ := hW w6 rfl
  obtain ⟨B2, hB2⟩ : ∃ B, B = w5.heap.size := ⟨_, rfl⟩
  rw [← hB2] at q2 ⊢
  have HM := Lib.hid (MulPL (S := 2) (S2 := 2) (N := 1) (N2 := 1) (.agg #[.bool false, .slice A1 n1 c1]) (.agg #[.bool false, .slice A2 n2 c2]) _ _ w6 p1' p2 (by refine ⟨by decide, ?_, by simp⟩; intro t ht; simp at ht; rcases ht with rfl | rfl <;> simp) (by refine ⟨by decide, ?_, by simp⟩; intro t ht; simp at ht; rcases ht with rfl | rfl <;> simp) (by decide) (by decide) (by simp))
  have y0 := q1'.cell 0
  have y1 := q1'.cell 1
  have y2 := q2.cell 0
  have y3 := q2.cell 1
  clear hW q1 p1 hb4 hp2 hb5' hB2 q1' q2 p1' p2
  go_wp2_with fail
  refine HM.out.mono ?_
  rintro e w7 ⟨v3, rfl, hb7, hp3⟩
  have hpb : PolyB w7 v3 (some awP) := by
    obtain ⟨l, h1, h2, h3, h4⟩ := hp3
    have : l = awP := Can2.ext h2 awP_can fun e => by rw [h4, aw_prod]
    rw [← this]
    exact h1
  obtain ⟨A3, n3, c3, rfl⟩ := hp3.form
  have hb7' := hb6.trans (hb7.mono hb6.size)
  clear HM y0 y1 y2 y3 hp3 hb7 hb6
  have hW : ∀ W, W = w7.alloc (.cells #[.bool false, .slice A3 n3 c3] 29) → Arr W w7.heap.size 29 [.bool false, .slice A3 n3 c3] ∧ PolyB W (.agg #[.bool false, .slice A3 n3 c3]) (some awP) ∧ Below w.heap.size w W := by
    intro W hW
    subst hW
    exact ⟨Arr.new _ _ [_, _], hpb.below ((Below.refl _ _).alloc (Nat.le_refl _) _), hb7'.alloc hb7'.size _⟩
  go_upto_region 4 with fail
  generalize w7.alloc (.cells #[.bool false, .slice A3 n3 c3] 29) = w3 at hW ⊢
  obtain ⟨q3, p3, hb3⟩ := hW w3 rfl
  obtain ⟨B3, hB3⟩ : ∃ B, B = w7.heap.size := ⟨_, rfl⟩
  rw [← hB3] at q3 ⊢
  have Q3 := Lib.hid q3
  have HP3 := Lib.hid p3
  have HB3 := Lib.hid hb3
  clear hW hpb hb7' hB3 q3 p3 hb3
  refine wp_region_phim 9 (fun i => decide (i = 7) || decide (i = 10)) (by kernel_rfl) (by kernel_rfl) (by kernel_rfl) (by kernel_rfl) (by kernel_rfl) rfl (by simp) (by kernel_rfl) (fun i => ([some (.agg #[.bool false, .slice A3 n3 c3]), none, none, none, none, none, none, some (.int .i64 0), none, none, some (.int .i64 0)] : List (Option Value)).getD i none) (phiT (fun i => ([some (.agg #[.bool false, .slice A3 n3 c3]), none, none, none, none, none, none, some (.int .i64 0), none, none, some (.int .i64 0)] : List (Option Value)).getD i none) (fun i v w => (if i = 1 then (fun v w => PolyV w v (some [(1, 1)])) v w else (if i = 2 then (fun v w => Ints w v [1, -1]) v w else (if i = 3 then (fun v w => PolyV w v (some [(0, 1), (1, -1)])) v w else (if i = 4 then (fun v w => ∃ A n c, v = .tuple #[.agg #[.bool false, .slice A n c], .int .i64 0] ∧ QL w (.agg #[.bool false, .slice A n c]) awS) v w else (if i = 5 then (fun v w => ∃ A n c, v = .tuple #[.agg #[.bool false, .slice A n c], .int .i64 0] ∧ QL w (.agg #[.bool false, .slice A n c]) awS) v w else (if i = 6 then (fun v w => ∃ A n c, v = .agg #[.bool false, .slice A n c] ∧ QL w v awS) v w else (if i = 8 then (fun v w => ∃ g, v = .pointer (some ⟨g, 0, none⟩) ∧ w3.heap.size ≤ g ∧ Arr w g 34 [.bool false, .slice none 0 0]) v w else True))))))))) (fun i v w w' h hb => ?_) (fun i u v w h he => ?_) (fun x W => ∃ (g : Nat) (A : Option Addr) (n c : Nat), x 8 = .pointer (some ⟨g, 0, none⟩) ∧ w3.heap.size ≤ g ∧ Arr W g 34 [.bool false, .slice A n c] ∧ QL W (.agg #[.bool false, .slice A n c]) awS ∧ Below w3.heap.size w3 W ∧ ∃ u, x 5 = .tuple #[u, .int .i64 0]) (fun x w i v hl h => ?_) ⟨?_, ?_, ?_, ?_, ?_, ?_, ?_, ?_, ?_, ?_, ?_, trivial⟩ ?_
  · unfold phiT at h ⊢
    split
    · next u hu => rw [hu] at h; exact h
    · next hu =>
      rw [hu] at h
      simp only at h ⊢
      by_cases q1 : i = 1
      · rw [if_pos q1] at h ⊢; exact PolyV.below h hb
      · rw [if_neg q1] at h ⊢
        by_cases q2 : i = 2
        · rw [if_pos q2] at h ⊢; exact Ints.below h hb
        · rw [if_neg q2] at h ⊢
          by_cases q3 : i = 3
          · rw [if_pos q3] at h ⊢; exact PolyV.below h hb
          · rw [if_neg q3] at h ⊢
            by_cases q4 : i = 4
            · rw [if_pos q4] at h ⊢; exact (by obtain ⟨A, n, c, h1, h2⟩ := h; exact ⟨A, n, c, h1, h2.below hb⟩)
            · rw [if_neg q4] at h ⊢
              by_cases q5 : i = 5
              · rw [if_pos q5] at h ⊢; exact (by obtain ⟨A, n, c, h1, h2⟩ := h; exact ⟨A, n, c, h1, h2.below hb⟩)
              · rw [if_neg q5] at h ⊢
                by_cases q6 : i = 6
                · rw [if_pos q6] at h ⊢; exact (by obtain ⟨A, n, c, h1, h2⟩ := h; exact ⟨A, n, c, h1, h2.below hb⟩)
                · rw [if_neg q6] at h ⊢
                  by_cases q8 : i = 8
                  · rw [if_pos q8] at h ⊢; exact (by obtain ⟨g, h1, h2, h3⟩ := h; exact ⟨g, h1, h2, h3.below hb h3.lt⟩)
                  · rw [if_neg q8] at h ⊢
                    trivial
  · exact phiT_val h he
  · simp only [Bool.or_eq_true, decide_eq_true_eq, Bool.false_eq_true] at hl
    rcases hl with rfl | rfl
    · exact by simpa [upd] using h
    · exact by simpa [upd] using h
  · intro x w1 bA hold hb
    refine ⟨fun _ _ hbel hdep => ?_, fun h => absurd h (by decide), fun h => absurd h (by decide)⟩
    have e3 : bA.tmps[3]?.getD undef = .pointer (some ⟨B3, 0, none⟩) := hb 3
    have cc0 := (Q3.out.below hbel Q3.out.lt).cell 0
    have cc1 := (Q3.out.below hbel Q3.out.lt).cell 1
    refine phi_run (.agg #[.bool false, .slice A3 n3 c3]) ?_ rfl
    clear hb hdep hold
    go_simp
  · intro x w1 bA hold hb
    refine ⟨fun _ _ hbel hdep => ?_, fun h => absurd h (by decide), fun h => absurd h (by decide)⟩
    refine phi_call ?_ ((Term_any 1 1 w1 (by decide) (by decide) (by decide) (by decide) (by decide)).mono fun e w' h => (by obtain ⟨v, he, hv, hb'⟩ := h; exact ⟨v, he, hb', hv⟩))
    clear hb hdep hold
    go_simp
  · intro x w1 bA hold hb
    refine ⟨fun _ _ hbel hdep => ?_, fun h => absurd h (by decide), fun h => absurd h (by decide)⟩
    refine phi_make (.slice (some ⟨w1.heap.size, 0, none⟩) 2 2) (w1.alloc (.cells #[.int .i64 1, .int .i64 (-1)] 3)) ?_ ((Below.refl _ _).alloc (Nat.le_refl _) _) (Ints.of_arr (xs := [1, -1]) (Arr.new w1 3 [.int .i64 1, .int .i64 (-1)]))
    clear hb hdep hold
    go_simp
  · intro x w1 bA hold hb
    refine ⟨fun _ _ hbel hdep => ?_, fun h => absurd h (by decide), fun h => absurd h (by decide)⟩
    have p20 := hdep 2 (by decide)
    have e20 : bA.tmps[20]?.getD undef = x 2 := hb 20
    generalize x 2 = x20 at p20 e20
    have P20 := Lib.hid (show (fun v w => Ints w v [1, -1]) x20 w1 from p20)
    clear p20
    obtain ⟨A20, c20, e20b, -, -⟩ := id P20.out
    refine phi_call ?_ ((OfP_11 x20 w1 P20.out).mono fun e w' h => (by obtain ⟨v, he, hv, hb'⟩ := h; exact ⟨v, he, hb', hv⟩))
    clear hb hdep hold
    go_simp
  · intro x w1 bA hold hb
    refine ⟨fun _ _ hbel hdep => ?_, fun h => absurd h (by decide), fun h => absurd h (by decide)⟩
    have e18 : bA.tmps[18]?.getD undef = .agg #[.bool false, .slice A3 n3 c3] := (hb 18).trans (hdep 0 (by decide))
    have p19 := hdep 1 (by decide)
    have e19 : bA.tmps[19]?.getD undef = x 1 := hb 19
    generalize x 1 = x19 at p19 e19
    have P19 := Lib.hid (show (fun v w => PolyV w v (some [(1, 1)])) x19 w1 from p19)
    clear p19
    have p21 := hdep 3 (by decide)
    have e21 : bA.tmps[21]?.getD undef = x 3 := hb 21
    generalize x 3 = x21 at p21 e21
    have P21 := Lib.hid (show (fun v w => PolyV w v (some [(0, 1), (1, -1)])) x21 w1 from p21)
    clear p21
    refine phi_call ?_ ((aw_set (.agg #[.bool false, .slice A3 n3 c3]) x19 x21 w1 (HP3.out.below hbel) P19.out P21.out).mono fun e w' h => (by obtain ⟨A, n, c, he, hq, hb'⟩ := h; exact ⟨_, he, hb', A, n, c, rfl, hq⟩))
    clear hb hdep hold
    go_simp
  · intro x w1 bA hold hb
    refine ⟨fun _ _ hbel hdep => ?_, fun h => absurd h (by decide), fun h => absurd h (by decide)⟩
    have p22 := hdep 4 (by decide)
    have e22 : bA.tmps[22]?.getD undef = x 4 := hb 22
    generalize x 4 = x22 at p22 e22
    have P22 := Lib.hid (show (fun v w => ∃ A n c, v = .tuple #[.agg #[.bool false, .slice A n c], .int .i64 0] ∧ QL w (.agg #[.bool false, .slice A n c]) awS) x22 w1 from p22)
    clear p22
    refine phi_run (x22) ?_ (P22.out)
    clear hb hdep hold
    go_simp
  · intro x w1 bA hold hb
    refine ⟨fun _ _ hbel hdep => ?_, fun h => absurd h (by decide), fun h => absurd h (by decide)⟩
    have p17 := hdep 5 (by decide)
    have e17 : bA.tmps[17]?.getD undef = x 5 := hb 17
    generalize x 5 = x17 at p17 e17
    have P17 := Lib.hid (show (fun v w => ∃ A n c, v = .tuple #[.agg #[.bool false, .slice A n c], .int .i64 0] ∧ QL w (.agg #[.bool false, .slice A n c]) awS) x17 w1 from p17)
    clear p17
    obtain ⟨A17, n17, c17, e17b, hq17⟩ := P17.out
    have HQ17 := Lib.hid hq17
    subst e17b
    refine phi_run (.agg #[.bool false, .slice A17 n17 c17]) ?_ (⟨A17, n17, c17, rfl, HQ17.out⟩)
    clear hb hdep hold
    go_simp
  · intro x w1 bA hold hb
    refine ⟨fun h => absurd h (by decide), fun h => absurd h (by decide), fun _ hdep hlr => ⟨.int .i64 0, rfl, ?_, rfl⟩⟩
    have h17 : ∃ u, x 5 = .tuple #[u, .int .i64 0] := hlr.elim (fun h => by obtain ⟨_, _, _, _, _, _, _, _, _, u, hu⟩ := h; exact ⟨u, hu⟩) (fun h => by obtain ⟨A, n, c, h1, _⟩ := h.2 5 (by decide); exact ⟨_, h1⟩)
    obtain ⟨u, hu⟩ := h17
    have e17 : bA.tmps[17]?.getD undef = .tuple #[u, .int .i64 0] := (hb 17).trans hu
    clear hb hdep hold hlr
    go_simp
  · intro x w1 bA hold hb
    refine ⟨fun _ _ hbel hdep => ?_, fun h => absurd h (by decide), fun h => absurd h (by decide)⟩
    refine phi_make (.pointer (some ⟨w1.heap.size, 0, none⟩)) (w1.alloc (.cells #[.bool false, .slice none 0 0] 34)) ?_ ((Below.refl _ _).alloc (Nat.le_refl _) _) (⟨w1.heap.size, rfl, hbel.size, Arr.new w1 34 [.bool false, .slice none 0 0]⟩)
    clear hb hdep hold
    go_simp
  · intro x w1 bA hold hb
    refine ⟨fun _ h => absurd rfl h, fun _ hbel hdep hall => ?_, fun h => absurd h (by decide)⟩
    have p4 := hdep 8 (by decide)
    have e4 : bA.tmps[4]?.getD undef = x 8 := hb 4
    have P4 := Lib.hid (show (fun v w => ∃ g, v = .pointer (some ⟨g, 0, none⟩) ∧ w3.heap.size ≤ g ∧ Arr w g 34 [.bool false, .slice none 0 0]) (x 8) w1 from p4)
    clear p4
    have p23 := hdep 6 (by decide)
    have e23 : bA.tmps[23]?.getD undef = x 6 := hb 23
    have P23 := Lib.hid (show (fun v w => ∃ A n c, v = .agg #[.bool false, .slice A n c] ∧ QL w v awS) (x 6) w1 from p23)
    clear p23
    clear hb hdep hold
    have HX17 := Lib.hid (show ∃ u, x 5 = .tuple #[u, .int .i64 0] from by obtain ⟨A, n, c, h1, _⟩ := hall 5 (by decide) (by decide) (by decide); exact ⟨_, h1⟩)
    clear hall
    obtain ⟨g, e4b, hg, ag⟩ := P4.out
    obtain ⟨A23, n23, c23, e23b, hq23⟩ := P23.out
    rw [e4b] at e4
    rw [e23b] at e23
    have c0 := ag.cell 0
    have c1 := ag.cell 1
    have f0 := ag.frozen 0
    have f1 := ag.frozen 1
    have AG := Lib.hid ag
    have HX4 := Lib.hid e4b
    have HBL := Lib.hid hbel
    have HQ23 := Lib.hid (e23b ▸ hq23)
    clear ag e4b e23b hq23 P4 P23 hbel
    refine phl_st (R := fun x W => ∃ (g : Nat) (A : Option Addr) (n c : Nat), x 8 = .pointer (some ⟨g, 0, none⟩) ∧ w3.heap.size ≤ g ∧ Arr W g 34 [.bool false, .slice A n c] ∧ QL W (.agg #[.bool false, .slice A n c]) awS ∧ Below w3.heap.size w3 W ∧ ∃ u, x 5 = .tuple #[u, .int .i64 0]) ((w1.setCell ⟨g, 0, none⟩ (.bool false)).setCell ⟨g, 1, none⟩ (.slice A23 n23 c23)) ?_ rfl (fun v => ⟨g, A23, n23, c23, (by simpa [upd] using HX4.out), hg, (AG.out.set 0 _).set 1 _, HQ23.out.box AG.out _ _, (HBL.out.setCell (p := ⟨g, 0, none⟩) hg _).setCell (p := ⟨g, 1, none⟩) hg _, (by simpa [upd] using HX17.out)⟩) rfl
    go_simp
  · intro x w1 bA hold hb
    refine ⟨fun h => absurd h (by decide), fun h => absurd h (by decide), fun _ hdep hlr => ⟨.int .i64 0, rfl, ?_, rfl⟩⟩
    have e24 : bA.tmps[24]?.getD undef = .int .i64 0 := (hb 24).trans (hdep 7 (by decide) _ rfl)
    clear hb hdep hold
    go_simp
  intro x w1 hR hall
  have x0e : x 0 = .agg #[.bool false, .slice A3 n3 c3] := hall 0 _ (by simp) rfl
  have x7e : x 7 = .int .i64 0 := hall 7 _ (by simp) rfl
  have x10e : x 10 = .int .i64 0 := hall 10 _ (by simp) rfl
  simp only [putAll, dstOf, Act.put, List.map_cons, List.map_nil, List.setIfInBounds_toArray, List.set_cons_succ, List.set_cons_zero, Nat.reduceAdd, x0e, x7e, x10e]
  clear x0e x7e x10e hall
  obtain ⟨B4, A4, n4, c4, e8, hg4, q4, hq4, hb4, -⟩ := hR
  rw [e8]
  have Q3' := Lib.hid (Q3.out.below hb4 Q3.out.lt)
  have HP3' := Lib.hid (HP3.out.below hb4)
  have HB3' := Lib.hid (HB3.out.trans (hb4.mono HB3.out.size))
  have Q4 := Lib.hid q4
  have HQ4 := Lib.hid hq4
  clear Q3 HP3 HB3 q4 hq4 hb4 hg4 e8
  have Q3 := Lib.hid Q3'.out
  have HB3 := Lib.hid HB3'.out
  generalize w1 = w8 at *
  have HTX := Lib.hid (fun W (hb : Below w8.heap.size w8 W) => bText_any (.agg #[.bool false, .slice A3 n3 c3]) (some awP) [97] [122] W (HP3'.out.below hb) ⟨awP_can, awP_lim⟩ (by decide) (by decide) (by decide) (HTB.out.below (HB3'.out.trans (hb.mono HB3'.out.size))))
  rw [aw_text] at HTX
  have HEQ := Lib.hid awS_cf
  go_wp2_with fail
  refine wp_region_phy (fun a b => Below a.heap.size a b) (fun h k => h.trans (k.mono h.size)) ((Below.refl _ _).drew) (by kernel_rfl) (by kernel_rfl) (by kernel_rfl) (by kernel_rfl) (phiT (fun i => ([some (.agg #[.bool false, .slice A3 n3 c3]), some (.string ⟨#[45, 122, 94, 50, 43, 97, 94, 50]⟩), some (.bool true), some (.bool true), some (.int .i64 0), some (.bool true), some (.bool true), some (.bool true), some (.agg #[.bool false, .slice A4 n4 c4]), none, none, some (.bool true), some (.bool true), some (.bool true)] : List (Option Value)).getD i none) (fun i v w => (if i = 9 then (fun v w => Ints w v [-1, 2]) v w else (if i = 10 then (fun v w => QL w v [(0, -1), (1, 2)]) v w else True)))) (fun i v w w' h hb => ?_) ⟨?_, ?_, ?_, ?_, ?_, ?_, ?_, ?_, ?_, ?_, ?_, ?_, ?_, ?_, trivial⟩ ?_
  · unfold phiT at h ⊢
    split
    · next u hu => rw [hu] at h; exact h
    · next hu =>
      rw [hu] at h
      simp only at h ⊢
      by_cases q9 : i = 9
      · rw [if_pos q9] at h ⊢; exact Ints.below h hb
      · rw [if_neg q9] at h ⊢
        by_cases q10 : i = 10
        · rw [if_pos q10] at h ⊢; exact QL.below h hb
        · rw [if_neg q10] at h ⊢
          trivial
  · intro x w1 bA hT hdep hold hb
    refine .inl ⟨trivial, ?_⟩
    have e3 : bA.tmps[3]?.getD undef = .pointer (some ⟨B3, 0, none⟩) := hb 3
    have cc0 := (Q3.out.below hT Q3.out.lt).cell 0
    have cc1 := (Q3.out.below hT Q3.out.lt).cell 1
    refine phx_run (.agg #[.bool false, .slice A3 n3 c3]) ?_ (Below.refl _ _) rfl
    clear hb hdep hold
    go_simp
  · intro x w1 bA hT hdep hold hb
    refine .inl ⟨trivial, ?_⟩
    have e25 : bA.tmps[25]?.getD undef = .agg #[.bool false, .slice A3 n3 c3] := (hb 25).trans (hdep 0 (by decide))
    refine phx_call ?_ ((HTX.out w1 hT).mono fun e w' h => ⟨_, h.1, h.2, rfl⟩)
    clear hb hdep hold
    go_simp
  · intro x w1 bA hT hdep hold hb
    refine .inl ⟨trivial, ?_⟩
    have e26 : bA.tmps[26]?.getD undef = .string ⟨#[45, 122, 94, 50, 43, 97, 94, 50]⟩ := (hb 26).trans (hdep 1 (by decide))
    refine phx_run (.bool true) ?_ (Below.refl _ _) rfl
    clear hb hdep hold
    go_simp
  · intro x w1 bA hT hdep hold hb
    refine .inl ⟨trivial, ?_⟩
    have e27 : bA.tmps[27]?.getD undef = .bool true := (hb 27).trans (hdep 2 (by decide))
    refine phx_run (.bool true) ?_ (Below.refl _ _) rfl
    clear hb hdep hold
    go_simp
  · intro x w1 bA hT hdep hold hb
    refine .inl ⟨⟨28, rfl, (hb 28).trans (hdep 3 (by decide))⟩, ?_⟩
    have e5 : bA.tmps[5]?.getD undef = .int .i64 0 := hb 5
    refine phx_run (.int .i64 0) ?_ (Below.refl _ _) rfl
    clear hb hdep hold
    go_simp
  · intro x w1 bA hT hdep hold hb
    refine .inl ⟨⟨28, rfl, (hb 28).trans (hdep 3 (by decide))⟩, ?_⟩
    have e29 : bA.tmps[29]?.getD undef = .int .i64 0 := (hb 29).trans (hdep 4 (by decide))
    refine phx_run (.bool true) ?_ (Below.refl _ _) rfl
    clear hb hdep hold
    go_simp
  · intro x w1 bA hT hdep hold hb
    refine .inl ⟨trivial, ?_⟩
    have e28 : bA.tmps[28]?.getD undef = .bool true := (hb 28).trans (hdep 3 (by decide))
    have e30 : bA.tmps[30]?.getD undef = .bool true := (hb 30).trans (hdep 5 (by decide))
    refine phx_run (.bool true) ?_ (Below.refl _ _) rfl
    clear hb hdep hold
    go_simp
  · intro x w1 bA hT hdep hold hb
    refine .inl ⟨trivial, ?_⟩
    have e31 : bA.tmps[31]?.getD undef = .bool true := (hb 31).trans (hdep 6 (by decide))
    refine phx_run (.bool true) ?_ (Below.refl _ _) rfl
    clear hb hdep hold
    go_simp
  · intro x w1 bA hT hdep hold hb
    refine .inl ⟨⟨32, rfl, (hb 32).trans (hdep 7 (by decide))⟩, ?_⟩
    have e4 : bA.tmps[4]?.getD undef = .pointer (some ⟨B4, 0, none⟩) := hb 4
    have cc0 := (Q4.out.below hT Q4.out.lt).cell 0
    have cc1 := (Q4.out.below hT Q4.out.lt).cell 1
    refine phx_run (.agg #[.bool false, .slice A4 n4 c4]) ?_ (Below.refl _ _) rfl
    clear hb hdep hold
    go_simp
  · intro x w1 bA hT hdep hold hb
    refine .inl ⟨⟨32, rfl, (hb 32).trans (hdep 7 (by decide))⟩, ?_⟩
    refine phx_make (.slice (some ⟨w1.heap.size, 0, none⟩) 2 2) (w1.alloc (.cells #[.int .i64 (-1), .int .i64 2] 3)) ?_ ((Below.refl _ _).alloc (Nat.le_refl _) _) (Ints.of_arr (xs := [-1, 2]) (Arr.new w1 3 [.int .i64 (-1), .int .i64 2]))
    clear hb hdep hold
    go_simp
  · intro x w1 bA hT hdep hold hb
    refine .inl ⟨⟨32, rfl, (hb 32).trans (hdep 7 (by decide))⟩, ?_⟩
    have p34 := hdep 9 (by decide)
    have e34 : bA.tmps[34]?.getD undef = x 9 := hb 34
    generalize x 9 = x34 at *
    have P34 := Lib.hid (show (fun v w => Ints w v [-1, 2]) x34 w1 from p34)
    clear p34
    obtain ⟨A34, c34, e34b, -, -⟩ := id P34.out
    refine phx_call ?_ ((OfQ_m12 x34 w1 P34.out).mono fun e w' h => (by obtain ⟨v, he, hb', hv⟩ := h; exact ⟨v, he, hb', hv⟩))
    clear hb hdep hold
    go_simp
  · intro x w1 bA hT hdep hold hb
    refine .inl ⟨⟨32, rfl, (hb 32).trans (hdep 7 (by decide))⟩, ?_⟩
    have e33 : bA.tmps[33]?.getD undef = .agg #[.bool false, .slice A4 n4 c4] := (hb 33).trans (hdep 8 (by decide))
    have p35 := hdep 10 (by decide)
    have e35 : bA.tmps[35]?.getD undef = x 10 := hb 35
    generalize x 10 = x35 at *
    have P35 := Lib.hid (show (fun v w => QL w v [(0, -1), (1, 2)]) x35 w1 from p35)
    clear p35
    refine phx_call ?_ ((EqualQ _ x35 _ _ w1 (HQ4.out.below hT) P35.out HEQ.out).mono fun e w' h => ⟨_, h.1, h.2, rfl⟩)
    clear hb hdep hold
    go_simp
  · intro x w1 bA hT hdep hold hb
    refine .inl ⟨trivial, ?_⟩
    have e32 : bA.tmps[32]?.getD undef = .bool true := (hb 32).trans (hdep 7 (by decide))
    have e36 : bA.tmps[36]?.getD undef = .bool true := (hb 36).trans (hdep 11 (by decide))
    refine phx_run (.bool true) ?_ (Below.refl _ _) rfl
    clear hb hdep hold
    go_simp
  · intro x w1 bA hT hdep hold hb
    refine .inl ⟨trivial, ?_⟩
    have e37 : bA.tmps[37]?.getD undef = .bool true := (hb 37).trans (hdep 12 (by decide))
    refine phx_run (.bool true) ?_ (Below.refl _ _) rfl
    clear hb hdep hold
    go_simp
  intro x w1 hT hall
  have x0e : x 0 = .agg #[.bool false, .slice A3 n3 c3] := hall 0 (by decide)
  have x1e : x 1 = .string ⟨#[45, 122, 94, 50, 43, 97, 94, 50]⟩ := hall 1 (by decide)
  have x2e : x 2 = .bool true := hall 2 (by decide)
  have x3e : x 3 = .bool true := hall 3 (by decide)
  have x4e : x 4 = .int .i64 0 := hall 4 (by decide)
  have x5e : x 5 = .bool true := hall 5 (by decide)
  have x6e : x 6 = .bool true := hall 6 (by decide)
  have x7e : x 7 = .bool true := hall 7 (by decide)
  have x8e : x 8 = .agg #[.bool false, .slice A4 n4 c4] := hall 8 (by decide)
  have p34 := hall 9 (by decide)
  have p35 := hall 10 (by decide)
  have x11e : x 11 = .bool true := hall 11 (by decide)
  have x12e : x 12 = .bool true := hall 12 (by decide)
  have x13e : x 13 = .bool true := hall 13 (by decide)
  simp only [putAll, dstOf, Act.put, List.map_cons, List.map_nil, List.setIfInBounds_toArray, List.set_cons_succ, List.set_cons_zero, Nat.reduceAdd, x0e, x1e, x2e, x3e, x4e, x5e, x6e, x7e, x8e, x11e, x12e, x13e]
  clear x0e x1e x2e x3e x4e x5e x6e x7e x8e x11e x12e x13e hall
  have HBF := Lib.hid (HB3.out.trans (hT.mono HB3.out.size))
  clear hT p34 p35
  go_wp2_with fail
  go_ret
  exact ⟨rfl, HBF.out⟩
end Go.Proofs.YtnmidhlghhephaaGreatDoor

namespace Go.Proofs.YtnmidhlghhephaaGreatDoor
open Go.RowKit
set_option linter.unusedVariables false
/-- a polynomial told by a list of terms, within bounds -/
def QB (w : World) (v : Value) (L : List T2) (S N n : Nat) : Prop := PL w v L ∧ Bd2 S N L ∧ L.length ≤ n
theorem QB.below {w w' : World} {v : Value} {L : List T2} {S N n : Nat} (h : QB w v L S N n) (hb : Below w.heap.size w w') : QB w' v L S N n := ⟨h.1.below hb, h.2.1, h.2.2⟩
section
variable {w : World} {vp vq : Value} {L M : List T2} {S S2 N N2 n n2 : Nat}
end
end Go.Proofs.YtnmidhlghhephaaGreatDoor

namespace Go.Proofs.YtnmidhlghhephaaGreatDoor
open Go.RowKit
set_option linter.unusedVariables false
section
variable {w : World} {vp : Value} {L : List T2} {S N n : Nat}
end
end Go.Proofs.YtnmidhlghhephaaGreatDoor
