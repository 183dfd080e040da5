/- intmatrix.eliminate: the walk. -/
/- factors: plain functions. -/
import Derived.Test.YtcjaloddgilnpaaZElp
namespace Go.Proofs.Ytcjaloddgilnpaa
open Go.RowKit
set_option linter.unusedVariables false

/-- the state of eliminate -/
structure El (base R : Nat) (bs : List Nat) (C n rk : Nat) (w0 : World) (cur : List (List Nat)) (k : Nat) (bs' : List Nat) (w : World) : Prop where
  mu : MU w R bs' C cur
  sub : ∀ b ∈ bs', b ∈ bs
  bel : Below base w0 w
  box : Arr w rk 3 [.int .i64 (k : Int)]
  len : cur.length = n
  lt : Ltm 2305843009213693951 cur
  cl : Cl C cur
theorem El.drewN {base R : Nat} {bs : List Nat} {C n rk : Nat} {w0 : World} {cur : List (List Nat)} {k : Nat} {bs' : List Nat} {w : World} (h : El base R bs C n rk w0 cur k bs' w) (q : Nat) : El base R bs C n rk w0 cur k bs' (w.drewN q) :=
  ⟨h.mu.drewN q, h.sub, bdrewN h.bel q, h.box, h.len, h.lt, h.cl⟩
theorem El.alloc {base R : Nat} {bs : List Nat} {C n rk : Nat} {w0 : World} {cur : List (List Nat)} {k : Nat} {bs' : List Nat} {w : World} (h : El base R bs C n rk w0 cur k bs' w) (hb : base ≤ w.heap.size) (o : Obj) : El base R bs C n rk w0 cur k bs' (w.alloc o) :=
  ⟨h.mu.alloc o, h.sub, h.bel.alloc hb o, h.box.alloc o, h.len, h.lt, h.cl⟩
theorem El.next {base R : Nat} {bs : List Nat} {C n rk : Nat} {w0 : World} {cur cur' : List (List Nat)} {k : Nat} {bs' bs'' : List Nat} {w w' : World} (h : El base R bs C n rk w0 cur k bs' w) (hb : base ≤ w.heap.size) (hL : ∀ b ∈ R :: bs, base ≤ b) (nk : rk ∉ R :: bs)
    (h1 : MU w' R bs'' C cur') (h2 : ∀ b ∈ bs'', b ∈ bs') (h3 : Wr (R :: bs') w w') (hl : cur'.length = n) (hlt : Ltm 2305843009213693951 cur') (hcl : Cl C cur') : El base R bs C n rk w0 cur' k bs'' w' :=
  have hs : ∀ x ∈ R :: bs', x ∈ R :: bs := fun x hx => by
    rcases List.mem_cons.1 hx with e | e
    · rw [e]; simp
    · exact List.mem_cons_of_mem _ (h.sub x e)
  ⟨h1, fun b hb => h.sub b (h2 b hb), h.bel.trans (h3.below hb (fun x hx => hL x (hs x hx))), h.box.wr h3 (fun q => nk (hs _ q)), hl, hlt, hcl⟩

theorem zero_cast : ((0 : Nat) : Int) = 0 := rfl
theorem subP0_any (b : Nat) (w : World) (hb : b < 2305843009213693951) :
    Calls Try.prog 83 #[.int .u64 0, .int .u64 (b : Nat), .int .u64 2305843009213693951] w fun e w' => e = .returned (.int .u64 (((0 + (2305843009213693951 - b)) % 2305843009213693951 : Nat) : Int)) ∧ w = w' := by
  have h := subP_any 0 b w (by omega) hb
  rw [zero_cast] at h
  exact h
theorem set_gr_self (A : List (List Nat)) (i : Nat) : A.set i (gr A i) = A := by
  apply gr_ext (by simp)
  intro c hc
  by_cases h : i < A.length
  · rw [gr_set _ _ _ _ h]; split
    · next e => rw [e]
    · rfl
  · rw [List.set_eq_of_length_le (by omega)]
theorem El.box_next {base R : Nat} {bs : List Nat} {C n rk : Nat} {w0 : World} {cur : List (List Nat)} {k k' : Nat} {bs' : List Nat} {w : World} (h : El base R bs C n rk w0 cur k bs' w) (hb : base ≤ rk) (nk : rk ∉ R :: bs) : El base R bs C n rk w0 cur k' bs' (w.setCell ⟨rk, 0, none⟩ (.int .i64 (k' : Int))) := by
  have o := (Onl.refl rk w).setCell 0 (.int .i64 (k' : Int))
  refine ⟨h.mu.keep (o.block R (fun e => nk (by rw [← e]; simp))) (fun b hb => o.block b (fun e => nk (by rw [← e]; exact List.mem_cons_of_mem _ (h.sub b hb)))), h.sub, h.bel.setCell (p := ⟨rk, 0, none⟩) hb _, ?_, h.len, h.lt, h.cl⟩
  exact h.box.set 0 _

set_option maxHeartbeats 4000000 in
set_option maxRecDepth 100000 in
theorem eliminate_any (v : Value) (rows : List (List Int)) (C : Nat) (w : World) (h : Mat w v rows) (hn : rows.length ≤ 1000) (hC : C ≤ 1000) (hc : ∀ r ∈ rows, r.length = C) (hb : ∀ r ∈ rows, ∀ x ∈ r, -9223372036854775807 ≤ x ∧ x ≤ 9223372036854775807) :
    Calls Try.prog 67 #[v] w fun e w' => e = .returned (.tuple #[.int .i64 ((elF C (rows.length + 1) (resF 2305843009213693951 rows) 0 1).1 : Nat), .int .i64 (minS (elF C (rows.length + 1) (resF 2305843009213693951 rows) 0 1).2)]) ∧ Below w.heap.size w w' := by
  have HRS := Lib.hid (residues_any v rows C 2305843009213693951 w h hn hC hc hb (by omega) (by omega))
  rw [p_cast] at HRS
  have hA0 : Ltm 2305843009213693951 (resF 2305843009213693951 rows) := by
    intro i j
    unfold ge gr resF
    rw [List.getElem?_map]
    cases hr : rows[i]? with
    | none => simp [gn]
    | some r =>
      simp only [Option.map_some, Option.getD_some]
      unfold gn resR
      rw [List.getElem?_map]
      cases hx : r[j]? with
      | none => simp
      | some x => simp only [Option.map_some, Option.getD_some]; exact rs_lt (by omega) x
  obtain ⟨T, hT⟩ : ∃ T, T = elF C (rows.length + 1) (resF 2305843009213693951 rows) 0 1 := ⟨_, rfl⟩
  rw [← hT]
  have hAl := resF_length 2305843009213693951 rows
  obtain ⟨A, hA⟩ : ∃ A, A = resF 2305843009213693951 rows := ⟨_, rfl⟩
  rw [← hA] at HRS hT hA0 hAl
  obtain ⟨n, hnn⟩ : ∃ n, n = rows.length := ⟨_, rfl⟩
  rw [← hnn] at HRS hn hT hAl
  have HT := Lib.hid hT
  obtain ⟨c0, c1, c2, c3⟩ : ∃ A0 a1 c0, v = .slice A0 a1 c0 := by obtain ⟨A0, c0, e, _⟩ := h; exact ⟨_, _, _, e⟩
  subst c3
  clear h hc hb hA hnn hT
  go_enter Try.func67, Try.ntmps67
  go_upto_region 2 with (go_at_call 80; refine HRS.out.mono ?_; rintro e w1 ⟨rfl, bs, hmu, hbs, hbel⟩)
  have hEl : El w.heap.size w.heap.size bs C n w1.heap.size w A 0 bs (w1.alloc (.cells #[.int .i64 0] 3)) :=
    ⟨hmu.alloc _, fun _ q => q, hbel.alloc hbel.size _, Arr.new w1 3 [.int .i64 0], hAl, hA0, hmu.cols⟩
  have nk : w1.heap.size ∉ w.heap.size :: bs := fun q => by
    rcases List.mem_cons.1 q with e | e
    · have := hmu.outer.lt; omega
    · have := hmu.lt _ e; omega
  have HNK := Lib.hid nk
  have HRK := Lib.hid hbel.size
  have HL := Lib.hid (show ∀ b ∈ w.heap.size :: bs, w.heap.size ≤ b from fun b q => by
    rcases List.mem_cons.1 q with e | e
    · omega
    · have := hbs b e; omega)
  clear nk hbs hbel hmu hA0 hAl
  go_wp2_with fail
  generalize w1.alloc (.cells #[.int .i64 0] 3) = w2 at hEl ⊢
  generalize w1.heap.size = rk at *
  obtain ⟨R, hRR⟩ : ∃ R, R = w.heap.size := ⟨_, rfl⟩
  rw [← hRR] at hEl HNK HL HRK ⊢
  have HR := Lib.hid hRR
  clear hRR
  go_loopg [6, 7, 8, 9, 10, 11, 13] (n + 1) (fun gk s6 s7 s8 s9 s10 s11 s13 wr => ∃ (cur : List (List Nat)) (k mi : Nat) (bs' : List Nat) (f : Nat), s6 = .int .u64 (mi : Int) ∧ gk = n + 1 - k ∧ k ≤ n ∧ n - k < f ∧ mi < 2305843009213693951 ∧ Hid (elF C f cur k mi = T) ∧ El R R bs C n rk w cur k bs' wr)
  case atStart => exact ⟨A, 0, 1, bs, n + 1, rfl, rfl, Nat.zero_le _, by omega, by omega, Lib.hid HT.out.symm, hEl⟩
  case round =>
    clear hEl HT
    obtain ⟨cur, k, mi, bs', f, rfl, rfl, hkn, hf, hmi, HT, hE⟩ := hrel
    obtain ⟨wo, rfl⟩ : ∃ wo : World, wo = wr := ⟨_, rfl⟩
    have y0 := hE.box.cell 0
    obtain ⟨g, rfl⟩ : ∃ g, f = g + 1 := ⟨f - 1, by omega⟩
    cases hF : findF cur k C with
    | none =>
      have HFD := Lib.hid (find_none R bs' C cur k wo hE.mu (by rw [hE.len]; exact hn) hC (by omega) hF)
      rw [hE.len] at HFD
      have HTT := Lib.hid (HT.out.symm.trans (elF_none hF))
      have HBE := Lib.hid hE.bel
      clear hE hF HT
      by_cases hbig : 1152921504606846975 < mi
      · have z1 : (1152921504606846975 : Int) < (mi : Int) := by omega
        have HMS := Lib.hid (show minS mi = -(2305843009213693951 - (mi : Int)) by unfold minS; rw [if_pos hbig]; omega)
        clear hbig
        go_wp2_with (go_at_call 81; refine HFD.out.mono ?_; rintro e w' ⟨rfl, rfl⟩)
        go_ret2
        have ht := HTT.out
        clear HTT
        subst ht
        have hr := HR.out
        clear HR
        subst hr
        refine ⟨?_, HBE.out⟩
        show _ = Ending.returned (.tuple #[.int .i64 (k : Int), .int .i64 (minS mi)])
        rw [HMS.out]; rfl
      · have z1 : ¬ ((1152921504606846975 : Int) < (mi : Int)) := by omega
        have HMS := Lib.hid (show minS mi = (mi : Int) by unfold minS; rw [if_neg hbig])
        clear hbig
        go_wp2_with (go_at_call 81; refine HFD.out.mono ?_; rintro e w' ⟨rfl, rfl⟩)
        go_ret2
        have ht := HTT.out
        clear HTT
        subst ht
        have hr := HR.out
        clear HR
        subst hr
        refine ⟨?_, HBE.out⟩
        show _ = Ending.returned (.tuple #[.int .i64 (k : Int), .int .i64 (minS mi)])
        rw [HMS.out]; rfl
    | some xy =>
      obtain ⟨x, y⟩ := xy
      have HFD := Lib.hid (find_some R bs' C cur k x y wo hE.mu (by rw [hE.len]; exact hn) hC (by omega) hF)
      rw [hE.len] at HFD
      have HTT := Lib.hid ((elF_some hF).symm.trans HT.out)
      obtain ⟨hx1, hx2, hy1, hy2, _⟩ := findF_some hF
      rw [hE.len] at hx2
      have hk2 : k < n := by omega
      have hkC : k < C := by omega
      have HP := Lib.hid (elS_pos hE.cl hF)
      obtain ⟨A1, hA1⟩ : ∃ A1, A1 = elS cur k x y := ⟨_, rfl⟩
      have HA1 := Lib.hid (show A1.length = n ∧ Ltm 2305843009213693951 A1 ∧ Cl C A1 by
        rw [hA1]
        exact ⟨by rw [elS_length]; exact hE.len, hE.lt.elS hE.cl (by omega) (by rw [hE.len]; exact hk2) hkC (by rw [hE.len]; exact hx2) hy2, hE.cl.elS (by rw [hE.len]; exact hk2) (by rw [hE.len]; exact hx2)⟩)
      have HFO := Lib.hid (fun w' (q : Found R bs' C cur k x y wo w') => (show ∃ bs2, El R R bs C n rk w A1 k bs2 w' from by
        obtain ⟨bs2, h1, h2, h3⟩ := q
        rw [show swC (swR cur x k) y k = A1 from hA1.symm] at h1
        exact ⟨bs2, hE.next (by rw [HR.out]; exact hE.bel.size) HL.out HNK.out h1 h2 h3 HA1.out.1 HA1.out.2.1 HA1.out.2.2⟩))
      rw [← hA1] at HP HTT
      clear hE hF HT hA1 hx1 hx2 hy1 hy2
      obtain ⟨ex, hex⟩ : ∃ ex, ex = exN x y k := ⟨_, rfl⟩
      have hex2 : ex ≤ 2 := by rw [hex]; unfold exN; split <;> split <;> omega
      rw [← hex] at HTT HFD
      clear hex
      go_upto_region 5 with (go_at_call 81; refine HFD.out.mono ?_; rintro e w' ⟨rfl, hfo⟩)
      obtain ⟨bs2, hE2⟩ := HFO.out _ hfo
      clear hfo HFO y0 HFD
      obtain ⟨bk, hbk, hbkm⟩ := hE2.mu.bl (i := k) (by rw [hE2.len]; exact hk2)
      have y0 := hE2.box.cell 0
      have c1 := hE2.mu.cellR hbk
      have z0 : (k : Int) < (n : Int) := by omega
      have z0' : (k : Int) < (C : Int) := by omega
      have lR := hE2.bel.size
      have HBK := Lib.hid hbk
      have hE3 := hE2.alloc (by rw [HR.out]; exact lR) (.cells #[.slice (some ⟨bk, 0, none⟩) C C] 82)
      have hpv : Arr (w'.alloc (.cells #[.slice (some ⟨bk, 0, none⟩) C C] 82)) w'.heap.size 82 [hd C bk] := Arr.new w' 82 [.slice (some ⟨bk, 0, none⟩) C C]
      have npv : w'.heap.size ∉ bs2 := fun q => by have := hE2.mu.lt _ q; omega
      have npk : w'.heap.size ≠ rk := by have := hE2.box.lt; omega
      have HNPV := Lib.hid npv
      clear hbk hE2 npv
      go_upto_region 6 with fail
      generalize w'.alloc (.cells #[.slice (some ⟨bk, 0, none⟩) C C] 82) = w3 at hE3 hpv ⊢
      generalize w'.heap.size = pv at *
      clear y0 c1 lR
      have y0 := hE3.box.cell 0
      have y1 : w3.cell? ⟨pv, 0, none⟩ = some (.slice (some ⟨bk, 0, none⟩) C C) := hpv.cell 0
      have c2 := hE3.mu.cell HBK.out hkC
      have hv1 := HA1.out.2.1 k k
      have HE3 := Lib.hid hE3
      have HPV := Lib.hid hpv
      obtain ⟨v, hv⟩ : ∃ v, v = ge A1 k k := ⟨_, rfl⟩
      rw [← hv] at c2 hv1 HTT HP
      have HVV := Lib.hid hv
      have HMU := Lib.hid (fun W => mulP_any mi v W (by omega) (by omega))
      have hmq : mi * v % 2305843009213693951 < 2305843009213693951 := Nat.mod_lt _ (by omega)
      have HSU := Lib.hid (fun W => subP0_any (mi * v % 2305843009213693951) W hmq)
      have HEM := Lib.hid (show elM mi v ex = if ex = 1 then (0 + (2305843009213693951 - mi * v % 2305843009213693951)) % 2305843009213693951 else mi * v % 2305843009213693951 from rfl)
      have hem := elM_lt mi v ex
      generalize elM mi v ex = em at *
      generalize (0 + (2305843009213693951 - mi * v % 2305843009213693951)) % 2305843009213693951 = ms at *
      generalize mi * v % 2305843009213693951 = mq at *
      clear hv hE3 hpv
      go_upto_if 35 with (go_at_call 82; (with_reducible refine (HMU.out _).mono ?_); rintro e w' ⟨q, rfl, rfl⟩)
      go_cut [6] (fun s6 wx => s6 = .int .u64 (em : Int) ∧ ∃ q, wx = w3.drewN q)
      case first =>
        by_cases he : ex = 1
        · have z1 : ((ex : Int) == 1) = true := by simp; omega
          have E := Lib.hid he
          clear he
          go_wp2_with (go_at_call 83; (with_reducible refine (HSU.out _).mono ?_); rintro e w' ⟨rfl, rfl⟩)
          go_meet
          refine ⟨?_, _, rfl⟩
          rw [HEM.out, if_pos E.out]
        · have z1 : ((ex : Int) == 1) = false := by simp; omega
          have E := Lib.hid he
          clear he
          go_wp2_with fail
          go_meet
          refine ⟨?_, _, rfl⟩
          rw [HEM.out, if_neg E.out]
      case rest =>
        obtain ⟨rfl, q4, hwc⟩ := hcut
        have hE4 : El R R bs C n rk w A1 k bs2 wc := by rw [hwc]; exact HE3.out.drewN _
        have hp4 : Arr wc pv 82 [hd C bk] := by rw [hwc]; exact HPV.out
        clear hwc y0 y1 c2 HE3 HPV HMU HSU HEM
        have y0 := hE4.box.cell 0
        have y1 : wc.cell? ⟨pv, 0, none⟩ = some (.slice (some ⟨bk, 0, none⟩) C C) := hp4.cell 0
        have c2 := hE4.mu.cell HBK.out hkC
        rw [← HVV.out] at c2
        have HIV := Lib.hid (fun W => inverse_any v W (by omega))
        have hiv := invF_lt v
        obtain ⟨iv, hivv⟩ : ∃ iv, iv = invF v := ⟨_, rfl⟩
        rw [← hivv] at HIV hiv
        have HIVV := Lib.hid hivv
        clear hivv
        have HE4 := Lib.hid hE4
        have HP4 := Lib.hid hp4
        clear hE4 hp4
        go_upto_region 10 with (go_at_call 84; (with_reducible refine (HIV.out _).mono ?_); rintro e w' ⟨q, rfl, rfl⟩)
        have hE5 := HE4.out.drewN q
        have hp5 : Arr (wc.drewN q) pv 82 [hd C bk] := HP4.out
        generalize wc.drewN q = w5 at *
        clear y0 y1 c2 HE4 HP4 HIV
        have y0 := hE5.box.cell 0
        have HE5 := Lib.hid hE5
        have HP5 := Lib.hid hp5
        clear hE5 hp5
        have HG := Lib.hid (show gr A1 k = gr A1 k ∧ elN A1 k = updR A1 (k + 1) n (elR k (gr A1 k)) from ⟨rfl, by unfold elN; rw [HA1.out.1]⟩)
        have HUP := Lib.hid (fun x => (show (updR A1 (k + 1) x (elR k (gr A1 k))).length = n ∧ Ltm 2305843009213693951 (updR A1 (k + 1) x (elR k (gr A1 k))) ∧ Cl C (updR A1 (k + 1) x (elR k (gr A1 k))) from
          ⟨by rw [updR_length]; exact HA1.out.1, HA1.out.2.1.updR HA1.out.2.2 (by omega) (fun r _ hr j => elR_lt hr j), HA1.out.2.2.updR (fun r hr => by rw [elR_length]; exact hr)⟩))
        by_cases hlast : k + 1 = n
        · have z2 : ¬ ((k : Int) + 1 < (n : Int)) := by omega
          have HLA := Lib.hid hlast
          clear hlast
          have hz : n - (k + 1) = 0 := by have := HLA.out; omega
          have HNN := Lib.hid (show updR A1 (k + 1) n (elR k (gr A1 k)) = A1 by rw [HLA.out, updR_start])
          go_wp2_with fail
          clear hz
          go_loopg [13, 49] 0 (fun gk s13 s49 wr => gk = 0 ∧ s49 = .int .i64 0 ∧ w5 = wr)
          case atStart => exact ⟨rfl, rfl, rfl⟩
          case round =>
            obtain ⟨rfl, rfl, rfl⟩ := hrel
            have zf := HE5.out.box.frozen 0
            go_wp2_with fail
            go_roundg (n + 1 - (k + 1))
            case measure => omega
            case rel => exact ⟨A1, k + 1, em, bs2, g, rfl, rfl, by omega, by omega, hem, Lib.hid (by have := HTT.out; rw [HG.out.2, HNN.out] at this; exact this), HE5.out.box_next (k' := k + 1) HRK.out HNK.out⟩
        · have z2 : (k : Int) + 1 < (n : Int) := by omega
          go_wp2_with fail
          generalize hLL : n - (k + 1) = L at *
          have HLN := Lib.hid (show k + 1 + L = n by omega)
          have hL2 : L ≤ 1000 := by omega
          clear hLL y0
          go_loopg [13, 49] L (fun gk s13 s49 wr => ∃ x : Nat, x ≤ L ∧ gk = L - x ∧ s49 = .int .i64 (x : Int) ∧ El R R bs C n rk w (updR A1 (k + 1) (k + 1 + x) (elR k (gr A1 k))) k bs2 wr ∧ Arr wr pv 82 [hd C bk])
          case atStart => exact ⟨0, Nat.zero_le _, rfl, rfl, by rw [Nat.add_zero, updR_start]; exact HE5.out, HP5.out⟩
          case round =>
            clear HE5 HP5
            obtain ⟨x, hx, rfl, rfl, hE, hp⟩ := hrel
            obtain ⟨wp, rfl⟩ : ∃ wp : World, wp = wr := ⟨_, rfl⟩
            have y0 := hE.box.cell 0
            have zf := hE.box.frozen 0
            by_cases hxt : x < L
            · have z3 : (x : Int) < (L : Int) := by omega
              have hin : k + 1 + x < n := by have := HLN.out; omega
              obtain ⟨d, hd', hdm⟩ := hE.mu.bl (i := k + 1 + x) (by rw [hE.len]; exact hin)
              have c1 := hE.mu.cellR hd'
              have c2 := hE.mu.cell hd' hkC
              unfold ge at c2
              rw [gr_updR_at] at c2
              have HST := Lib.hid (updR_step (A := A1) (lo := k + 1) (x := k + 1 + x) (f := elR k (gr A1 k)) (Nat.le_add_right _ _) (by rw [HA1.out.1]; exact hin))
              have hvr : gn (gr A1 (k + 1 + x)) k < 2305843009213693951 := HA1.out.2.1 _ k
              by_cases h0 : gn (gr A1 (k + 1 + x)) k = 0
              · have HEQ := Lib.hid (show updR A1 (k + 1) (k + 1 + (x + 1)) (elR k (gr A1 k)) = updR A1 (k + 1) (k + 1 + x) (elR k (gr A1 k)) by
                  rw [← Nat.add_assoc, ← HST.out]
                  unfold elR
                  rw [if_pos h0]
                  have := set_gr_self (updR A1 (k + 1) (k + 1 + x) (elR k (gr A1 k))) (k + 1 + x)
                  rw [gr_updR_at] at this
                  exact this)
                rw [h0] at c2
                have HE := Lib.hid hE
                clear hE hd' h0
                go_wp2_with fail
                go_roundg (L - (x + 1))
                case measure => omega
                case rel => exact ⟨x + 1, by omega, rfl, by go_num, by rw [HEQ.out]; exact HE.out, hp⟩
              · have HER := Lib.hid (show elR k (gr A1 k) (gr A1 (k + 1 + x)) = cmb 2305843009213693951 (gn (gr A1 (k + 1 + x)) k * iv % 2305843009213693951) k (gr A1 (k + 1 + x)).length (gr A1 k) (gr A1 (k + 1 + x)) by
                  unfold elR; rw [if_neg h0, HIVV.out, HVV.out]; rfl)
                have HML := Lib.hid (fun W => mulP_any (gn (gr A1 (k + 1 + x)) k) iv W (by omega) (by omega))
                have hby : gn (gr A1 (k + 1 + x)) k * iv % 2305843009213693951 < 2305843009213693951 := Nat.mod_lt _ (by omega)
                have hne : d ≠ bk := hE.mu.ne hd' HBK.out (by omega)
                have hdr : d ≠ rk := fun e => HNK.out (by rw [← e]; exact List.mem_cons_of_mem _ (hE.sub d hdm))
                have hdp : d ≠ pv := fun e => HNPV.out (by rw [← e]; exact hdm)
                have HCB := Lib.hid (fun (q : Nat) => combine_any d bk rk pv C (gr A1 (k + 1 + x)) (gr A1 k) (gn (gr A1 (k + 1 + x)) k * iv % 2305843009213693951) k (wp.drewN q)
                  (by have := hE.mu.row _ d hd'; rw [gr_updR_at] at this; exact this) (by have := hE.mu.row k bk HBK.out; rw [gr_updR (by rw [HA1.out.1]; exact hk2), if_neg (by omega)] at this; exact this)
                  hE.box hp hne hdr hdp (HA1.out.2.2 _ (by rw [HA1.out.1]; exact hin)) (HA1.out.2.2 k (by rw [HA1.out.1]; exact hk2)) hC (by omega) hby (fun j => HA1.out.2.1 _ j) (fun j => HA1.out.2.1 k j))
                have HNX := Lib.hid (fun (q : Nat) (w' : World) (ha : Arr w' d 72 (uc (cmb 2305843009213693951 (gn (gr A1 (k + 1 + x)) k * iv % 2305843009213693951) k C (gr A1 k) (gr A1 (k + 1 + x))))) (ho : Onl d (wp.drewN q) w') => (show El R R bs C n rk w (updR A1 (k + 1) (k + 1 + (x + 1)) (elR k (gr A1 k))) k bs2 w' ∧ Arr w' pv 82 [hd C bk] from by
                  have hE' := hE.drewN q
                  have hcl := HA1.out.2.2 (k + 1 + x) (by rw [HA1.out.1]; exact hin)
                  have hu := HUP.out (k + 1 + (x + 1))
                  refine ⟨hE'.next (by rw [HR.out]; exact hE'.bel.size) HL.out HNK.out ?_ (fun _ q => q) (Wr.of_onl ho (List.mem_cons_of_mem _ hdm)) hu.1 hu.2.1 hu.2.2, Arr.onl (w := wp.drewN q) hp ho hdp.symm⟩
                  rw [← Nat.add_assoc, ← HST.out, HER.out, hcl]
                  exact hE'.mu.setRow hd' ho (by rw [cmb_length]; exact hcl) ha))
                have z4 : (((gn (gr A1 (k + 1 + x)) k : Nat) : Int) != 0) = true := by simp; omega
                have HC2 := Lib.hid c2
                generalize gn (gr A1 (k + 1 + x)) k * iv % 2305843009213693951 = by_ at *
                generalize gn (gr A1 (k + 1 + x)) k = vr at *
                clear hE hp hd' h0 HST HER
                have c2 := HC2.out
                go_wp2_with (first | (go_at_call 82; (with_reducible refine (HML.out _).mono ?_); rintro e w' ⟨q, rfl, rfl⟩) | (go_at_call 85; (with_reducible refine (HCB.out _).mono ?_); rintro e w' ⟨rfl, ha, ho⟩))
                go_roundg (L - (x + 1))
                case measure => omega
                case rel => exact ⟨x + 1, by omega, rfl, by go_num, HNX.out _ _ ha ho⟩
            · have z3 : ¬ ((x : Int) < (L : Int)) := by omega
              have hxn : x = L := by omega
              have HXN := Lib.hid (show k + 1 + x = n by rw [hxn]; exact HLN.out)
              have HE := Lib.hid hE
              clear hxn hE
              go_wp2_with fail
              go_roundg (n + 1 - (k + 1))
              case measure => omega
              case rel => exact ⟨elN A1 k, k + 1, em, bs2, g, rfl, rfl, by omega, by omega, hem, HTT, by have e := HE.out.box_next (k' := k + 1) HRK.out HNK.out; rw [HXN.out] at e; rw [HG.out.2]; exact e⟩
end Go.Proofs.Ytcjaloddgilnpaa

namespace Go.Proofs.Ytcjaloddgilnpaa
set_option linter.unusedVariables false

theorem isoF_wk {m k C : Nat} : ∀ (f : Nat) (A : List (List Nat)), Wk m k C A → Wk m k C (isoF m k C f A)
  | 0, A, h => h
  | f + 1, A, h => by
    rw [isoF]; split
    · exact isoF_wk f _ h.rowsAll.colsAll
    · exact h.rowsAll.colsAll
theorem isoF_length {m k C : Nat} : ∀ (f : Nat) (A : List (List Nat)), (isoF m k C f A).length = A.length
  | 0, A => rfl
  | f + 1, A => by
    rw [isoF]; split
    · rw [isoF_length f, colsAll_length, rowsAll_length]
    · rw [colsAll_length, rowsAll_length]
/-- one step of factors -/
def facS (m C : Nat) (A : List (List Nat)) (k : Nat) : List (List Nat) :=
  match findF A k C with
  | none => A
  | some (x, y) => isoF m k C (isoM k C (elS A k x y) + 1) (elS A k x y)
def facA (m C : Nat) (A : List (List Nat)) : Nat → List (List Nat)
  | 0 => A
  | k + 1 => facS m C (facA m C A k) k
theorem facS_none {m C k : Nat} {A : List (List Nat)} (h : findF A k C = none) : facS m C A k = A := by unfold facS; rw [h]
theorem facS_some {m C k x y : Nat} {A : List (List Nat)} (h : findF A k C = some (x, y)) : facS m C A k = isoF m k C (isoM k C (elS A k x y) + 1) (elS A k x y) := by unfold facS; rw [h]
theorem wk_of_find {m C k x y : Nat} {A : List (List Nat)} (h : findF A k C = some (x, y)) (hl : Ltm m A) (hc : Cl C A) (hm : 0 < m) : Wk m k C (elS A k x y) := by
  obtain ⟨h1, h2, h3, h4, _⟩ := findF_some h
  exact ⟨hl.elS hc hm (by omega) (by omega) h2 h4, hc.elS (by omega) h2, by rw [elS_length]; omega, by omega, elS_pos hc h⟩
theorem facS_all {m C : Nat} {A : List (List Nat)} (hl : Ltm m A) (hc : Cl C A) (hm : 0 < m) (k : Nat) : Ltm m (facS m C A k) ∧ Cl C (facS m C A k) ∧ (facS m C A k).length = A.length := by
  cases h : findF A k C with
  | none => rw [facS_none h]; exact ⟨hl, hc, rfl⟩
  | some xy =>
    obtain ⟨x, y⟩ := xy
    rw [facS_some h]
    have hw := isoF_wk (isoM k C (elS A k x y) + 1) _ (wk_of_find h hl hc hm)
    exact ⟨hw.lt, hw.cl, by rw [isoF_length, elS_length]⟩
theorem facA_all {m C : Nat} {A : List (List Nat)} (hl : Ltm m A) (hc : Cl C A) (hm : 0 < m) : ∀ k, Ltm m (facA m C A k) ∧ Cl C (facA m C A k) ∧ (facA m C A k).length = A.length
  | 0 => ⟨hl, hc, rfl⟩
  | k + 1 => by
    obtain ⟨a, b, c⟩ := facA_all hl hc hm k
    obtain ⟨a', b', c'⟩ := facS_all a b hm k
    exact ⟨a', b', c'.trans c⟩
/-- the elements of the diagonal -/
def dgv (m C : Nat) (A : List (List Nat)) (k : Nat) : Nat := Nat.gcd (ge (facA m C A (k + 1)) k k) m
def dgP (m C : Nat) (A : List (List Nat)) (d x : Nat) : List Nat := (List.range d).map fun j => if j < x then dgv m C A j else 0
theorem dgP_length (m C : Nat) (A : List (List Nat)) (d x : Nat) : (dgP m C A d x).length = d := by simp [dgP]
theorem gn_dgP {m C : Nat} {A : List (List Nat)} {d x j : Nat} (h : j < d) : gn (dgP m C A d x) j = if j < x then dgv m C A j else 0 := by unfold dgP; rw [gn_map_range, if_pos h]
theorem dgP_zero (m C : Nat) (A : List (List Nat)) (d : Nat) : dgP m C A d 0 = List.replicate d 0 := by
  apply gn_ext (by simp [dgP_length])
  intro i hi
  rw [dgP_length] at hi
  rw [gn_dgP hi, if_neg (by omega)]
  unfold gn; rw [List.getElem?_replicate, if_pos hi]; rfl
theorem dgP_step {m C : Nat} {A : List (List Nat)} {d x : Nat} (h : x < d) : (dgP m C A d x).set x (dgv m C A x) = dgP m C A d (x + 1) := by
  apply gn_ext (by simp [dgP_length])
  intro i hi
  have hi' : i < d := by simpa [dgP_length] using hi
  rw [gn_set _ _ _ _ (by rw [dgP_length]; exact h), gn_dgP hi', gn_dgP hi']
  by_cases e : i = x
  · subst e; rw [if_pos rfl, if_pos (by omega)]
  · rw [if_neg e]
    by_cases c : i < x
    · rw [if_pos c, if_pos (by omega)]
    · rw [if_neg c, if_neg (by omega)]
/-- every element divides m -/
def Dvs (m : Nat) (D : List Nat) : Prop := ∀ i, i < D.length → gn D i ∣ m
theorem dgP_dvs (m C : Nat) (A : List (List Nat)) (d : Nat) : Dvs m (dgP m C A d d) := by
  intro i hi
  rw [dgP_length] at hi
  rw [gn_dgP hi, if_pos hi]
  exact Nat.gcd_dvd_right _ _
/-- two elements become the greatest common divisor and the least common multiple -/
def chS (i k : Nat) (D : List Nat) : List Nat := (D.set i (Nat.gcd (gn D i) (gn D k))).set k (gn D i / Nat.gcd (gn D i) (gn D k) * gn D k)
theorem chS_length (i k : Nat) (D : List Nat) : (chS i k D).length = D.length := by simp [chS]
theorem div_gcd_mul (a b : Nat) : a / Nat.gcd a b * b = Nat.lcm a b := by
  unfold Nat.lcm
  rw [Nat.mul_comm (a / Nat.gcd a b) b, ← Nat.mul_div_assoc _ (Nat.gcd_dvd_left a b), Nat.mul_comm b a]
theorem gn_chS {i k : Nat} {D : List Nat} (hi : i < D.length) (hk : k < D.length) (c : Nat) : gn (chS i k D) c = if c = k then Nat.lcm (gn D i) (gn D k) else if c = i then Nat.gcd (gn D i) (gn D k) else gn D c := by
  unfold chS
  rw [gn_set _ _ _ _ (by simpa using hk), gn_set _ _ _ _ hi, div_gcd_mul]
theorem Dvs.chS {m i k : Nat} {D : List Nat} (h : Dvs m D) (hi : i < D.length) (hk : k < D.length) : Dvs m (chS i k D) := by
  intro c hc
  rw [chS_length] at hc
  rw [gn_chS hi hk]
  split
  · exact Nat.lcm_dvd (h i hi) (h k hk)
  · split
    · exact Nat.dvd_trans (Nat.gcd_dvd_left _ _) (h i hi)
    · exact h c hc
def chU (i : Nat) (D : List Nat) : Nat → List Nat
  | 0 => D
  | x + 1 => chS i (i + 1 + x) (chU i D x)
def chI (d : Nat) (D : List Nat) : Nat → List Nat
  | 0 => D
  | i + 1 => chU i (chI d D i) (d - (i + 1))
theorem chU_length (i : Nat) (D : List Nat) : ∀ x, (chU i D x).length = D.length
  | 0 => rfl
  | x + 1 => by rw [chU, chS_length, chU_length i D x]
theorem chI_length (d : Nat) (D : List Nat) : ∀ i, (chI d D i).length = D.length
  | 0 => rfl
  | i + 1 => by rw [chI, chU_length, chI_length d D i]
theorem Dvs.chU {m i : Nat} {D : List Nat} (h : Dvs m D) (hi : i < D.length) : ∀ x, i + 1 + x ≤ D.length → Dvs m (chU i D x)
  | 0, _ => h
  | x + 1, hx => by
    rw [Go.Proofs.Ytcjaloddgilnpaa.chU]
    exact (Dvs.chU h hi x (by omega)).chS (by rw [chU_length]; exact hi) (by rw [chU_length]; omega)
theorem Dvs.chI {m d : Nat} {D : List Nat} (h : Dvs m D) (hd : D.length = d) : ∀ i, i ≤ d → Dvs m (chI d D i)
  | 0, _ => h
  | i + 1, hi => by
    rw [Go.Proofs.Ytcjaloddgilnpaa.chI]
    exact (Dvs.chI h hd i (by omega)).chU (by rw [chI_length]; omega) _ (by rw [chI_length]; omega)
theorem chU_next {i k : Nat} (D : List Nat) (h : i + 1 ≤ k) : chU i D (k + 1 - (i + 1)) = chS i k (chU i D (k - (i + 1))) := by
  rw [show k + 1 - (i + 1) = (k - (i + 1)) + 1 by omega, chU, show i + 1 + (k - (i + 1)) = k by omega]
/-- what factors returns: the modulus stands for 0 -/
def outP (m : Nat) (D : List Nat) (x : Nat) : List Nat := (List.range D.length).map fun j => if j < x ∧ gn D j ≠ m then gn D j else 0
theorem outP_length (m : Nat) (D : List Nat) (x : Nat) : (outP m D x).length = D.length := by simp [outP]
theorem gn_outP {m : Nat} {D : List Nat} {x j : Nat} (h : j < D.length) : gn (outP m D x) j = if j < x ∧ gn D j ≠ m then gn D j else 0 := by unfold outP; rw [gn_map_range, if_pos h]
theorem outP_zero (m : Nat) (D : List Nat) : outP m D 0 = List.replicate D.length 0 := by
  apply gn_ext (by simp [outP_length])
  intro i hi
  rw [outP_length] at hi
  rw [gn_outP hi, if_neg (by omega)]
  unfold gn; rw [List.getElem?_replicate, if_pos hi]; rfl
theorem outP_step {m : Nat} {D : List Nat} {x : Nat} (h : x < D.length) (hne : gn D x ≠ m) : (outP m D x).set x (gn D x) = outP m D (x + 1) := by
  apply gn_ext (by simp [outP_length])
  intro i hi
  have hi' : i < D.length := by simpa [outP_length] using hi
  rw [gn_set _ _ _ _ (by rw [outP_length]; exact h), gn_outP hi', gn_outP hi']
  by_cases e : i = x
  · subst e; rw [if_pos rfl, if_pos ⟨by omega, hne⟩]
  · rw [if_neg e]
    by_cases c : i < x ∧ gn D i ≠ m
    · rw [if_pos c, if_pos ⟨by omega, c.2⟩]
    · rw [if_neg c, if_neg (fun q => c ⟨by omega, q.2⟩)]
theorem outP_skip {m : Nat} {D : List Nat} {x : Nat} (h : x < D.length) (hne : gn D x = m) : outP m D x = outP m D (x + 1) := by
  apply gn_ext (by simp [outP_length])
  intro i hi
  rw [outP_length] at hi
  rw [gn_outP hi, gn_outP hi]
  by_cases c : i < x ∧ gn D i ≠ m
  · rw [if_pos c, if_pos ⟨by omega, c.2⟩]
  · rw [if_neg c, if_neg (fun q => c ⟨by
      by_cases e : i = x
      · subst e; exact absurd hne q.2
      · omega, q.2⟩)]
/-- the whole of factors -/
def facD (m C : Nat) (rows : List (List Int)) (d : Nat) : List Nat := chI d (dgP m C (resF m rows) d d) d
def facO (m C : Nat) (rows : List (List Int)) (d : Nat) : List Nat := outP m (facD m C rows d) d
end Go.Proofs.Ytcjaloddgilnpaa
