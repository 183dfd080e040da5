/- unravelref12.Add (for polynomials that are not big). -/
import Derived.Test.YtlbihllmpbhhcaaDoorRco
import Derived.Test.YtlbihllmpbhhcaaDoorRpr
import Derived.Test.YtlbihllmpbhhcaaDoorPhi
namespace Go.Proofs.YtlbihllmpbhhcaaDoor
open Go.RowKit
set_option linter.unusedVariables false

/-- the sums with the terms of a list put in -/
def addL (L M : List (Int × Int)) : List (Int × Int) := M.foldl (fun L t => insL L t.1 t.2) L
theorem addL_snoc (L M : List (Int × Int)) (t : Int × Int) : addL L (M ++ [t]) = insL (addL L M) t.1 t.2 := by unfold addL; rw [List.foldl_append]; rfl
theorem addL_take {L M : List (Int × Int)} {k : Nat} (hk : k < M.length) : addL L (M.take (k + 1)) = insL (addL L (M.take k)) M[k].1 M[k].2 := by rw [← List.take_append_getElem hk, addL_snoc]
theorem addL_len (L M : List (Int × Int)) : (addL L M).length ≤ L.length + M.length := by
  induction M generalizing L with
  | nil => simp [addL]
  | cons t M ih =>
    have h1 := ih (insL L t.1 t.2)
    have h2 := insL_len L t.1 t.2
    show (addL (insL L t.1 t.2) M).length ≤ _
    rw [List.length_cons]; omega
theorem addL_cf (L M : List (Int × Int)) (e : Int) : cf (addL L M) e = cf L e + cf M e := by
  induction M generalizing L with
  | nil => rw [cf_nil]; simp [addL]
  | cons t M ih =>
    show cf (addL (insL L t.1 t.2) M) e = _
    rw [ih, insL_cf, cf_cons]; omega
theorem addL_srt {L : List (Int × Int)} (M : List (Int × Int)) (h : Srt L) : Srt (addL L M) := by
  induction M generalizing L with
  | nil => exact h
  | cons t M ih => exact ih (insL_srt h)
theorem insL_bd {L : List (Int × Int)} {x X B C : Int} (hB : 0 ≤ B) (hC : 0 ≤ C) (hL : ∀ t ∈ L, -B ≤ t.2 ∧ t.2 ≤ B) (hX : -C ≤ X ∧ X ≤ C) : ∀ t ∈ insL L x X, -(B + C) ≤ t.2 ∧ t.2 ≤ B + C := by
  induction L with
  | nil =>
    intro t ht
    rw [insL, List.mem_singleton] at ht
    subst ht
    show -(B + C) ≤ X ∧ X ≤ B + C
    omega
  | cons s L ih =>
    have hs := hL s (List.mem_cons_self ..)
    have hr : ∀ t ∈ L, -B ≤ t.2 ∧ t.2 ≤ B := fun t ht => hL t (List.mem_cons_of_mem _ ht)
    intro t ht
    rw [insL] at ht
    split at ht
    · rcases List.mem_cons.1 ht with rfl | ht
      · omega
      · exact ih hr t ht
    · split at ht
      · rcases List.mem_cons.1 ht with rfl | ht
        · show -(B + C) ≤ s.2 + X ∧ s.2 + X ≤ B + C
          omega
        · have := hr t ht; omega
      · rcases List.mem_cons.1 ht with rfl | ht
        · show -(B + C) ≤ X ∧ X ≤ B + C
          omega
        · have := hL t ht; omega
theorem addL_bd {C : Int} (hC : 0 ≤ C) (M : List (Int × Int)) : ∀ {L : List (Int × Int)} {B : Int}, 0 ≤ B → (∀ t ∈ L, -B ≤ t.2 ∧ t.2 ≤ B) → (∀ t ∈ M, -C ≤ t.2 ∧ t.2 ≤ C) → ∀ t ∈ addL L M, -(B + M.length * C) ≤ t.2 ∧ t.2 ≤ B + M.length * C := by
  induction M with
  | nil => intro L B hB hL _ t ht; have := hL t ht; simpa using this
  | cons m M ih =>
    intro L B hB hL hM t ht
    have := ih (L := insL L m.1 m.2) (B := B + C) (by omega) (insL_bd hB hC hL (hM m (List.mem_cons_self ..))) (fun s hs => hM s (List.mem_cons_of_mem _ hs)) t ht
    rw [List.length_cons]
    have e : ((M.length + 1 : Nat) : Int) * C = (M.length : Int) * C + C := by rw [Int.natCast_add, Int.add_mul]; simp
    rw [e]; omega
/-- an element of a slice of terms -/
theorem SlA.tat {w : World} {A : Option Addr} {n c k : Nat} {xs : List (Int × Int)} (h : SlA et w (.slice A n c) xs) (hk : k < xs.length) : ∃ b o, A = some ⟨b, o, none⟩ ∧ w.cell? ⟨b, o + k * 2, none⟩ = some (.int .i64 xs[k].1) ∧ w.cell? ⟨b, o + k * 2 + 1, none⟩ = some (.int .i64 xs[k].2) := by
  obtain ⟨A', c', hv, hc, hx⟩ := h
  injection hv with e1 e2 e3
  subst e1
  have h0 := flat_get (enc := et) (sz := 2) (fun x => rfl) xs k 0 hk (by omega)
  have h1 := flat_get (enc := et) (sz := 2) (fun x => rfl) xs k 1 hk (by omega)
  obtain ⟨b, o, hA, hcell⟩ := hx _ _ h0
  obtain ⟨b', o', hA', hcell'⟩ := hx _ _ h1
  rw [hA] at hA'
  injection hA' with hA'
  injection hA' with q1 q2
  subst q1 q2
  exact ⟨b, o, hA, hcell, by rw [Nat.add_assoc]; exact hcell'⟩
theorem Sums.nil (w : World) : Sums w (.slice none 0 0) (.slice none 0 0) [] := ⟨SlA.nil _ w, SlA.nil _ w⟩
set_option maxHeartbeats 4000000 in
set_option maxRecDepth 100000 in
theorem radd_any (vp vq : Value) (la lb : List (Int × Int)) (w : World) (hp : RP w vp (some la)) (hq : RP w vq (some lb)) (hla : la.length ≤ 100000) (hlb : lb.length ≤ 100000) (limA : Lim la) (limB : Lim lb) :
    Calls Tryd.prog 41 #[vp, vq] w fun e w' => ∃ v, e = .returned v ∧ RP w' v (colP (addL (addL [] la) lb)) ∧ Below w.heap.size w w' := by
  have HSP := Lib.hid (fun W (hb : Below w.heap.size w W) => hp.below hb)
  have HSQ := Lib.hid (fun W (hb : Below w.heap.size w W) => hq.below hb)
  obtain ⟨A1, c1, rfl, hp1⟩ := hp
  obtain ⟨A2, c2, rfl, hq1⟩ := hq
  have HS0 := Lib.hid (fun W (hb : Below w.heap.size w W) => (show SlA et W (.slice A1 la.length c1) la from hp1.below hb))
  have HS26 := Lib.hid (fun W (hb : Below w.heap.size w W) => (show SlA et W (.slice A2 lb.length c2) lb from hq1.below hb))
  have hc1 : la.length ≤ c1 := by obtain ⟨A, c, hv, hc, _⟩ := hp1; injection hv with e1 e2 e3; rw [e3]; exact hc
  have hc2 : lb.length ≤ c2 := by obtain ⟨A, c, hv, hc, _⟩ := hq1; injection hv with e1 e2 e3; rw [e3]; exact hc
  clear hp1 hq1 HSP HSQ
  simp only [Option.getD_some, Option.isNone_some]
  obtain ⟨n1, hn1⟩ : ∃ n, n = la.length := ⟨_, rfl⟩
  obtain ⟨n2, hn2⟩ : ∃ n, n = lb.length := ⟨_, rfl⟩
  rw [← hn1] at hla HS0 hc1 ⊢
  rw [← hn2] at hlb HS26 hc2 ⊢
  have HN0 := Lib.hid hn1
  have HN26 := Lib.hid hn2
  have HLA := Lib.hid limA
  have HLB := Lib.hid limB
  clear hn1 hn2 limA limB
  have hW : ∀ W, W = (((w.alloc (.cells #[.slice A1 n1 c1, .bool false] 36)).alloc (.cells #[.slice A2 n2 c2, .bool false] 36)).alloc (.cells #[.slice none 0 0, .bool false] 36)) → Arr W w.heap.size 36 [.slice A1 n1 c1, .bool false] ∧ Arr W (w.heap.size + 1) 36 [.slice A2 n2 c2, .bool false] ∧ Arr W (w.heap.size + 1 + 1) 36 [.slice none 0 0, .bool false] ∧ Below w.heap.size w W := by
    intro W hW
    subst hW
    exact ⟨((Arr.new _ _ [_, _]).alloc _).alloc _, (Arr.newAt (w.alloc _) _ [_, _] _ (by simp)).alloc _, Arr.newAt ((w.alloc _).alloc _) _ [_, _] _ (by simp), (((Below.refl _ _).alloc (Nat.le_refl _) _).alloc (by simp) _).alloc (by simp <;> omega) _⟩
  go_enter Tryd.func41, Tryd.ntmps41
  go_upto_region 1 with fail
  generalize (((w.alloc (.cells #[.slice A1 n1 c1, .bool false] 36)).alloc (.cells #[.slice A2 n2 c2, .bool false] 36)).alloc (.cells #[.slice none 0 0, .bool false] 36)) = w3 at hW ⊢
  obtain ⟨qp, qq, qr, hb3⟩ := hW w3 rfl
  have y1 := qp.cell 1
  have y3 := qq.cell 1
  have QP := Lib.hid qp
  have QQ := Lib.hid qq
  have QR := Lib.hid qr
  have HB3 := Lib.hid hb3
  have HT0 := Lib.hid (fun W (hb : Below w3.heap.size w3 W) => HS0.out W (hb3.trans (hb.mono hb3.size)))
  have HT26 := Lib.hid (fun W (hb : Below w3.heap.size w3 W) => HS26.out W (hb3.trans (hb.mono hb3.size)))
  obtain ⟨rb, hrb⟩ : ∃ r, r = w.heap.size := ⟨_, rfl⟩
  rw [← hrb] at QP QQ QR HB3 y1 y3 ⊢
  have HRB := Lib.hid hrb
  clear hW hb3 qp qq qr hrb HS0 HS26
  go_wp2_with fail
  go_loopg [5, 6, 7] n1 (fun gk s5 s6 s7 wr => ∃ k : Nat, k ≤ n1 ∧ gk = n1 - k ∧ s7 = .int .i64 (k : Int) ∧ Sums wr s5 s6 (addL [] (la.take k)) ∧ Below w3.heap.size w3 wr)
  case atStart => exact ⟨0, Nat.zero_le _, rfl, rfl, Sums.nil _, Below.refl _ _⟩
  case round =>
    skip
    obtain ⟨k, hk, rfl, rfl, hsm, hbm⟩ := hrel
    have HSM := Lib.hid hsm
    have HBM := Lib.hid hbm
    have qb := QP.out.below hbm QP.out.lt
    have yb0 := qb.cell 0
    clear hsm hbm qb
    by_cases hlt : k < n1
    · have z1 : (k : Int) < (n1 : Int) := by omega
      have hkl : k < la.length := by have := HN0.out; omega
      obtain ⟨y, hy⟩ : ∃ y, y = la[k].1 := ⟨_, rfl⟩
      obtain ⟨X, hX⟩ : ∃ X, X = la[k].2 := ⟨_, rfl⟩
      have hXb := HLA.out.co _ (List.getElem_mem hkl)
      rw [← hX] at hXb
      have HIN := Lib.hid (show addL [] (la.take (k + 1)) = insL (addL [] (la.take k)) y X from by rw [addL_take hkl, hy, hX])
      have HLEN := Lib.hid (show (addL [] (la.take k)).length ≤ 1000000 from by
        have h := addL_len [] (la.take k); rw [List.length_take, List.length_nil] at h; omega)
      have HBD := Lib.hid (show ∀ t ∈ addL [] (la.take k), -649037107316853453566312041152512 ≤ t.2 ∧ t.2 ≤ 649037107316853453566312041152512 from by
        intro t ht; have h := addL_bd (C := 1125899906842624) (by omega) (la.take k) (L := []) (B := 0) (by omega) (fun t h => by cases h) (fun t ht => HLA.out.co t (List.mem_of_mem_take ht)) t ht; rw [List.length_take] at h; omega)
      obtain ⟨b, o, rfl, -, -⟩ := (HT0.out w3 (Below.refl _ _)).tat hkl
      have HCE := Lib.hid (fun W (hb : Below wr.heap.size wr W) => (show W.cell? ⟨b, o + k * 2, none⟩ = some (.int .i64 y) ∧ W.cell? ⟨b, o + k * 2 + 1, none⟩ = some (.int .i64 X) from by
        obtain ⟨b', o', hv, c0, c1⟩ := (HT0.out W (HBM.out.trans (hb.mono HBM.out.size))).tat hkl
        injection hv with hv
        injection hv with q1 q2
        subst q1 q2
        rw [c0, c1, hy, hX]
        exact ⟨rfl, rfl⟩))
      have HBX := Lib.hid (fun W (hb : Below wr.heap.size wr W) => (show W.cell? ⟨rb, 0, none⟩ = some (.slice (some ⟨b, o, none⟩) n1 c1) from (QP.out.below (HBM.out.trans (hb.mono HBM.out.size)) QP.out.lt).cell 0))
      have HPR := Lib.hid (fun W => (show Calls Tryd.prog 67 #[.int .i64 X, .int .i64 1] W (fun e w' => e = .returned (.agg #[.int .i64 (nh X), .int .i64 (nl X)]) ∧ Below W.heap.size W w') from by
        have := rprod_any X 1 W (by omega) (by omega)
        rwa [Int.mul_one] at this))
      generalize addL [] (la.take k) = L1 at *
      have HPU := Lib.hid (fun W (hb : Below wr.heap.size wr W) => put_ref _ _ L1 y X W (HSM.out.below hb) HLEN.out (by omega) HBD.out)
      clear hy hX hXb
      go_upto_region 8 with fail
      clear yb0
      refine wp_region_phi (by kernel_rfl) (by kernel_rfl) (by kernel_rfl) (by kernel_rfl) (by kernel_rfl) (phiT (fun i => ([some (u5), some (u6), some (.pointer (some ⟨rb, 0, none⟩)), some (.slice (some ⟨b, o, none⟩) n1 c1), some (.int .i64 (k : Int)), some (.pointer (some ⟨b, o + k * 2, none⟩)), some (.pointer (some ⟨b, o + k * 2, none⟩)), some (.int .i64 y), some (.pointer (some ⟨rb, 0, none⟩)), some (.slice (some ⟨b, o, none⟩) n1 c1), some (.int .i64 (k : Int)), some (.pointer (some ⟨b, o + k * 2, none⟩)), some (.pointer (some ⟨b, o + k * 2 + 1, none⟩)), some (.int .i64 X), some (.agg #[.int .i64 (nh X), .int .i64 (nl X)]), none, none, none, none, none, none] : List (Option Value)).getD i none) (fun i v w => (if i = 15 then (fun (v : Value) (w : World) => ∃ z1 z2, v = .tuple #[z1, z2] ∧ Sums w z1 z2 (insL L1 y X)) v w else (if i = 16 then (fun (v : Value) (w : World) => ∃ z1 z2, v = .tuple #[z1, z2] ∧ Sums w z1 z2 (insL L1 y X)) v w else (if i = 17 then (fun (v : Value) (w : World) => SlA ei w v ((insL L1 y X).map (·.1))) v w else (if i = 18 then (fun (v : Value) (w : World) => SlA ew w v ((insL L1 y X).map (·.2))) v w else (if i = 19 then (fun (v : Value) (w : World) => SlA ei w v ((insL L1 y X).map (·.1))) v w else (if i = 20 then (fun (v : Value) (w : World) => SlA ew w v ((insL L1 y X).map (·.2))) v w else True)))))))) (fun i v w w' h hb => ?_) ⟨?_, ?_, ?_, ?_, ?_, ?_, ?_, ?_, ?_, ?_, ?_, ?_, ?_, ?_, ?_, ?_, ?_, ?_, ?_, ?_, ?_, trivial⟩ ?_
      · unfold phiT at h ⊢
        split
        · next u hu => rw [hu] at h; exact h
        · next hu =>
          rw [hu] at h
          simp only at h ⊢
          by_cases q15 : i = 15
          · rw [if_pos q15] at h ⊢; exact (by obtain ⟨z1, z2, q1, q2⟩ := h; exact ⟨z1, z2, q1, q2.below hb⟩)
          · rw [if_neg q15] at h ⊢
            by_cases q16 : i = 16
            · rw [if_pos q16] at h ⊢; exact (by obtain ⟨z1, z2, q1, q2⟩ := h; exact ⟨z1, z2, q1, q2.below hb⟩)
            · rw [if_neg q16] at h ⊢
              by_cases q17 : i = 17
              · rw [if_pos q17] at h ⊢; exact SlA.below h hb
              · rw [if_neg q17] at h ⊢
                by_cases q18 : i = 18
                · rw [if_pos q18] at h ⊢; exact SlA.below h hb
                · rw [if_neg q18] at h ⊢
                  by_cases q19 : i = 19
                  · rw [if_pos q19] at h ⊢; exact SlA.below h hb
                  · rw [if_neg q19] at h ⊢
                    by_cases q20 : i = 20
                    · rw [if_pos q20] at h ⊢; exact SlA.below h hb
                    · rw [if_neg q20] at h ⊢
                      trivial
      · intro x w1 bA hbel hdep hold hb
        have e5 : bA.tmps[5]?.getD undef = u5 := (hb 5).trans (hold 19 (by decide))
        refine phi_run (u5) ?_ rfl
        clear hb hdep hold
        go_simp
      · intro x w1 bA hbel hdep hold hb
        have e6 : bA.tmps[6]?.getD undef = u6 := (hb 6).trans (hold 20 (by decide))
        refine phi_run (u6) ?_ rfl
        clear hb hdep hold
        go_simp
      · intro x w1 bA hbel hdep hold hb
        have e2 : bA.tmps[2]?.getD undef = .pointer (some ⟨rb, 0, none⟩) := hb 2
        refine phi_run (.pointer (some ⟨rb, 0, none⟩)) ?_ rfl
        clear hb hdep hold
        go_simp
      · intro x w1 bA hbel hdep hold hb
        have e26 : bA.tmps[26]?.getD undef = .pointer (some ⟨rb, 0, none⟩) := (hb 26).trans (hdep 2 (by decide))
        have yb := HBX.out w1 hbel
        refine phi_run (.slice (some ⟨b, o, none⟩) n1 c1) ?_ rfl
        clear hb hdep hold
        go_simp
      · intro x w1 bA hbel hdep hold hb
        have e7 : bA.tmps[7]?.getD undef = .int .i64 (k : Int) := hb 7
        refine phi_run (.int .i64 (k : Int)) ?_ rfl
        clear hb hdep hold
        go_simp
      · intro x w1 bA hbel hdep hold hb
        have e27 : bA.tmps[27]?.getD undef = .slice (some ⟨b, o, none⟩) n1 c1 := (hb 27).trans (hdep 3 (by decide))
        have e28 : bA.tmps[28]?.getD undef = .int .i64 (k : Int) := (hb 28).trans (hdep 4 (by decide))
        refine phi_run (.pointer (some ⟨b, o + k * 2, none⟩)) ?_ rfl
        clear hb hdep hold
        go_simp
      · intro x w1 bA hbel hdep hold hb
        have e29 : bA.tmps[29]?.getD undef = .pointer (some ⟨b, o + k * 2, none⟩) := (hb 29).trans (hdep 5 (by decide))
        refine phi_run (.pointer (some ⟨b, o + k * 2, none⟩)) ?_ rfl
        clear hb hdep hold
        go_simp
      · intro x w1 bA hbel hdep hold hb
        have e30 : bA.tmps[30]?.getD undef = .pointer (some ⟨b, o + k * 2, none⟩) := (hb 30).trans (hdep 6 (by decide))
        have yc := (HCE.out w1 hbel).1
        refine phi_run (.int .i64 y) ?_ rfl
        clear hb hdep hold
        go_simp
      · intro x w1 bA hbel hdep hold hb
        have e2 : bA.tmps[2]?.getD undef = .pointer (some ⟨rb, 0, none⟩) := hb 2
        refine phi_run (.pointer (some ⟨rb, 0, none⟩)) ?_ rfl
        clear hb hdep hold
        go_simp
      · intro x w1 bA hbel hdep hold hb
        have e32 : bA.tmps[32]?.getD undef = .pointer (some ⟨rb, 0, none⟩) := (hb 32).trans (hdep 8 (by decide))
        have yb := HBX.out w1 hbel
        refine phi_run (.slice (some ⟨b, o, none⟩) n1 c1) ?_ rfl
        clear hb hdep hold
        go_simp
      · intro x w1 bA hbel hdep hold hb
        have e7 : bA.tmps[7]?.getD undef = .int .i64 (k : Int) := hb 7
        refine phi_run (.int .i64 (k : Int)) ?_ rfl
        clear hb hdep hold
        go_simp
      · intro x w1 bA hbel hdep hold hb
        have e33 : bA.tmps[33]?.getD undef = .slice (some ⟨b, o, none⟩) n1 c1 := (hb 33).trans (hdep 9 (by decide))
        have e34 : bA.tmps[34]?.getD undef = .int .i64 (k : Int) := (hb 34).trans (hdep 10 (by decide))
        refine phi_run (.pointer (some ⟨b, o + k * 2, none⟩)) ?_ rfl
        clear hb hdep hold
        go_simp
      · intro x w1 bA hbel hdep hold hb
        have e35 : bA.tmps[35]?.getD undef = .pointer (some ⟨b, o + k * 2, none⟩) := (hb 35).trans (hdep 11 (by decide))
        refine phi_run (.pointer (some ⟨b, o + k * 2 + 1, none⟩)) ?_ rfl
        clear hb hdep hold
        go_simp
      · intro x w1 bA hbel hdep hold hb
        have e36 : bA.tmps[36]?.getD undef = .pointer (some ⟨b, o + k * 2 + 1, none⟩) := (hb 36).trans (hdep 12 (by decide))
        have yc := (HCE.out w1 hbel).2
        refine phi_run (.int .i64 X) ?_ rfl
        clear hb hdep hold
        go_simp
      · intro x w1 bA hbel hdep hold hb
        have e37 : bA.tmps[37]?.getD undef = .int .i64 X := (hb 37).trans (hdep 13 (by decide))
        refine phi_call ?_ ((HPR.out w1).mono fun e w' h => ⟨_, h.1, h.2, rfl⟩)
        clear hb hdep hold
        go_simp
      · intro x w1 bA hbel hdep hold hb
        have e24 : bA.tmps[24]?.getD undef = u5 := (hb 24).trans (hdep 0 (by decide))
        have e25 : bA.tmps[25]?.getD undef = u6 := (hb 25).trans (hdep 1 (by decide))
        have e31 : bA.tmps[31]?.getD undef = .int .i64 y := (hb 31).trans (hdep 7 (by decide))
        have e38 : bA.tmps[38]?.getD undef = .agg #[.int .i64 (nh X), .int .i64 (nl X)] := (hb 38).trans (hdep 14 (by decide))
        refine phi_call ?_ ((HPU.out w1 hbel).mono fun e w' ⟨z1, z2, he, hs', hb'⟩ => ⟨_, he, hb', ⟨z1, z2, rfl, hs'⟩⟩)
        clear hb hdep hold
        go_simp
      · intro x w1 bA hbel hdep hold hb
        have p39 := hdep 15 (by decide)
        have e39 : bA.tmps[39]?.getD undef = x 15 := hb 39
        generalize x 15 = x39 at p39 e39
        have P39 := Lib.hid (show (fun (v : Value) (w : World) => ∃ z1 z2, v = .tuple #[z1, z2] ∧ Sums w z1 z2 (insL L1 y X)) x39 w1 from p39)
        clear p39
        obtain ⟨z1, z2, rfl, hsu⟩ := P39.out
        refine phi_run (.tuple #[z1, z2]) ?_ (⟨z1, z2, rfl, hsu⟩)
        clear hb hdep hold
        go_simp
      · intro x w1 bA hbel hdep hold hb
        have p23 := hdep 16 (by decide)
        have e23 : bA.tmps[23]?.getD undef = x 16 := hb 23
        generalize x 16 = x23 at p23 e23
        have P23 := Lib.hid (show (fun (v : Value) (w : World) => ∃ z1 z2, v = .tuple #[z1, z2] ∧ Sums w z1 z2 (insL L1 y X)) x23 w1 from p23)
        clear p23
        obtain ⟨z1, z2, rfl, hsu⟩ := P23.out
        refine phi_run (z1) ?_ (hsu.1)
        clear hb hdep hold
        go_simp
      · intro x w1 bA hbel hdep hold hb
        have p23 := hdep 16 (by decide)
        have e23 : bA.tmps[23]?.getD undef = x 16 := hb 23
        generalize x 16 = x23 at p23 e23
        have P23 := Lib.hid (show (fun (v : Value) (w : World) => ∃ z1 z2, v = .tuple #[z1, z2] ∧ Sums w z1 z2 (insL L1 y X)) x23 w1 from p23)
        clear p23
        obtain ⟨z1, z2, rfl, hsu⟩ := P23.out
        refine phi_run (z2) ?_ (hsu.2)
        clear hb hdep hold
        go_simp
      · intro x w1 bA hbel hdep hold hb
        have p40 := hdep 17 (by decide)
        have e40 : bA.tmps[40]?.getD undef = x 17 := hb 40
        generalize x 17 = x40 at p40 e40
        have P40 := Lib.hid (show (fun (v : Value) (w : World) => SlA ei w v ((insL L1 y X).map (·.1))) x40 w1 from p40)
        clear p40
        refine phi_run (x40) ?_ (P40.out)
        clear hb hdep hold
        go_simp
      · intro x w1 bA hbel hdep hold hb
        have p41 := hdep 18 (by decide)
        have e41 : bA.tmps[41]?.getD undef = x 18 := hb 41
        generalize x 18 = x41 at p41 e41
        have P41 := Lib.hid (show (fun (v : Value) (w : World) => SlA ew w v ((insL L1 y X).map (·.2))) x41 w1 from p41)
        clear p41
        refine phi_run (x41) ?_ (P41.out)
        clear hb hdep hold
        go_simp
      intro x w1 hbel hall
      have x0e : x 0 = u5 := hall 0 (by decide)
      have x1e : x 1 = u6 := hall 1 (by decide)
      have x2e : x 2 = .pointer (some ⟨rb, 0, none⟩) := hall 2 (by decide)
      have x3e : x 3 = .slice (some ⟨b, o, none⟩) n1 c1 := hall 3 (by decide)
      have x4e : x 4 = .int .i64 (k : Int) := hall 4 (by decide)
      have x5e : x 5 = .pointer (some ⟨b, o + k * 2, none⟩) := hall 5 (by decide)
      have x6e : x 6 = .pointer (some ⟨b, o + k * 2, none⟩) := hall 6 (by decide)
      have x7e : x 7 = .int .i64 y := hall 7 (by decide)
      have x8e : x 8 = .pointer (some ⟨rb, 0, none⟩) := hall 8 (by decide)
      have x9e : x 9 = .slice (some ⟨b, o, none⟩) n1 c1 := hall 9 (by decide)
      have x10e : x 10 = .int .i64 (k : Int) := hall 10 (by decide)
      have x11e : x 11 = .pointer (some ⟨b, o + k * 2, none⟩) := hall 11 (by decide)
      have x12e : x 12 = .pointer (some ⟨b, o + k * 2 + 1, none⟩) := hall 12 (by decide)
      have x13e : x 13 = .int .i64 X := hall 13 (by decide)
      have x14e : x 14 = .agg #[.int .i64 (nh X), .int .i64 (nl X)] := hall 14 (by decide)
      have p39 := hall 15 (by decide)
      have p23 := hall 16 (by decide)
      have p40 := hall 17 (by decide)
      have p41 := hall 18 (by decide)
      have p5 := hall 19 (by decide)
      have p6 := hall 20 (by decide)
      simp only [putAll, dstOf, Act.put, List.map_cons, List.map_nil, List.setIfInBounds_toArray, List.set_cons_succ, List.set_cons_zero, Nat.reduceAdd, x0e, x1e, x2e, x3e, x4e, x5e, x6e, x7e, x8e, x9e, x10e, x11e, x12e, x13e, x14e]
      clear x0e x1e x2e x3e x4e x5e x6e x7e x8e x9e x10e x11e x12e x13e x14e hall
      have h5 : SlA ei w1 (x 19) ((insL L1 y X).map (·.1)) := p5
      have h6 : SlA ew w1 (x 20) ((insL L1 y X).map (·.2)) := p6
      have HNS := Lib.hid (show Sums w1 (x 19) (x 20) (addL [] (la.take (k + 1))) from by rw [HIN.out]; exact ⟨h5, h6⟩)
      have HNB := Lib.hid (HBM.out.trans (hbel.mono HBM.out.size))
      clear p39 p23 p40 p41 p5 p6 h5 h6 hbel HSM HBM HIN
      generalize x 15 = v15, x 16 = v16, x 17 = v17, x 18 = v18
      generalize x 19 = v19 at *
      generalize x 20 = v20 at *
      go_wp2_with fail
      go_roundg (n1 - (k + 1))
      case measure => omega
      case rel => exact ⟨k + 1, by omega, rfl, by go_num, HNS.out, HNB.out⟩
    · have z1 : ¬ (k : Int) < (n1 : Int) := by omega
      have hkk : la.take k = la := List.take_of_length_le (by have := HN0.out; omega)
      rw [hkk] at HSM
      clear hkk
      go_wp2_with fail
      go_loopg [5, 6, 8] n2 (fun gk s5 s6 s8 wr => ∃ k : Nat, k ≤ n2 ∧ gk = n2 - k ∧ s8 = .int .i64 (k : Int) ∧ Sums wr s5 s6 (addL (addL [] la) (lb.take k)) ∧ Below w3.heap.size w3 wr)
      case atStart => exact ⟨0, Nat.zero_le _, rfl, rfl, HSM.out, HBM.out⟩
      case round =>
        clear HSM HBM
        obtain ⟨k, hk, rfl, rfl, hsm, hbm⟩ := hrel
        have HSM := Lib.hid hsm
        have HBM := Lib.hid hbm
        have qb := QQ.out.below hbm QQ.out.lt
        have yb0 := qb.cell 0
        clear hsm hbm qb
        by_cases hlt : k < n2
        · have z1 : (k : Int) < (n2 : Int) := by omega
          have hkl : k < lb.length := by have := HN26.out; omega
          obtain ⟨y, hy⟩ : ∃ y, y = lb[k].1 := ⟨_, rfl⟩
          obtain ⟨X, hX⟩ : ∃ X, X = lb[k].2 := ⟨_, rfl⟩
          have hXb := HLB.out.co _ (List.getElem_mem hkl)
          rw [← hX] at hXb
          have HIN := Lib.hid (show addL (addL [] la) (lb.take (k + 1)) = insL (addL (addL [] la) (lb.take k)) y X from by rw [addL_take hkl, hy, hX])
          have HLEN := Lib.hid (show (addL (addL [] la) (lb.take k)).length ≤ 1000000 from by
            have h := addL_len (addL [] la) (lb.take k); have h2 := addL_len [] la; rw [List.length_take] at h; rw [List.length_nil] at h2; have := HN0.out; omega)
          have HBD := Lib.hid (show ∀ t ∈ addL (addL [] la) (lb.take k), -649037107316853453566312041152512 ≤ t.2 ∧ t.2 ≤ 649037107316853453566312041152512 from by
            intro t ht; have h := addL_bd (C := 1125899906842624) (by omega) (lb.take k) (L := addL [] la) (B := 112589990684262400000) (by omega) (fun t ht => by have h := addL_bd (C := 1125899906842624) (by omega) la (L := []) (B := 0) (by omega) (fun t h => by cases h) (fun t ht => HLA.out.co t ht) t ht; have := HN0.out; omega) (fun t ht => HLB.out.co t (List.mem_of_mem_take ht)) t ht; rw [List.length_take] at h; omega)
          obtain ⟨b, o, rfl, -, -⟩ := (HT26.out w3 (Below.refl _ _)).tat hkl
          have HCE := Lib.hid (fun W (hb : Below wr.heap.size wr W) => (show W.cell? ⟨b, o + k * 2, none⟩ = some (.int .i64 y) ∧ W.cell? ⟨b, o + k * 2 + 1, none⟩ = some (.int .i64 X) from by
            obtain ⟨b', o', hv, c0, c1⟩ := (HT26.out W (HBM.out.trans (hb.mono HBM.out.size))).tat hkl
            injection hv with hv
            injection hv with q1 q2
            subst q1 q2
            rw [c0, c1, hy, hX]
            exact ⟨rfl, rfl⟩))
          have HBX := Lib.hid (fun W (hb : Below wr.heap.size wr W) => (show W.cell? ⟨rb + 1, 0, none⟩ = some (.slice (some ⟨b, o, none⟩) n2 c2) from (QQ.out.below (HBM.out.trans (hb.mono HBM.out.size)) QQ.out.lt).cell 0))
          have HPR := Lib.hid (fun W => (show Calls Tryd.prog 67 #[.int .i64 X, .int .i64 1] W (fun e w' => e = .returned (.agg #[.int .i64 (nh X), .int .i64 (nl X)]) ∧ Below W.heap.size W w') from by
            have := rprod_any X 1 W (by omega) (by omega)
            rwa [Int.mul_one] at this))
          generalize addL (addL [] la) (lb.take k) = L1 at *
          have HPU := Lib.hid (fun W (hb : Below wr.heap.size wr W) => put_ref _ _ L1 y X W (HSM.out.below hb) HLEN.out (by omega) HBD.out)
          clear hy hX hXb
          go_upto_region 12 with fail
          clear yb0
          refine wp_region_phi (by kernel_rfl) (by kernel_rfl) (by kernel_rfl) (by kernel_rfl) (by kernel_rfl) (phiT (fun i => ([some (u5), some (u6), some (.pointer (some ⟨rb + 1, 0, none⟩)), some (.slice (some ⟨b, o, none⟩) n2 c2), some (.int .i64 (k : Int)), some (.pointer (some ⟨b, o + k * 2, none⟩)), some (.pointer (some ⟨b, o + k * 2, none⟩)), some (.int .i64 y), some (.pointer (some ⟨rb + 1, 0, none⟩)), some (.slice (some ⟨b, o, none⟩) n2 c2), some (.int .i64 (k : Int)), some (.pointer (some ⟨b, o + k * 2, none⟩)), some (.pointer (some ⟨b, o + k * 2 + 1, none⟩)), some (.int .i64 X), some (.agg #[.int .i64 (nh X), .int .i64 (nl X)]), none, none, none, none, none, none] : List (Option Value)).getD i none) (fun i v w => (if i = 15 then (fun (v : Value) (w : World) => ∃ z1 z2, v = .tuple #[z1, z2] ∧ Sums w z1 z2 (insL L1 y X)) v w else (if i = 16 then (fun (v : Value) (w : World) => ∃ z1 z2, v = .tuple #[z1, z2] ∧ Sums w z1 z2 (insL L1 y X)) v w else (if i = 17 then (fun (v : Value) (w : World) => SlA ei w v ((insL L1 y X).map (·.1))) v w else (if i = 18 then (fun (v : Value) (w : World) => SlA ew w v ((insL L1 y X).map (·.2))) v w else (if i = 19 then (fun (v : Value) (w : World) => SlA ei w v ((insL L1 y X).map (·.1))) v w else (if i = 20 then (fun (v : Value) (w : World) => SlA ew w v ((insL L1 y X).map (·.2))) v w else True)))))))) (fun i v w w' h hb => ?_) ⟨?_, ?_, ?_, ?_, ?_, ?_, ?_, ?_, ?_, ?_, ?_, ?_, ?_, ?_, ?_, ?_, ?_, ?_, ?_, ?_, ?_, trivial⟩ ?_
          · unfold phiT at h ⊢
            split
            · next u hu => rw [hu] at h; exact h
            · next hu =>
              rw [hu] at h
              simp only at h ⊢
              by_cases q15 : i = 15
              · rw [if_pos q15] at h ⊢; exact (by obtain ⟨z1, z2, q1, q2⟩ := h; exact ⟨z1, z2, q1, q2.below hb⟩)
              · rw [if_neg q15] at h ⊢
                by_cases q16 : i = 16
                · rw [if_pos q16] at h ⊢; exact (by obtain ⟨z1, z2, q1, q2⟩ := h; exact ⟨z1, z2, q1, q2.below hb⟩)
                · rw [if_neg q16] at h ⊢
                  by_cases q17 : i = 17
                  · rw [if_pos q17] at h ⊢; exact SlA.below h hb
                  · rw [if_neg q17] at h ⊢
                    by_cases q18 : i = 18
                    · rw [if_pos q18] at h ⊢; exact SlA.below h hb
                    · rw [if_neg q18] at h ⊢
                      by_cases q19 : i = 19
                      · rw [if_pos q19] at h ⊢; exact SlA.below h hb
                      · rw [if_neg q19] at h ⊢
                        by_cases q20 : i = 20
                        · rw [if_pos q20] at h ⊢; exact SlA.below h hb
                        · rw [if_neg q20] at h ⊢
                          trivial
          · intro x w1 bA hbel hdep hold hb
            have e5 : bA.tmps[5]?.getD undef = u5 := (hb 5).trans (hold 19 (by decide))
            refine phi_run (u5) ?_ rfl
            clear hb hdep hold
            go_simp
          · intro x w1 bA hbel hdep hold hb
            have e6 : bA.tmps[6]?.getD undef = u6 := (hb 6).trans (hold 20 (by decide))
            refine phi_run (u6) ?_ rfl
            clear hb hdep hold
            go_simp
          · intro x w1 bA hbel hdep hold hb
            have e3 : bA.tmps[3]?.getD undef = .pointer (some ⟨rb + 1, 0, none⟩) := hb 3
            refine phi_run (.pointer (some ⟨rb + 1, 0, none⟩)) ?_ rfl
            clear hb hdep hold
            go_simp
          · intro x w1 bA hbel hdep hold hb
            have e52 : bA.tmps[52]?.getD undef = .pointer (some ⟨rb + 1, 0, none⟩) := (hb 52).trans (hdep 2 (by decide))
            have yb := HBX.out w1 hbel
            refine phi_run (.slice (some ⟨b, o, none⟩) n2 c2) ?_ rfl
            clear hb hdep hold
            go_simp
          · intro x w1 bA hbel hdep hold hb
            have e8 : bA.tmps[8]?.getD undef = .int .i64 (k : Int) := hb 8
            refine phi_run (.int .i64 (k : Int)) ?_ rfl
            clear hb hdep hold
            go_simp
          · intro x w1 bA hbel hdep hold hb
            have e53 : bA.tmps[53]?.getD undef = .slice (some ⟨b, o, none⟩) n2 c2 := (hb 53).trans (hdep 3 (by decide))
            have e54 : bA.tmps[54]?.getD undef = .int .i64 (k : Int) := (hb 54).trans (hdep 4 (by decide))
            refine phi_run (.pointer (some ⟨b, o + k * 2, none⟩)) ?_ rfl
            clear hb hdep hold
            go_simp
          · intro x w1 bA hbel hdep hold hb
            have e55 : bA.tmps[55]?.getD undef = .pointer (some ⟨b, o + k * 2, none⟩) := (hb 55).trans (hdep 5 (by decide))
            refine phi_run (.pointer (some ⟨b, o + k * 2, none⟩)) ?_ rfl
            clear hb hdep hold
            go_simp
          · intro x w1 bA hbel hdep hold hb
            have e56 : bA.tmps[56]?.getD undef = .pointer (some ⟨b, o + k * 2, none⟩) := (hb 56).trans (hdep 6 (by decide))
            have yc := (HCE.out w1 hbel).1
            refine phi_run (.int .i64 y) ?_ rfl
            clear hb hdep hold
            go_simp
          · intro x w1 bA hbel hdep hold hb
            have e3 : bA.tmps[3]?.getD undef = .pointer (some ⟨rb + 1, 0, none⟩) := hb 3
            refine phi_run (.pointer (some ⟨rb + 1, 0, none⟩)) ?_ rfl
            clear hb hdep hold
            go_simp
          · intro x w1 bA hbel hdep hold hb
            have e58 : bA.tmps[58]?.getD undef = .pointer (some ⟨rb + 1, 0, none⟩) := (hb 58).trans (hdep 8 (by decide))
            have yb := HBX.out w1 hbel
            refine phi_run (.slice (some ⟨b, o, none⟩) n2 c2) ?_ rfl
            clear hb hdep hold
            go_simp
          · intro x w1 bA hbel hdep hold hb
            have e8 : bA.tmps[8]?.getD undef = .int .i64 (k : Int) := hb 8
            refine phi_run (.int .i64 (k : Int)) ?_ rfl
            clear hb hdep hold
            go_simp
          · intro x w1 bA hbel hdep hold hb
            have e59 : bA.tmps[59]?.getD undef = .slice (some ⟨b, o, none⟩) n2 c2 := (hb 59).trans (hdep 9 (by decide))
            have e60 : bA.tmps[60]?.getD undef = .int .i64 (k : Int) := (hb 60).trans (hdep 10 (by decide))
            refine phi_run (.pointer (some ⟨b, o + k * 2, none⟩)) ?_ rfl
            clear hb hdep hold
            go_simp
          · intro x w1 bA hbel hdep hold hb
            have e61 : bA.tmps[61]?.getD undef = .pointer (some ⟨b, o + k * 2, none⟩) := (hb 61).trans (hdep 11 (by decide))
            refine phi_run (.pointer (some ⟨b, o + k * 2 + 1, none⟩)) ?_ rfl
            clear hb hdep hold
            go_simp
          · intro x w1 bA hbel hdep hold hb
            have e62 : bA.tmps[62]?.getD undef = .pointer (some ⟨b, o + k * 2 + 1, none⟩) := (hb 62).trans (hdep 12 (by decide))
            have yc := (HCE.out w1 hbel).2
            refine phi_run (.int .i64 X) ?_ rfl
            clear hb hdep hold
            go_simp
          · intro x w1 bA hbel hdep hold hb
            have e63 : bA.tmps[63]?.getD undef = .int .i64 X := (hb 63).trans (hdep 13 (by decide))
            refine phi_call ?_ ((HPR.out w1).mono fun e w' h => ⟨_, h.1, h.2, rfl⟩)
            clear hb hdep hold
            go_simp
          · intro x w1 bA hbel hdep hold hb
            have e50 : bA.tmps[50]?.getD undef = u5 := (hb 50).trans (hdep 0 (by decide))
            have e51 : bA.tmps[51]?.getD undef = u6 := (hb 51).trans (hdep 1 (by decide))
            have e57 : bA.tmps[57]?.getD undef = .int .i64 y := (hb 57).trans (hdep 7 (by decide))
            have e64 : bA.tmps[64]?.getD undef = .agg #[.int .i64 (nh X), .int .i64 (nl X)] := (hb 64).trans (hdep 14 (by decide))
            refine phi_call ?_ ((HPU.out w1 hbel).mono fun e w' ⟨z1, z2, he, hs', hb'⟩ => ⟨_, he, hb', ⟨z1, z2, rfl, hs'⟩⟩)
            clear hb hdep hold
            go_simp
          · intro x w1 bA hbel hdep hold hb
            have p65 := hdep 15 (by decide)
            have e65 : bA.tmps[65]?.getD undef = x 15 := hb 65
            generalize x 15 = x65 at p65 e65
            have P65 := Lib.hid (show (fun (v : Value) (w : World) => ∃ z1 z2, v = .tuple #[z1, z2] ∧ Sums w z1 z2 (insL L1 y X)) x65 w1 from p65)
            clear p65
            obtain ⟨z1, z2, rfl, hsu⟩ := P65.out
            refine phi_run (.tuple #[z1, z2]) ?_ (⟨z1, z2, rfl, hsu⟩)
            clear hb hdep hold
            go_simp
          · intro x w1 bA hbel hdep hold hb
            have p49 := hdep 16 (by decide)
            have e49 : bA.tmps[49]?.getD undef = x 16 := hb 49
            generalize x 16 = x49 at p49 e49
            have P49 := Lib.hid (show (fun (v : Value) (w : World) => ∃ z1 z2, v = .tuple #[z1, z2] ∧ Sums w z1 z2 (insL L1 y X)) x49 w1 from p49)
            clear p49
            obtain ⟨z1, z2, rfl, hsu⟩ := P49.out
            refine phi_run (z1) ?_ (hsu.1)
            clear hb hdep hold
            go_simp
          · intro x w1 bA hbel hdep hold hb
            have p49 := hdep 16 (by decide)
            have e49 : bA.tmps[49]?.getD undef = x 16 := hb 49
            generalize x 16 = x49 at p49 e49
            have P49 := Lib.hid (show (fun (v : Value) (w : World) => ∃ z1 z2, v = .tuple #[z1, z2] ∧ Sums w z1 z2 (insL L1 y X)) x49 w1 from p49)
            clear p49
            obtain ⟨z1, z2, rfl, hsu⟩ := P49.out
            refine phi_run (z2) ?_ (hsu.2)
            clear hb hdep hold
            go_simp
          · intro x w1 bA hbel hdep hold hb
            have p66 := hdep 17 (by decide)
            have e66 : bA.tmps[66]?.getD undef = x 17 := hb 66
            generalize x 17 = x66 at p66 e66
            have P66 := Lib.hid (show (fun (v : Value) (w : World) => SlA ei w v ((insL L1 y X).map (·.1))) x66 w1 from p66)
            clear p66
            refine phi_run (x66) ?_ (P66.out)
            clear hb hdep hold
            go_simp
          · intro x w1 bA hbel hdep hold hb
            have p67 := hdep 18 (by decide)
            have e67 : bA.tmps[67]?.getD undef = x 18 := hb 67
            generalize x 18 = x67 at p67 e67
            have P67 := Lib.hid (show (fun (v : Value) (w : World) => SlA ew w v ((insL L1 y X).map (·.2))) x67 w1 from p67)
            clear p67
            refine phi_run (x67) ?_ (P67.out)
            clear hb hdep hold
            go_simp
          intro x w1 hbel hall
          have x0e : x 0 = u5 := hall 0 (by decide)
          have x1e : x 1 = u6 := hall 1 (by decide)
          have x2e : x 2 = .pointer (some ⟨rb + 1, 0, none⟩) := hall 2 (by decide)
          have x3e : x 3 = .slice (some ⟨b, o, none⟩) n2 c2 := hall 3 (by decide)
          have x4e : x 4 = .int .i64 (k : Int) := hall 4 (by decide)
          have x5e : x 5 = .pointer (some ⟨b, o + k * 2, none⟩) := hall 5 (by decide)
          have x6e : x 6 = .pointer (some ⟨b, o + k * 2, none⟩) := hall 6 (by decide)
          have x7e : x 7 = .int .i64 y := hall 7 (by decide)
          have x8e : x 8 = .pointer (some ⟨rb + 1, 0, none⟩) := hall 8 (by decide)
          have x9e : x 9 = .slice (some ⟨b, o, none⟩) n2 c2 := hall 9 (by decide)
          have x10e : x 10 = .int .i64 (k : Int) := hall 10 (by decide)
          have x11e : x 11 = .pointer (some ⟨b, o + k * 2, none⟩) := hall 11 (by decide)
          have x12e : x 12 = .pointer (some ⟨b, o + k * 2 + 1, none⟩) := hall 12 (by decide)
          have x13e : x 13 = .int .i64 X := hall 13 (by decide)
          have x14e : x 14 = .agg #[.int .i64 (nh X), .int .i64 (nl X)] := hall 14 (by decide)
          have p65 := hall 15 (by decide)
          have p49 := hall 16 (by decide)
          have p66 := hall 17 (by decide)
          have p67 := hall 18 (by decide)
          have p5 := hall 19 (by decide)
          have p6 := hall 20 (by decide)
          simp only [putAll, dstOf, Act.put, List.map_cons, List.map_nil, List.setIfInBounds_toArray, List.set_cons_succ, List.set_cons_zero, Nat.reduceAdd, x0e, x1e, x2e, x3e, x4e, x5e, x6e, x7e, x8e, x9e, x10e, x11e, x12e, x13e, x14e]
          clear x0e x1e x2e x3e x4e x5e x6e x7e x8e x9e x10e x11e x12e x13e x14e hall
          have h5 : SlA ei w1 (x 19) ((insL L1 y X).map (·.1)) := p5
          have h6 : SlA ew w1 (x 20) ((insL L1 y X).map (·.2)) := p6
          have HNS := Lib.hid (show Sums w1 (x 19) (x 20) (addL (addL [] la) (lb.take (k + 1))) from by rw [HIN.out]; exact ⟨h5, h6⟩)
          have HNB := Lib.hid (HBM.out.trans (hbel.mono HBM.out.size))
          clear p65 p49 p66 p67 p5 p6 h5 h6 hbel HSM HBM HIN
          generalize x 15 = v15, x 16 = v16, x 17 = v17, x 18 = v18
          generalize x 19 = v19 at *
          generalize x 20 = v20 at *
          go_wp2_with fail
          go_roundg (n2 - (k + 1))
          case measure => omega
          case rel => exact ⟨k + 1, by omega, rfl, by go_num, HNS.out, HNB.out⟩
        · have z1 : ¬ (k : Int) < (n2 : Int) := by omega
          have hkk : lb.take k = lb := List.take_of_length_le (by have := HN26.out; omega)
          rw [hkk] at HSM
          clear hkk
          have HCO := Lib.hid (collect_ref _ _ _ wr HSM.out (by have h := addL_len (addL [] la) lb; have h2 := addL_len [] la; rw [List.length_nil] at h2; have := HN0.out; have := HN26.out; omega))
          have QR5 := Lib.hid (QR.out.below HBM.out QR.out.lt)
          have HBW := Lib.hid (HB3.out.trans (HBM.out.mono (show rb ≤ w3.heap.size from by have := QP.out.lt; omega)))
          clear HSM HBM
          go_wp2_with (go_at_call 68; go_loud (refine HCO.out.mono ?_); go_loud (rintro e w6 ⟨v6, rfl, hv6, hb6⟩; have HV6 := Lib.hid hv6; obtain ⟨bb, A6, m6, c6, rfl, -, -⟩ := hv6.parts; have qr6 := QR5.out.below hb6 QR5.out.lt; have QR6 := Lib.hid qr6; have HB6 := Lib.hid hb6; have x0 := qr6.cell 0; have x1 := qr6.cell 1; have f0 := qr6.frozen 0; have f1 := qr6.frozen 1; clear hv6 hb6 qr6))
          have HRS := Lib.hid ((QR6.out.set 0 (.slice A6 m6 c6)).set 1 (.bool bb))
          refine bodyPost_ret (v := .agg #[.slice A6 m6 c6, .bool bb]) (results_c Tryd.results41 _ _ (rb + 1 + 1) 36 _ _ rfl HRS.out Tryd.underlying36 rfl info_rp) rfl ?_
          exact ⟨_, rfl, HV6.out.box QR6.out _ _, by rw [← HRB.out]; exact ((HBW.out.trans (HB6.out.mono (by rw [HRB.out]; exact HBW.out.size))).setCell (p := ⟨rb + 1 + 1, 0, none⟩) (show rb ≤ rb + 1 + 1 by omega) _).setCell (p := ⟨rb + 1 + 1, 1, none⟩) (show rb ≤ rb + 1 + 1 by omega) _⟩
end Go.Proofs.YtlbihllmpbhhcaaDoor
