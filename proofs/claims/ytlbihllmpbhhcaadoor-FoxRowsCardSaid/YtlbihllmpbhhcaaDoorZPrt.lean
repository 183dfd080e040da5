/- fox.sum: the closure part. -/
import Derived.Test.YtlbihllmpbhhcaaDoorZTab
import Derived.Test.YtlbihllmpbhhcaaDoorZPhs
namespace Go.Proofs.YtlbihllmpbhhcaaDoor
open Go.RowKit
set_option linter.unusedVariables false

theorem FTm.at_ {w : World} {A : Option Addr} {n c k : Nat} {l : List (Int × Int)} (h : FTm w (.slice A n c) l) (hk : k < l.length) :
    ∃ b o, A = some ⟨b, o, none⟩ ∧ n = l.length ∧ w.cell? ⟨b, o + k * 2, none⟩ = some (.int .i64 l[k].2) ∧ w.cell? ⟨b, o + k * 2 + 1, none⟩ = some (.int .i64 l[k].1) := by
  obtain ⟨A', c', hv, hx⟩ := h
  injection hv with e1 e2 e3
  subst e1
  obtain ⟨b, o, hA, h1, h2⟩ := hx k hk
  exact ⟨b, o, hA, e2, h1, h2⟩
set_option maxHeartbeats 1000000 in
theorem part_nil (tb pb : Nat) (ts : List (Int × Int)) (lo : Nat) (w : World) :
    Calls Tryd.prog 62 #[.int .i64 (lo : Nat), .int .i64 (lo : Nat), .pointer (some ⟨tb, 0, none⟩), .pointer (some ⟨pb, 0, none⟩)] w (PartR ts lo lo w) := by
  have zd : ((lo : Int) - (lo : Int)) = 0 := by omega
  have hb0 : Below w.heap.size w (w.alloc (.cells #[.bool false, .slice none 0 0] 27)) := (Below.refl _ _).alloc (Nat.le_refl _) _
  have qr : Arr (w.alloc (.cells #[.bool false, .slice none 0 0] 27)) w.heap.size 27 [.bool false, .slice none 0 0] := Arr.new _ _ [_, _]
  go_enter Tryd.func62, Tryd.ntmps62
  go_upto_region 1 with fail
  generalize (w.alloc (.cells #[.bool false, .slice none 0 0] 27)) = w3 at *
  have x0 := qr.cell 0
  have x1 := qr.cell 1
  have f0 := qr.frozen 0
  have f1 := qr.frozen 1
  have hres := Lib.hid ((qr.set 0 (.bool false)).set 1 (.slice none 0 0))
  go_wp2_with fail
  refine bodyPost_ret (v := .agg #[.bool false, .slice none 0 0]) (results_c Tryd.results62 _ _ w.heap.size 27 _ _ rfl hres.out Tryd.underlying27 rfl info_poly) rfl ?_
  exact ⟨_, [], rfl, PolyV.zero _, Can.nil, Lim.nil, fun x => by rw [sl_nil], (hb0.setCell (p := ⟨w.heap.size, 0, none⟩) (Nat.le_refl _) _).setCell (p := ⟨w.heap.size, 1, none⟩) (Nat.le_refl _) _⟩
set_option maxHeartbeats 4000000 in
set_option maxRecDepth 100000 in
theorem part_any (tb pb : Nat) (sv : Value) (ts : List (Int × Int)) (hu : Unit1 ts) (hl : ts.length ≤ 100000) : ∀ (n lo hi : Nat), hi - lo ≤ n → lo ≤ hi → hi ≤ ts.length → ∀ (w : World), Arr w tb 66 [sv] → Arr w pb 108 [.func (.func 62) #[] #[.pointer (some ⟨tb, 0, none⟩), .pointer (some ⟨pb, 0, none⟩)]] → FTm w sv ts →
    Calls Tryd.prog 62 #[.int .i64 (lo : Nat), .int .i64 (hi : Nat), .pointer (some ⟨tb, 0, none⟩), .pointer (some ⟨pb, 0, none⟩)] w (PartR ts lo hi w) := by
  intro n
  induction n with
  | zero =>
    intro lo hi h1 h2 h3 w qt qp hf
    obtain rfl : hi = lo := by omega
    exact part_nil tb pb ts hi w
  | succ n ih =>
    intro lo hi h1 h2 h3 w qt qp hf
    rcases (by omega : hi = lo ∨ hi = lo + 1 ∨ lo + 1 < hi) with rfl | rfl | hlt
    · exact part_nil tb pb ts hi w
    · have hlo : lo < ts.length := by omega
      have hun := hu ts[lo] (List.getElem_mem hlo)
      have HFIN := Lib.hid (sl_one hlo)
      obtain ⟨b, o, c, rfl, hbl, hc1, hc2⟩ : ∃ b o c, sv = .slice (some ⟨b, o, none⟩) ts.length c ∧ b < w.heap.size ∧ w.cell? ⟨b, o + lo * 2, none⟩ = some (.int .i64 ts[lo].2) ∧ w.cell? ⟨b, o + lo * 2 + 1, none⟩ = some (.int .i64 ts[lo].1) := by
        obtain ⟨A, c, hv, hx⟩ := hf
        obtain ⟨b, o, hA, h1, h2⟩ := hx lo hlo
        exact ⟨b, o, c, by rw [hv, hA], block_lt_of_cell h1, h1, h2⟩
      clear hf
      obtain ⟨x1, hx1⟩ : ∃ x, x = ts[lo].1 := ⟨_, rfl⟩
      obtain ⟨x2, hx2⟩ : ∃ x, x = ts[lo].2 := ⟨_, rfl⟩
      rw [← hx1] at hc2 hun
      rw [← hx2] at hc1 hun
      have HX := Lib.hid (show ts[lo] = (x1, x2) from Prod.ext hx1.symm hx2.symm)
      clear hx1 hx2 ih
      have hb0 : Below w.heap.size w (w.alloc (.cells #[.bool false, .slice none 0 0] 27)) := (Below.refl _ _).alloc (Nat.le_refl _) _
      have hW : Arr (w.alloc (.cells #[.bool false, .slice none 0 0] 27)) w.heap.size 27 [.bool false, .slice none 0 0] := Arr.new _ _ [_, _]
      have qt3 := qt.alloc (.cells #[.bool false, .slice none 0 0] 27)
      have c13 := (hb0.cell (p := ⟨b, o + lo * 2, none⟩) hbl).trans hc1
      have c23 := (hb0.cell (p := ⟨b, o + lo * 2 + 1, none⟩) hbl).trans hc2
      have hs3 : (w.alloc (.cells #[.bool false, .slice none 0 0] 27)).heap.size = w.heap.size + 1 := by simp
      have zl : (lo : Int) < (ts.length : Int) := by omega
      have zd : (((lo + 1 : Nat) : Int) - (lo : Int)) = 1 := by omega
      clear qt hc1 hc2
      go_enter Tryd.func62, Tryd.ntmps62
      go_upto_region 5 with fail
      generalize (w.alloc (.cells #[.bool false, .slice none 0 0] 27)) = w3 at *
      have qr := hW
      have qt := qt3
      have hb3 := hb0
      have hc1 := c13
      have hc2 := c23
      have hbl : b < w3.heap.size := by omega
      have HTM := Lib.hid (fun W (hb : Below w3.heap.size w3 W) => Term_any x2 x1 W (by omega) (by omega) (by omega) (by omega) (by omega))
      refine wp_region_phis 11 (by kernel_rfl) (by kernel_rfl) (by kernel_rfl) (by kernel_rfl) (by kernel_rfl) rfl (by kernel_rfl) (phiT (fun i => ([some (.slice (some ⟨b, o, none⟩) ts.length c), some (.int .i64 (lo : Int)), some (.pointer (some ⟨b, o + lo * 2, none⟩)), some (.pointer (some ⟨b, o + lo * 2, none⟩)), some (.int .i64 x2), some (.slice (some ⟨b, o, none⟩) ts.length c), some (.int .i64 (lo : Int)), some (.pointer (some ⟨b, o + lo * 2, none⟩)), some (.pointer (some ⟨b, o + lo * 2 + 1, none⟩)), some (.int .i64 x1), none, some (undef)] : List (Option Value)).getD i none) (fun i v w => (if i = 10 then (fun (v : Value) (w : World) => PolyV w v (some [(x1, x2)])) v w else True))) (fun i v w w' h hb => ?_) (fun i => false) (fun i v w hi h k hk => ?_) (fun x W => ∃ v, PolyV W v (some [(x1, x2)]) ∧ (∃ A5 n5 c5, v = .agg #[.bool false, .slice A5 n5 c5] ∧ Arr W w.heap.size 27 [.bool false, .slice A5 n5 c5]) ∧ Below w.heap.size w W) ⟨?_, ?_, ?_, ?_, ?_, ?_, ?_, ?_, ?_, ?_, ?_, ?_, trivial⟩ ?_
      · unfold phiT at h ⊢
        split
        · next u hu => rw [hu] at h; exact h
        · next hu =>
          rw [hu] at h
          simp only at h ⊢
          by_cases q10 : i = 10
          · rw [if_pos q10] at h ⊢; exact (show PolyV w v (some [(x1, x2)]) from h).below hb
          · rw [if_neg q10] at h ⊢
            trivial
      · simp only [Bool.or_eq_true, decide_eq_true_eq, Bool.false_eq_true] at hi
      · intro x w1 bA hbel hdep hdap hold hb
        refine ⟨fun _ => ?_, fun h => absurd h (by decide)⟩
        have e2 : bA.tmps[2]?.getD undef = .pointer (some ⟨tb, 0, none⟩) := hb 2
        have u1 := (qt.below hbel qt.lt).cell 0
        refine phf_run (.slice (some ⟨b, o, none⟩) ts.length c) rfl ?_ rfl
        clear hb hdep hdap hold
        go_simp
      · intro x w1 bA hbel hdep hdap hold hb
        refine ⟨fun _ => ?_, fun h => absurd h (by decide)⟩
        have e0 : bA.tmps[0]?.getD undef = .int .i64 (lo : Int) := hb 0
        refine phf_run (.int .i64 (lo : Int)) rfl ?_ rfl
        clear hb hdep hdap hold
        go_simp
      · intro x w1 bA hbel hdep hdap hold hb
        refine ⟨fun _ => ?_, fun h => absurd h (by decide)⟩
        have e16 : bA.tmps[16]?.getD undef = .slice (some ⟨b, o, none⟩) ts.length c := (hb 16).trans (hdep 0 (by decide))
        have e17 : bA.tmps[17]?.getD undef = .int .i64 (lo : Int) := (hb 17).trans (hdep 1 (by decide))
        refine phf_run (.pointer (some ⟨b, o + lo * 2, none⟩)) rfl ?_ rfl
        clear hb hdep hdap hold
        go_simp
      · intro x w1 bA hbel hdep hdap hold hb
        refine ⟨fun _ => ?_, fun h => absurd h (by decide)⟩
        have e18 : bA.tmps[18]?.getD undef = .pointer (some ⟨b, o + lo * 2, none⟩) := (hb 18).trans (hdep 2 (by decide))
        refine phf_run (.pointer (some ⟨b, o + lo * 2, none⟩)) rfl ?_ rfl
        clear hb hdep hdap hold
        go_simp
      · intro x w1 bA hbel hdep hdap hold hb
        refine ⟨fun _ => ?_, fun h => absurd h (by decide)⟩
        have e19 : bA.tmps[19]?.getD undef = .pointer (some ⟨b, o + lo * 2, none⟩) := (hb 19).trans (hdep 3 (by decide))
        have u1 := (hbel.cell (p := ⟨b, o + lo * 2, none⟩) hbl).trans hc1
        refine phf_run (.int .i64 x2) rfl ?_ rfl
        clear hb hdep hdap hold
        go_simp
      · intro x w1 bA hbel hdep hdap hold hb
        refine ⟨fun _ => ?_, fun h => absurd h (by decide)⟩
        have e2 : bA.tmps[2]?.getD undef = .pointer (some ⟨tb, 0, none⟩) := hb 2
        have u1 := (qt.below hbel qt.lt).cell 0
        refine phf_run (.slice (some ⟨b, o, none⟩) ts.length c) rfl ?_ rfl
        clear hb hdep hdap hold
        go_simp
      · intro x w1 bA hbel hdep hdap hold hb
        refine ⟨fun _ => ?_, fun h => absurd h (by decide)⟩
        have e0 : bA.tmps[0]?.getD undef = .int .i64 (lo : Int) := hb 0
        refine phf_run (.int .i64 (lo : Int)) rfl ?_ rfl
        clear hb hdep hdap hold
        go_simp
      · intro x w1 bA hbel hdep hdap hold hb
        refine ⟨fun _ => ?_, fun h => absurd h (by decide)⟩
        have e21 : bA.tmps[21]?.getD undef = .slice (some ⟨b, o, none⟩) ts.length c := (hb 21).trans (hdep 5 (by decide))
        have e22 : bA.tmps[22]?.getD undef = .int .i64 (lo : Int) := (hb 22).trans (hdep 6 (by decide))
        refine phf_run (.pointer (some ⟨b, o + lo * 2, none⟩)) rfl ?_ rfl
        clear hb hdep hdap hold
        go_simp
      · intro x w1 bA hbel hdep hdap hold hb
        refine ⟨fun _ => ?_, fun h => absurd h (by decide)⟩
        have e23 : bA.tmps[23]?.getD undef = .pointer (some ⟨b, o + lo * 2, none⟩) := (hb 23).trans (hdep 7 (by decide))
        refine phf_run (.pointer (some ⟨b, o + lo * 2 + 1, none⟩)) rfl ?_ rfl
        clear hb hdep hdap hold
        go_simp
      · intro x w1 bA hbel hdep hdap hold hb
        refine ⟨fun _ => ?_, fun h => absurd h (by decide)⟩
        have e24 : bA.tmps[24]?.getD undef = .pointer (some ⟨b, o + lo * 2 + 1, none⟩) := (hb 24).trans (hdep 8 (by decide))
        have u1 := (hbel.cell (p := ⟨b, o + lo * 2 + 1, none⟩) hbl).trans hc2
        refine phf_run (.int .i64 x1) rfl ?_ rfl
        clear hb hdep hdap hold
        go_simp
      · intro x w1 bA hbel hdep hdap hold hb
        refine ⟨fun _ => ?_, fun h => absurd h (by decide)⟩
        have e20 : bA.tmps[20]?.getD undef = .int .i64 x2 := (hb 20).trans (hdep 4 (by decide))
        have e25 : bA.tmps[25]?.getD undef = .int .i64 x1 := (hb 25).trans (hdep 9 (by decide))
        refine phf_call ?_ (HTM.out w1 hbel |>.mono fun e w' ⟨v, he, hv, hb'⟩ => ⟨v, he, hb', hv, fun h => Bool.noConfusion h⟩)
        clear hb hdep hdap hold
        go_simp
      · intro x w1 bA hbel hdep hdap hold hb
        refine ⟨fun h => absurd h (by decide), fun _ hall => ?_⟩
        have e6 : bA.tmps[6]?.getD undef = .pointer (some ⟨w.heap.size, 0, none⟩) := hb 6
        have e26 : bA.tmps[26]?.getD undef = x 10 := hb 26
        have p26 := Lib.hid (show (fun (v : Value) (w : World) => PolyV w v (some [(x1, x2)])) (x 10) w1 from hall 10 (by decide))
        clear hb hdep hdap hold
        obtain ⟨A5, c5, ev, ht⟩ := p26.out
        rw [ev] at e26
        have q6 := qr.below hbel qr.lt
        have PV := Lib.hid (fun u1 u2 => (show PolyV w1 (.agg #[.bool false, .slice A5 1 c5]) (some [(x1, x2)]) from ⟨A5, c5, rfl, ht⟩).box q6 u1 u2)
        have g0 := q6.cell 0
        have g1 := q6.cell 1
        have g2 := q6.frozen 0
        have g3 := q6.frozen 1
        have HBL := Lib.hid (hb3.trans (hbel.mono hb3.size))
        have Q6 := Lib.hid ((q6.set 0 (.bool false)).set 1 (.slice A5 1 c5))
        clear ht p26 q6 ev
        refine phs_store (n := 11) (x := x) (R := fun x W => ∃ v, PolyV W v (some [(x1, x2)]) ∧ (∃ A5 n5 c5, v = .agg #[.bool false, .slice A5 n5 c5] ∧ Arr W w.heap.size 27 [.bool false, .slice A5 n5 c5]) ∧ Below w.heap.size w W) ((w1.setCell ⟨w.heap.size, 0, none⟩ (.bool false)).setCell ⟨w.heap.size, 1, none⟩ (.slice A5 1 c5)) ?_ rfl (fun v => ⟨_, PV.out _ _, ⟨_, _, _, rfl, Q6.out⟩, (HBL.out.setCell (p := ⟨w.heap.size, 0, none⟩) (Nat.le_refl _) _).setCell (p := ⟨w.heap.size, 1, none⟩) (Nat.le_refl _) _⟩)
        go_simp
      intro x W hR
      obtain ⟨v, hv, ⟨A5, n5, c5, rfl, hq⟩, hb⟩ := hR
      simp only [putAll, dstOf, Act.put, List.map_cons, List.map_nil, List.setIfInBounds_toArray, List.set_cons_succ, List.set_cons_zero, Nat.reduceAdd]
      go_wp2_with fail
      refine bodyPost_ret (v := .agg #[.bool false, .slice A5 n5 c5]) (results_c Tryd.results62 _ _ w.heap.size 27 _ _ rfl hq Tryd.underlying27 rfl info_poly) rfl ?_
      exact ⟨_, [(x1, x2)], rfl, hv, ⟨List.pairwise_singleton _ _, fun t ht => by rw [List.mem_singleton.1 ht]; show x2 ≠ 0; omega⟩, ⟨fun t ht => by rw [List.mem_singleton.1 ht]; show _ ≤ x2 ∧ x2 ≤ _; omega, fun t ht => by rw [List.mem_singleton.1 ht]; exact hun.2⟩, fun x => by rw [HFIN.out, HX.out], hb⟩
    · obtain ⟨mid, hmid⟩ : ∃ m, m = (lo + hi) / 2 := ⟨_, rfl⟩
      have zm : ((lo : Int) + (hi : Int)) / 2 = (mid : Int) := by omega
      have m1 : lo ≤ mid := by omega
      have m2 : mid ≤ hi := by omega
      have zd : ((hi : Int) - (lo : Int) == 0) = false := by simp; omega
      have ze : ((hi : Int) - (lo : Int) == 1) = false := by simp; omega
      have IH1 := Lib.hid (fun W (a : Arr W tb 66 [sv]) (p : Arr W pb 108 [.func (.func 62) #[] #[.pointer (some ⟨tb, 0, none⟩), .pointer (some ⟨pb, 0, none⟩)]]) (f : FTm W sv ts) => (by rw [zm]; exact ih lo mid (by omega) m1 (by omega) W a p f : Calls Tryd.prog 62 #[.int .i64 (lo : Nat), .int .i64 (((lo : Int) + (hi : Int)) / 2), .pointer (some ⟨tb, 0, none⟩), .pointer (some ⟨pb, 0, none⟩)] W (PartR ts lo mid W)))
      have IH2 := Lib.hid (fun W (a : Arr W tb 66 [sv]) (p : Arr W pb 108 [.func (.func 62) #[] #[.pointer (some ⟨tb, 0, none⟩), .pointer (some ⟨pb, 0, none⟩)]]) (f : FTm W sv ts) => (by rw [zm]; exact ih mid hi (by omega) m2 h3 W a p f : Calls Tryd.prog 62 #[.int .i64 (((lo : Int) + (hi : Int)) / 2), .int .i64 (hi : Nat), .pointer (some ⟨tb, 0, none⟩), .pointer (some ⟨pb, 0, none⟩)] W (PartR ts mid hi W)))
      have HJ := Lib.hid (fun r1 r2 r e1 e2 h => part_join (r1 := r1) (r2 := r2) (r := r) hu hl m1 m2 h3 e1 e2 h)
      have hb0 : Below w.heap.size w (w.alloc (.cells #[.bool false, .slice none 0 0] 27)) := (Below.refl _ _).alloc (Nat.le_refl _) _
      have hW : Arr (w.alloc (.cells #[.bool false, .slice none 0 0] 27)) w.heap.size 27 [.bool false, .slice none 0 0] := Arr.new _ _ [_, _]
      have qt3 := qt.alloc (.cells #[.bool false, .slice none 0 0] 27)
      have qp3 := qp.alloc (.cells #[.bool false, .slice none 0 0] 27)
      have HF := Lib.hid (fun W (hb : Below w.heap.size w W) => hf.below hb)
      clear ih hmid qt qp hf zm
      go_enter Tryd.func62, Tryd.ntmps62
      go_upto_region 7 with fail
      generalize (w.alloc (.cells #[.bool false, .slice none 0 0] 27)) = w3 at *
      have qr := hW
      have qt := qt3
      have qp := qp3
      have hb3 := hb0
      clear hW qt3 qp3 hb0 zd ze
      refine wp_region_phis 9 (by kernel_rfl) (by kernel_rfl) (by kernel_rfl) (by kernel_rfl) (by kernel_rfl) rfl (by kernel_rfl) (phiT (fun i => ([some (.func (.func 62) #[] #[.pointer (some ⟨tb, 0, none⟩), .pointer (some ⟨pb, 0, none⟩)]), some (.int .i64 (lo : Int)), some (.int .i64 (((lo : Int) + (hi : Int)) / 2)), none, some (.func (.func 62) #[] #[.pointer (some ⟨tb, 0, none⟩), .pointer (some ⟨pb, 0, none⟩)]), some (.int .i64 (((lo : Int) + (hi : Int)) / 2)), some (.int .i64 (hi : Int)), none, none, some (undef)] : List (Option Value)).getD i none) (fun i v w => (if i = 3 then (fun (v : Value) (w : World) => ∃ r, PolyV w v (some r) ∧ Can r ∧ Lim r ∧ ∀ x, cf r x = cf (sl ts lo mid) x) v w else (if i = 7 then (fun (v : Value) (w : World) => ∃ r, PolyV w v (some r) ∧ Can r ∧ Lim r ∧ ∀ x, cf r x = cf (sl ts mid hi) x) v w else (if i = 8 then (fun (v : Value) (w : World) => ∃ r, PolyV w v (some r) ∧ Can r ∧ Lim r ∧ ∀ x, cf r x = cf (sl ts lo hi) x) v w else True))))) (fun i v w w' h hb => ?_) (fun i => false) (fun i v w hi h k hk => ?_) (fun x W => ∃ v r, PolyV W v (some r) ∧ Can r ∧ Lim r ∧ (∀ x, cf r x = cf (sl ts lo hi) x) ∧ (∃ A5 n5 c5, v = .agg #[.bool false, .slice A5 n5 c5] ∧ Arr W w.heap.size 27 [.bool false, .slice A5 n5 c5]) ∧ Below w.heap.size w W) ⟨?_, ?_, ?_, ?_, ?_, ?_, ?_, ?_, ?_, ?_, trivial⟩ ?_
      · unfold phiT at h ⊢
        split
        · next u hu => rw [hu] at h; exact h
        · next hu =>
          rw [hu] at h
          simp only at h ⊢
          by_cases q3 : i = 3
          · rw [if_pos q3] at h ⊢; exact (by obtain ⟨r, h1, h2⟩ := (show ∃ r, PolyV w v (some r) ∧ Can r ∧ Lim r ∧ ∀ x, cf r x = cf (sl ts lo mid) x from h); exact ⟨r, h1.below hb, h2⟩)
          · rw [if_neg q3] at h ⊢
            by_cases q7 : i = 7
            · rw [if_pos q7] at h ⊢; exact (by obtain ⟨r, h1, h2⟩ := (show ∃ r, PolyV w v (some r) ∧ Can r ∧ Lim r ∧ ∀ x, cf r x = cf (sl ts mid hi) x from h); exact ⟨r, h1.below hb, h2⟩)
            · rw [if_neg q7] at h ⊢
              by_cases q8 : i = 8
              · rw [if_pos q8] at h ⊢; exact (by obtain ⟨r, h1, h2⟩ := (show ∃ r, PolyV w v (some r) ∧ Can r ∧ Lim r ∧ ∀ x, cf r x = cf (sl ts lo hi) x from h); exact ⟨r, h1.below hb, h2⟩)
              · rw [if_neg q8] at h ⊢
                trivial
      · simp only [Bool.or_eq_true, decide_eq_true_eq, Bool.false_eq_true] at hi
      · intro x w1 bA hbel hdep hdap hold hb
        refine ⟨fun _ => ?_, fun h => absurd h (by decide)⟩
        have e3 : bA.tmps[3]?.getD undef = .pointer (some ⟨pb, 0, none⟩) := hb 3
        have u1 := (qp.below hbel qp.lt).cell 0
        refine phf_run (.func (.func 62) #[] #[.pointer (some ⟨tb, 0, none⟩), .pointer (some ⟨pb, 0, none⟩)]) rfl ?_ rfl
        clear hb hdep hdap hold
        go_simp
      · intro x w1 bA hbel hdep hdap hold hb
        refine ⟨fun _ => ?_, fun h => absurd h (by decide)⟩
        have e0 : bA.tmps[0]?.getD undef = .int .i64 (lo : Int) := hb 0
        refine phf_run (.int .i64 (lo : Int)) rfl ?_ rfl
        clear hb hdep hdap hold
        go_simp
      · intro x w1 bA hbel hdep hdap hold hb
        refine ⟨fun _ => ?_, fun h => absurd h (by decide)⟩
        have e7 : bA.tmps[7]?.getD undef = .int .i64 (((lo : Int) + (hi : Int)) / 2) := hb 7
        refine phf_run (.int .i64 (((lo : Int) + (hi : Int)) / 2)) rfl ?_ rfl
        clear hb hdep hdap hold
        go_simp
      · intro x w1 bA hbel hdep hdap hold hb
        refine ⟨fun _ => ?_, fun h => absurd h (by decide)⟩
        have e31 : bA.tmps[31]?.getD undef = .func (.func 62) #[] #[.pointer (some ⟨tb, 0, none⟩), .pointer (some ⟨pb, 0, none⟩)] := (hb 31).trans (hdep 0 (by decide))
        have e32 : bA.tmps[32]?.getD undef = .int .i64 (lo : Int) := (hb 32).trans (hdep 1 (by decide))
        have e33 : bA.tmps[33]?.getD undef = .int .i64 (((lo : Int) + (hi : Int)) / 2) := (hb 33).trans (hdep 2 (by decide))
        refine phf_call ?_ ((IH1.out w1 (qt.below hbel qt.lt) (qp.below hbel qp.lt) (HF.out w1 (hb3.trans (hbel.mono hb3.size)))).mono fun e w' ⟨v, r, he, hv, hc, hli, hx, hb'⟩ => ⟨v, he, hb', ⟨r, hv, hc, hli, hx⟩, fun h => Bool.noConfusion h⟩)
        clear hb hdep hdap hold
        go_simp
      · intro x w1 bA hbel hdep hdap hold hb
        refine ⟨fun _ => ?_, fun h => absurd h (by decide)⟩
        have e3 : bA.tmps[3]?.getD undef = .pointer (some ⟨pb, 0, none⟩) := hb 3
        have u1 := (qp.below hbel qp.lt).cell 0
        refine phf_run (.func (.func 62) #[] #[.pointer (some ⟨tb, 0, none⟩), .pointer (some ⟨pb, 0, none⟩)]) rfl ?_ rfl
        clear hb hdep hdap hold
        go_simp
      · intro x w1 bA hbel hdep hdap hold hb
        refine ⟨fun _ => ?_, fun h => absurd h (by decide)⟩
        have e7 : bA.tmps[7]?.getD undef = .int .i64 (((lo : Int) + (hi : Int)) / 2) := hb 7
        refine phf_run (.int .i64 (((lo : Int) + (hi : Int)) / 2)) rfl ?_ rfl
        clear hb hdep hdap hold
        go_simp
      · intro x w1 bA hbel hdep hdap hold hb
        refine ⟨fun _ => ?_, fun h => absurd h (by decide)⟩
        have e1 : bA.tmps[1]?.getD undef = .int .i64 (hi : Int) := hb 1
        refine phf_run (.int .i64 (hi : Int)) rfl ?_ rfl
        clear hb hdep hdap hold
        go_simp
      · intro x w1 bA hbel hdep hdap hold hb
        refine ⟨fun _ => ?_, fun h => absurd h (by decide)⟩
        have e35 : bA.tmps[35]?.getD undef = .func (.func 62) #[] #[.pointer (some ⟨tb, 0, none⟩), .pointer (some ⟨pb, 0, none⟩)] := (hb 35).trans (hdep 4 (by decide))
        have e36 : bA.tmps[36]?.getD undef = .int .i64 (((lo : Int) + (hi : Int)) / 2) := (hb 36).trans (hdep 5 (by decide))
        have e37 : bA.tmps[37]?.getD undef = .int .i64 (hi : Int) := (hb 37).trans (hdep 6 (by decide))
        refine phf_call ?_ ((IH2.out w1 (qt.below hbel qt.lt) (qp.below hbel qp.lt) (HF.out w1 (hb3.trans (hbel.mono hb3.size)))).mono fun e w' ⟨v, r, he, hv, hc, hli, hx, hb'⟩ => ⟨v, he, hb', ⟨r, hv, hc, hli, hx⟩, fun h => Bool.noConfusion h⟩)
        clear hb hdep hdap hold
        go_simp
      · intro x w1 bA hbel hdep hdap hold hb
        refine ⟨fun _ => ?_, fun h => absurd h (by decide)⟩
        have p34 := hdep 3 (by decide)
        have e34 : bA.tmps[34]?.getD undef = x 3 := hb 34
        generalize x 3 = x34 at *
        have P34 := Lib.hid (show (fun (v : Value) (w : World) => ∃ r, PolyV w v (some r) ∧ Can r ∧ Lim r ∧ ∀ x, cf r x = cf (sl ts lo mid) x) x34 w1 from p34)
        clear p34
        have p38 := hdep 7 (by decide)
        have e38 : bA.tmps[38]?.getD undef = x 7 := hb 38
        generalize x 7 = x38 at *
        have P38 := Lib.hid (show (fun (v : Value) (w : World) => ∃ r, PolyV w v (some r) ∧ Can r ∧ Lim r ∧ ∀ x, cf r x = cf (sl ts mid hi) x) x38 w1 from p38)
        clear p38
        obtain ⟨r1, v1, k1, l1, e1⟩ := P34.out
        obtain ⟨r2, v2, k2, l2, e2⟩ := P38.out
        have HAD := Lib.hid (fun (v : Value) (r : Pol) (e : Ending) (w' : World) (he : e = .returned v) (hv : PolyV w' v r) (hcm : CombP (fun a b => a + b) (some r1) (some r2) r) (hb' : Below w1.heap.size w1 w') => (by obtain ⟨l, rfl, hc, hli, hx⟩ := HJ.out r1 r2 r e1 e2 hcm; exact ⟨v, he, hb', ⟨l, hv, hc, hli, hx⟩, fun h => Bool.noConfusion h⟩ : ∃ v, e = .returned v ∧ Below w1.heap.size w1 w' ∧ (∃ r, PolyV w' v (some r) ∧ Can r ∧ Lim r ∧ ∀ x, cf r x = cf (sl ts lo hi) x) ∧ ((fun i => false) 8 = true → ∀ k, v.ownBlock = some k → w1.heap.size ≤ k)))
        refine phf_call ?_ ((Add_any x34 x38 (some r1) (some r2) w1 v1 v2 ⟨k1, l1⟩ ⟨k2, l2⟩).mono fun e w' ⟨v, r, he, hv, hcm, hb'⟩ => HAD.out v r e w' he hv hcm hb')
        clear hb hdep hdap hold
        go_simp
      · intro x w1 bA hbel hdep hdap hold hb
        refine ⟨fun h => absurd h (by decide), fun _ hall => ?_⟩
        have e6 : bA.tmps[6]?.getD undef = .pointer (some ⟨w.heap.size, 0, none⟩) := hb 6
        have e39 : bA.tmps[39]?.getD undef = x 8 := hb 39
        have p34 := Lib.hid (show (fun (v : Value) (w : World) => ∃ r, PolyV w v (some r) ∧ Can r ∧ Lim r ∧ ∀ x, cf r x = cf (sl ts lo mid) x) (x 3) w1 from hall 3 (by decide))
        have p38 := Lib.hid (show (fun (v : Value) (w : World) => ∃ r, PolyV w v (some r) ∧ Can r ∧ Lim r ∧ ∀ x, cf r x = cf (sl ts mid hi) x) (x 7) w1 from hall 7 (by decide))
        have p39 := Lib.hid (show (fun (v : Value) (w : World) => ∃ r, PolyV w v (some r) ∧ Can r ∧ Lim r ∧ ∀ x, cf r x = cf (sl ts lo hi) x) (x 8) w1 from hall 8 (by decide))
        clear hb hdep hdap hold
        obtain ⟨r, hpv, hpc, hpl, hpx⟩ := p39.out
        obtain ⟨A5, c5, ev, ht⟩ := hpv
        rw [ev] at e39
        have q6 := qr.below hbel qr.lt
        obtain ⟨n5, hn5⟩ : ∃ n, n = ((some r : Pol).getD []).length := ⟨_, rfl⟩
        have PV := Lib.hid (fun u1 u2 => (show PolyV w1 (.agg #[.bool false, .slice A5 n5 c5]) (some r) from ⟨A5, c5, by rw [hn5]; rfl, ht⟩).box q6 u1 u2)
        rw [← hn5] at e39
        have e39b : bA.tmps[39]?.getD undef = .agg #[.bool false, .slice A5 n5 c5] := e39
        have g0 := q6.cell 0
        have g1 := q6.cell 1
        have g2 := q6.frozen 0
        have g3 := q6.frozen 1
        have HBL := Lib.hid (hb3.trans (hbel.mono hb3.size))
        have Q6 := Lib.hid ((q6.set 0 (.bool false)).set 1 (.slice A5 n5 c5))
        have PX := Lib.hid (And.intro hpc (And.intro hpl hpx))
        clear ht p34 p38 p39 q6 ev hn5 hpc hpl hpx e39
        refine phs_store (n := 9) (x := x) (R := fun x W => ∃ v r, PolyV W v (some r) ∧ Can r ∧ Lim r ∧ (∀ x, cf r x = cf (sl ts lo hi) x) ∧ (∃ A5 n5 c5, v = .agg #[.bool false, .slice A5 n5 c5] ∧ Arr W w.heap.size 27 [.bool false, .slice A5 n5 c5]) ∧ Below w.heap.size w W) ((w1.setCell ⟨w.heap.size, 0, none⟩ (.bool false)).setCell ⟨w.heap.size, 1, none⟩ (.slice A5 n5 c5)) ?_ rfl (fun v => ⟨_, r, PV.out _ _, PX.out.1, PX.out.2.1, PX.out.2.2, ⟨_, _, _, rfl, Q6.out⟩, (HBL.out.setCell (p := ⟨w.heap.size, 0, none⟩) (Nat.le_refl _) _).setCell (p := ⟨w.heap.size, 1, none⟩) (Nat.le_refl _) _⟩)
        go_simp
      intro x W hR
      obtain ⟨v, r, hv, hc, hli, hx, ⟨A5, n5, c5, rfl, hq⟩, hb⟩ := hR
      simp only [putAll, dstOf, Act.put, List.map_cons, List.map_nil, List.setIfInBounds_toArray, List.set_cons_succ, List.set_cons_zero, Nat.reduceAdd]
      go_wp2_with fail
      refine bodyPost_ret (v := .agg #[.bool false, .slice A5 n5 c5]) (results_c Tryd.results62 _ _ w.heap.size 27 _ _ rfl hq Tryd.underlying27 rfl info_poly) rfl ?_
      exact ⟨_, r, rfl, hv, hc, hli, hx, hb⟩
end Go.Proofs.YtlbihllmpbhhcaaDoor
