/- bivariate.Set of a big polynomial. -/
/- bivariate.Set where a has no inverse and is asked for one. -/
/- bivariate.Set where both values are single terms with the coefficient 1 or -1. -/
import Derived.Test.YtbfggncmjdhapaaGreatDoorZBst
import Derived.Test.YtbfggncmjdhapaaGreatDoorZPhm
namespace Go.Proofs.YtbfggncmjdhapaaGreatDoor
open Go.RowKit
set_option linter.unusedVariables false

set_option maxHeartbeats 1000000 in
set_option maxRecDepth 100000 in
theorem Set_big (vp va vz : Value) (pa pz : Pol) (w : World) (hp : PolyB w vp none) (ha : PolyV w va pa) (hz : PolyV w vz pz) :
    Calls Tryz.prog 20 #[vp, va, vz] w fun e w' => e = .returned (.tuple #[.agg #[.bool false, .slice none 0 0], .int .i64 9]) ∧ Below w.heap.size w w' := by
  obtain ⟨bA, Aa, na, ca0, rfl, -, -⟩ := ha.parts
  obtain ⟨bZ, Az, nz, cz0, rfl, -, -⟩ := hz.parts
  obtain ⟨A, c, rfl, _⟩ := hp
  simp only [Option.isNone_none, Option.getD_none, List.length_nil]
  have hW : ∀ W, W = (((w.alloc (.cells #[.bool true, .slice A 0 c] 27)).alloc (.cells #[.bool bA, .slice Aa na ca0] 38)).alloc (.cells #[.bool bZ, .slice Az nz cz0] 38)).alloc (.cells #[.bool false, .slice none 0 0] 38) → Arr W w.heap.size 27 [.bool true, .slice A 0 c] ∧ Arr W (w.heap.size + 1) 38 [.bool bA, .slice Aa na ca0] ∧ Arr W (w.heap.size + 2) 38 [.bool bZ, .slice Az nz cz0] ∧ Arr W (w.heap.size + 3) 38 [.bool false, .slice none 0 0] ∧ Below w.heap.size w W ∧ W.heap.size = w.heap.size + 4 := by
    intro W hW
    subst hW
    exact ⟨(((Arr.new _ _ [_, _]).alloc _).alloc _).alloc _, ((Arr.newAt (w.alloc _) _ [_, _] _ (by simp)).alloc _).alloc _, (Arr.newAt ((w.alloc _).alloc _) _ [_, _] _ (by simp)).alloc _, Arr.newAt (((w.alloc _).alloc _).alloc _) _ [_, _] _ (by simp), ((((Below.refl _ _).alloc (Nat.le_refl _) _).alloc (by simp) _).alloc (by simp <;> omega) _).alloc (by simp <;> omega) _, by simp⟩
  clear ha hz
  go_enter Tryz.func20, Tryz.ntmps20
  go_upto_region 1 with fail
  generalize (((w.alloc (.cells #[.bool true, .slice A 0 c] 27)).alloc (.cells #[.bool bA, .slice Aa na ca0] 38)).alloc (.cells #[.bool bZ, .slice Az nz cz0] 38)).alloc (.cells #[.bool false, .slice none 0 0] 38) = w3 at hW ⊢
  obtain ⟨qp, qa, qz, qr, hb3, hs3⟩ := hW w3 rfl
  clear hW
  have y0 := qp.cell 0
  have x0 := qr.cell 0
  have x1 := qr.cell 1
  have f0 := qr.frozen 0
  have f1 := qr.frozen 1
  have HRS := Lib.hid ((qr.set 0 (.bool false)).set 1 (.slice none 0 0))
  have HBE := Lib.hid ((hb3.setCell (p := ⟨w.heap.size + 3, 0, none⟩) (by simp) (.bool false)).setCell (p := ⟨w.heap.size + 3, 1, none⟩) (by simp) (.slice none 0 0))
  clear qp qa qz qr hb3 hs3
  go_wp2_with fail
  refine bodyPost_ret (v := .tuple #[.agg #[.bool false, .slice none 0 0], .int .i64 9]) (results_ct Tryz.results20 _ _ (w.heap.size + 3) 38 _ _ rfl HRS.out Tryz.underlying38 rfl info_poly) rfl ?_
  exact ⟨rfl, HBE.out⟩
end Go.Proofs.YtbfggncmjdhapaaGreatDoor

namespace Go.Proofs.YtbfggncmjdhapaaGreatDoor
open Go.RowKit
set_option linter.unusedVariables false

set_option maxHeartbeats 4000000 in
set_option maxRecDepth 100000 in
theorem Set_form (vp va vz : Value) (l : List T2) (la lz : List T1) (w : World) (hp : PolyB w vp (some l)) (ha : PolyV w va (some la)) (hz : PolyV w vz (some lz)) (oka : okP (some la)) (hua : unitP (some la) = false) (lp : Lim2 l) (hl : l.length ≤ 10000) (h0 : 0 < l.length) (hneg0 : l[0].1.1 < 0) :
    Calls Tryz.prog 20 #[vp, va, vz] w fun e w' => e = .returned (.tuple #[.agg #[.bool false, .slice none 0 0], .int .i64 3]) ∧ Below w.heap.size w w' := by
  have HP := Lib.hid (fun W (hb : Below w.heap.size w W) => hp.below hb)
  have HBA := Lib.hid (fun W (hb : Below w.heap.size w W) => Big_any va (some la) W (ha.below hb))
  have HBZ := Lib.hid (fun W (hb : Below w.heap.size w W) => Big_any vz (some lz) W (hz.below hb))
  have HUN := Lib.hid (fun W (hb : Below w.heap.size w W) => unit_any va (some la) W (ha.below hb) oka)
  rw [hua] at HUN
  have HLP := Lib.hid (And.intro lp hneg0)
  obtain ⟨bA, Aa, na, ca0, rfl, jA, -⟩ := ha.parts
  have jb : bA = false := jA
  subst jb
  obtain ⟨bZ, Az, nz, cz0, rfl, jZ, -⟩ := hz.parts
  have jb : bZ = false := jZ
  subst jb
  obtain ⟨A, c, rfl, _⟩ := hp
  simp only [Option.isNone_some, Option.getD_some] at HP ⊢
  have hW : ∀ W, W = (((w.alloc (.cells #[.bool false, .slice A l.length c] 27)).alloc (.cells #[.bool false, .slice Aa na ca0] 38)).alloc (.cells #[.bool false, .slice Az nz cz0] 38)).alloc (.cells #[.bool false, .slice none 0 0] 38) → Arr W w.heap.size 27 [.bool false, .slice A l.length c] ∧ Arr W (w.heap.size + 1) 38 [.bool false, .slice Aa na ca0] ∧ Arr W (w.heap.size + 2) 38 [.bool false, .slice Az nz cz0] ∧ Arr W (w.heap.size + 3) 38 [.bool false, .slice none 0 0] ∧ Below w.heap.size w W ∧ W.heap.size = w.heap.size + 4 := by
    intro W hW
    subst hW
    exact ⟨(((Arr.new _ _ [_, _]).alloc _).alloc _).alloc _, ((Arr.newAt (w.alloc _) _ [_, _] _ (by simp)).alloc _).alloc _, (Arr.newAt ((w.alloc _).alloc _) _ [_, _] _ (by simp)).alloc _, Arr.newAt (((w.alloc _).alloc _).alloc _) _ [_, _] _ (by simp), ((((Below.refl _ _).alloc (Nat.le_refl _) _).alloc (by simp) _).alloc (by simp <;> omega) _).alloc (by simp <;> omega) _, by simp⟩
  clear ha hz jA jZ lp hneg0 hua oka
  go_enter Tryz.func20, Tryz.ntmps20
  go_upto_region 1 with fail
  generalize (((w.alloc (.cells #[.bool false, .slice A l.length c] 27)).alloc (.cells #[.bool false, .slice Aa na ca0] 38)).alloc (.cells #[.bool false, .slice Az nz cz0] 38)).alloc (.cells #[.bool false, .slice none 0 0] 38) = w3 at hW ⊢
  obtain ⟨qp, qa, qz, qr, hb3, hs3⟩ := hW w3 rfl
  clear hW
  have y0 := qp.cell 0
  have y1 := qa.cell 0
  have y2 := qa.cell 1
  have B1 := Lib.hid (HBA.out w3 hb3)
  go_wp2_with fail
  refine B1.out.mono ?_
  rintro e w4 ⟨rfl, hb4⟩
  have hb3' := hb3.trans (hb4.mono hb3.size)
  have q3p := qp.below hb4 qp.lt
  have q3a := qa.below hb4 qa.lt
  have q3z := qz.below hb4 qz.lt
  have q3r := qr.below hb4 qr.lt
  have hs4 := hb4.size
  have y3 := q3z.cell 0
  have y4 := q3z.cell 1
  have B2 := Lib.hid (HBZ.out w4 hb3')
  clear y0 y1 y2 B1 qp qa qz qr hb3 hb4
  go_wp2_with fail
  refine B2.out.mono ?_
  rintro e w5 ⟨rfl, hb5⟩
  have qp := q3p.below hb5 q3p.lt
  have qa := q3a.below hb5 q3a.lt
  have qz := q3z.below hb5 q3z.lt
  have qr := q3r.below hb5 q3r.lt
  have hb6 := hb3'.trans (hb5.mono hb3'.size)
  have hs5 : w.heap.size + 4 ≤ w5.heap.size := by have := hb5.size; omega
  clear y3 y4 B2 q3p q3a q3z q3r hb3' hb5 hs3 hs4
  have y1 := qp.cell 1
  have HST := Lib.hid (show Arr w5 w.heap.size 27 [.bool false, .slice A l.length c] ∧ Arr w5 (w.heap.size + 1) 38 [.bool false, .slice Aa na ca0] ∧ Arr w5 (w.heap.size + 2) 38 [.bool false, .slice Az nz cz0] ∧ Arr w5 (w.heap.size + 3) 38 [.bool false, .slice none 0 0] ∧ Below w.heap.size w w5 ∧ w.heap.size + 4 ≤ w5.heap.size from ⟨qp, qa, qz, qr, hb6, hs5⟩)
  clear qp qa qz qr hb6 hs5
  go_wp2_with fail
  clear y1
  go_loopg [8, 33] l.length (fun gk s8 s33 wr => ∃ (i : Nat), i = 0 ∧ gk = l.length - i ∧ s33 = .int .i64 (i : Int) ∧ s8 = .int .i64 0 ∧ Hid (Arr wr w.heap.size 27 [.bool false, .slice A l.length c] ∧ Arr wr (w.heap.size + 1) 38 [.bool false, .slice Aa na ca0] ∧ Arr wr (w.heap.size + 2) 38 [.bool false, .slice Az nz cz0] ∧ Arr wr (w.heap.size + 3) 38 [.bool false, .slice none 0 0] ∧ Below w.heap.size w wr ∧ w.heap.size + 4 ≤ wr.heap.size))
  case atStart => exact ⟨0, rfl, rfl, rfl, rfl, HST⟩
  case round =>
    clear HST
    obtain ⟨i, hi0, rfl, rfl, rfl, HR⟩ := hrel
    have hlt : i < l.length := by omega
    have hneg1 := HLP.out.2
    have hneg2 : l[i].1.1 < 0 := by subst hi0; exact hneg1
    clear hneg1 hi0
    by_cases hlt2 : i < l.length
    · have z1 : (i : Int) < (l.length : Int) := by omega
      obtain ⟨b, o', rfl, _, hc0, hc1, hc2⟩ := (HP.out wr HR.out.2.2.2.2.1).tm_some.at_ hlt
      have hea := HLP.out.1.ea _ (List.getElem_mem hlt)
      have hez := HLP.out.1.ez _ (List.getElem_mem hlt)
      generalize l[i].1.1 = ta at *
      generalize l[i].1.2 = tz at *
      generalize l[i].2 = tc at *
      have hWo : ∀ W, W = wr.alloc (.cells #[.int .i64 ta, .int .i64 tz, .int .i64 tc] 65) → Arr W wr.heap.size 65 [.int .i64 ta, .int .i64 tz, .int .i64 tc] ∧ Below wr.heap.size wr W := by
        intro W hW
        subst hW
        exact ⟨Arr.new _ _ [_, _, _], (Below.refl _ _).alloc (Nat.le_refl _) _⟩
      go_upto_region 7 with fail
      generalize wr.alloc (.cells #[.int .i64 ta, .int .i64 tz, .int .i64 tc] 65) = w6 at hWo ⊢
      obtain ⟨qt, hb6⟩ := hWo w6 rfl
      obtain ⟨B10, hB10⟩ : ∃ B, B = wr.heap.size := ⟨_, rfl⟩
      rw [← hB10] at qt ⊢
      have HF := Lib.hid (show Arr w6 w.heap.size 27 [.bool false, .slice (some ⟨b, o', none⟩) l.length c] ∧ Arr w6 (w.heap.size + 1) 38 [.bool false, .slice Aa na ca0] ∧ Arr w6 (w.heap.size + 2) 38 [.bool false, .slice Az nz cz0] ∧ Arr w6 (w.heap.size + 3) 38 [.bool false, .slice none 0 0] ∧ Below w.heap.size w w6 ∧ w.heap.size + 4 ≤ w6.heap.size from
        ⟨HR.out.1.below hb6 HR.out.1.lt, HR.out.2.1.below hb6 HR.out.2.1.lt, HR.out.2.2.1.below hb6 HR.out.2.2.1.lt, HR.out.2.2.2.1.below hb6 HR.out.2.2.2.1.lt, HR.out.2.2.2.2.1.trans (hb6.mono HR.out.2.2.2.2.1.size), Nat.le_trans HR.out.2.2.2.2.2 hb6.size⟩)
      clear hc0 hc1 hc2 HR hWo hB10
      · have y0 := qt.cell 0
        have x0 := HF.out.2.1.cell 0
        have x1 := HF.out.2.1.cell 1
        have U := Lib.hid (HUN.out w6 HF.out.2.2.2.2.1)
        go_wp2_with fail
        refine U.out.mono ?_
        rintro e w7 ⟨rfl, hb7⟩
        have qr7 := HF.out.2.2.2.1.below hb7 HF.out.2.2.2.1.lt
        have hb8 := HF.out.2.2.2.2.1.trans (hb7.mono HF.out.2.2.2.2.1.size)
        have f0 := qr7.frozen 0
        have f1 := qr7.frozen 1
        have r0 := qr7.cell 0
        have r1 := qr7.cell 1
        have HRS := Lib.hid ((qr7.set 0 (.bool false)).set 1 (.slice none 0 0))
        have HBE := Lib.hid ((hb8.setCell (p := ⟨w.heap.size + 3, 0, none⟩) (by simp) (.bool false)).setCell (p := ⟨w.heap.size + 3, 1, none⟩) (by simp) (.slice none 0 0))
        clear y0 x0 x1 U qt hb7 qr7 hb8
        go_wp2_with fail
        refine bodyPost_ret (v := .tuple #[.agg #[.bool false, .slice none 0 0], .int .i64 3]) (results_ct Tryz.results20 _ _ (w.heap.size + 3) 38 _ _ rfl HRS.out Tryz.underlying38 rfl info_poly) rfl ?_
        exact ⟨rfl, HBE.out⟩
    · exact absurd hlt hlt2
end Go.Proofs.YtbfggncmjdhapaaGreatDoor

namespace Go.Proofs.YtbfggncmjdhapaaGreatDoor
open Go.RowKit
set_option linter.unusedVariables false

def SA2 (w : World) (Ba Bz : Nat) (am zm : PM) (G : List Nat) (W : World) : Prop := Below w.heap.size w W ∧ Arr W Ba 38 [.bool false, .slice am.1 am.2.1 am.2.2] ∧ Arr W Bz 38 [.bool false, .slice zm.1 zm.2.1 zm.2.2] ∧ ∀ k ∈ G, w.heap.size ≤ k ∧ k ≠ Ba ∧ k ≠ Bz
theorem SA2.s1 {w : World} {Ba Bz : Nat} {am zm : PM} (G G' : List Nat) (a b : World) (h : SA2 w Ba Bz am zm G a) (hb : Below a.heap.size a b) (hG : ∀ k ∈ G', k ∈ G ∨ (a.heap.size ≤ k ∧ k < b.heap.size)) : SA2 w Ba Bz am zm G' b := by
  obtain ⟨h1, h2, h3, h4⟩ := h
  refine ⟨h1.trans (hb.mono h1.size), h2.below hb h2.lt, h3.below hb h3.lt, fun k hk => ?_⟩
  rcases hG k hk with h | h
  · exact h4 k h
  · have e1 := h1.size
    have e2 := h2.lt
    have e3 := h3.lt
    exact ⟨by omega, by omega, by omega⟩
theorem SA2.s2 {w : World} {Ba Bz : Nat} {am zm : PM} (G : List Nat) (a : World) (g j : Nat) (u : Value) (cs : List Value) (h : SA2 w Ba Bz am zm G a) (hg : g ∈ G) (ha : Arr a g 38 cs) : SA2 w Ba Bz am zm G (a.setCell ⟨g, j, none⟩ u) := by
  obtain ⟨h1, h2, h3, h4⟩ := h
  obtain ⟨k1, k2, k3⟩ := h4 g hg
  exact ⟨h1.setCell (p := ⟨g, j, none⟩) k1 _, h2.far (p := ⟨g, j, none⟩) (fun e => k2 e.symm) _, h3.far (p := ⟨g, j, none⟩) (fun e => k3 e.symm) _, h4⟩
theorem Set_one (vp va vz : Value) (l : List T2) (ea ca ez cz : Int) (w : World) (hp : PolyB w vp (some l)) (ha : PolyV w va (some [(ea, ca)])) (hz : PolyV w vz (some [(ez, cz)])) (hca : ca = 1 ∨ ca = -1) (hcz : cz = 1 ∨ cz = -1) (hea : -1048576 ≤ ea ∧ ea ≤ 1048576) (hez : -1048576 ≤ ez ∧ ez ≤ 1048576)
    (lp : Lim2 l) (kp : Can2 l) (hl : l.length ≤ 10000) (hnn : ∀ t ∈ l, 0 ≤ t.1.2) (hxa : ∀ t ∈ l, -400000 ≤ ea * t.1.1 ∧ ea * t.1.1 ≤ 400000) (hxz : ∀ t ∈ l, -400000 ≤ ez * t.1.2 ∧ ez * t.1.2 ≤ 400000) (hsum : asum1 (setL (LAu ea ca) (LAu ez cz) l) ≤ 1125899906842624) :
    Calls Tryz.prog 20 #[vp, va, vz] w (SetR (setL (LAu ea ca) (LAu ez cz) l) w) := by
  have oka := okP_one hca hea
  have okz := okP_one hcz hez
  refine Set_walk1 vp va vz l [(ea, ca)] [(ez, cz)] w (PsA w va) (PsA w vz) (LAu ea ca) (LAu ez cz) (fun n => (-1000000000 ≤ n ∧ n ≤ 1000000000) ∧ -1048576 ≤ ea * n ∧ ea * n ≤ 1048576) (fun n => (-1000000000 ≤ n ∧ n ≤ 1000000000) ∧ -1048576 ≤ ez * n ∧ ez * n ≤ 1048576) hp ha hz oka (unitP_one hca) lp kp hl hnn (psA_any va ea ca w ha oka) (psA_any vz ez cz w hz okz) (psA_keep w va) (psA_keep w vz) ?_ (fun t ht => ?_) (fun t ht => ?_) (fun t ht => ?_) (fun t ht => ?_) (fun t ht => by rw [asum1_LAu hca]; exact Nat.le_refl _) (fun t ht => by rw [asum1_LAu hcz]; exact Nat.le_refl _) hsum
  · rintro fA fZ W ⟨am, Ba, hva, rfl, h3, h4, h5⟩ ⟨zm, Bz, hvz, rfl, k3, k4, k5⟩
    refine ⟨_, _, _, _, SA2 w Ba Bz am zm, ⟨rfl, rfl, SA2.s1, SA2.s2, enters_of Tryz.func75 (by kernel_rfl) rfl, enters_of Tryz.func75 (by kernel_rfl) rfl, ?_, ?_⟩, ?_⟩
    · intro G n W' hn hS' hsz
      refine (pow1_any Ba am.2.1 am.2.2 am.1 ea ca n W' hS'.2.1 (by rw [← hva]; exact ha.below hS'.1) hca hn.1 hea hn.2).mono ?_
      rintro e w' ⟨v, he, hb, hv⟩
      have hd := pwU_bd hca n
      exact ⟨v, he, ⟨_, hv, (okP_one hd ⟨by have := hn.2; omega, by have := hn.2; omega⟩).1, (okP_one hd ⟨by have := hn.2; omega, by have := hn.2; omega⟩).2, fun e => rfl⟩, KT.of_below (fun a b h hb => SA2.s1 G G a b h hb fun k hk => .inl hk) hb hsz⟩
    · intro G n W' hn hS' hsz
      refine (pow1_any Bz zm.2.1 zm.2.2 zm.1 ez cz n W' hS'.2.2.1 (by rw [← hvz]; exact hz.below hS'.1) hcz hn.1 hez hn.2).mono ?_
      rintro e w' ⟨v, he, hb, hv⟩
      have hd := pwU_bd hcz n
      exact ⟨v, he, ⟨_, hv, (okP_one hd ⟨by have := hn.2; omega, by have := hn.2; omega⟩).1, (okP_one hd ⟨by have := hn.2; omega, by have := hn.2; omega⟩).2, fun e => rfl⟩, KT.of_below (fun a b h hb => SA2.s1 G G a b h hb fun k hk => .inl hk) hb hsz⟩
    · refine ⟨h5, h4, k4, fun k hk => ?_⟩
      have := List.mem_singleton.1 hk
      omega
  · have := hxa t ht; have := lp.ea t ht; exact ⟨by omega, by omega⟩
  · have := hxz t ht; have := lp.ez t ht; exact ⟨by omega, by omega⟩
  · intro s hs
    have := hxa t ht
    unfold LAu at hs
    rw [List.mem_singleton.1 hs]
    simp only
    omega
  · intro s hs
    have := hxz t ht
    unfold LAu at hs
    rw [List.mem_singleton.1 hs]
    simp only
    omega
end Go.Proofs.YtbfggncmjdhapaaGreatDoor
