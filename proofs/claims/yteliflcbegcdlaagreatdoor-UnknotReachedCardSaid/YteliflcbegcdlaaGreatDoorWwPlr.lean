/- package unknot: search.add. -/
/- package unknot: what explore keeps (plain facts on runs; boxes and the state in memory). -/
/- package unknot: what a run of the search has found (plain). -/
import Derived.Test.YteliflcbegcdlaaGreatDoorWwRvm
import Derived.Test.YteliflcbegcdlaaGreatDoorWwNbp
import Derived.Test.YteliflcbegcdlaaGreatDoorWwMrk
namespace Go.Proofs.YteliflcbegcdlaaGreatDoor
open Go.RowKit Go.Shelf
set_option linter.unusedVariables false
/-- what add leaves -/
def AddP (B gS : Nat) (p : SP) (s : St) (most : Int) (g : Gd) (fr : Option Gd) (ms : List Mv) (w : World) (e : Ending) (w' : World) : Prop :=
  (addM most s g fr ms = none ∧ e = .returned (.bool false) ∧ Below w.heap.size w w') ∨
  ∃ s' p', addM most s g fr ms = some s' ∧ e = .returned (.bool true) ∧ SI gS w' s' p' ∧ Below B w w' ∧ Kf gS p w w' ∧ ∀ b, Ow gS p' b → Ow gS p b ∨ w.heap.size ≤ b
theorem hasK_yes {K : List En} {c : Gd} (h : hasK K c = true) : ∃ e ∈ K, e.key = c := by
  unfold hasK at h
  obtain ⟨e, he, hd⟩ := List.any_eq_true.1 h
  exact ⟨e, he, by simpa using hd⟩
theorem hasK_no {K : List En} {c : Gd} (h : ¬ hasK K c = true) : ∀ e ∈ K, e.key ≠ c := fun e he hc => h (List.any_eq_true.2 ⟨e, he, by simpa using hc⟩)
theorem AlK.mem {w : World} {L : List (List UInt8 × Value)} {K : List En} (h : AlK w L K) : (∀ q ∈ L, ∃ e ∈ K, q.1 = fmG e.key) ∧ ∀ e ∈ K, ∃ v, (fmG e.key, v) ∈ L ∧ Moves w v e.ms := by
  refine ⟨fun q hq => ?_, fun e he => ?_⟩
  · obtain ⟨i, hi⟩ := List.getElem?_of_mem hq
    have hlt : i < K.length := by rw [← h.1]; exact (List.getElem?_eq_some_iff.1 hi).1
    exact ⟨K[i], List.getElem_mem hlt, (h.2 i q _ hi (List.getElem?_eq_getElem hlt)).1⟩
  · obtain ⟨i, hi⟩ := List.getElem?_of_mem he
    have hlt : i < L.length := by rw [h.1]; exact (List.getElem?_eq_some_iff.1 hi).1
    obtain ⟨a, b⟩ := h.2 i _ e (List.getElem?_eq_getElem hlt) hi
    exact ⟨L[i].2, by rw [← a]; exact List.getElem_mem hlt, b⟩
theorem AlK.keys {w : World} {L : List (List UInt8 × Value)} {K : List En} (h : AlK w L K) : L.map (·.1) = K.map fun e => fmG e.key := by
  apply List.ext_getElem (by simp [h.1])
  intro i h1 h2
  simp only [List.getElem_map]
  exact (h.2 i _ _ (List.getElem?_eq_getElem (by simpa using h1)) (List.getElem?_eq_getElem (by simpa using h2))).1
theorem AlK.snoc {w w' : World} {L : List (List UInt8 × Value)} {K : List En} (h : AlK w L K) (hk : ∀ v ms, Moves w v ms → Moves w' v ms) {v : Value} {e : En} (hv : Moves w' v e.ms) : AlK w' (L ++ [(fmG e.key, v)]) (K ++ [e]) := by
  refine ⟨by simp [h.1], fun i q x h1 h2 => ?_⟩
  rcases Nat.lt_or_ge i L.length with hl | hl
  · rw [List.getElem?_append_left hl] at h1
    rw [List.getElem?_append_left (by rw [← h.1]; exact hl)] at h2
    obtain ⟨a, b⟩ := h.2 i q x h1 h2
    exact ⟨a, hk _ _ b⟩
  · rw [List.getElem?_append_right hl] at h1
    rw [List.getElem?_append_right (by rw [← h.1]; exact hl), ← h.1] at h2
    cases hj : i - L.length with
    | zero =>
      rw [hj] at h1 h2
      simp at h1 h2
      subst h1; subst h2
      exact ⟨rfl, hv⟩
    | succ j => rw [hj] at h1; simp at h1
theorem keys_nd {K : List En} (hv : ∀ e ∈ K, Vd e.key.1 e.key.2) (hn : (K.map En.key).Nodup) : (K.map fun e => fmG e.key).Nodup := by
  induction K with
  | nil => simp
  | cons e K ih =>
    rw [List.map_cons, List.nodup_cons] at hn ⊢
    refine ⟨fun h => ?_, ih (fun x hx => hv x (List.mem_cons_of_mem _ hx)) hn.2⟩
    obtain ⟨x, hx, hxe⟩ := List.mem_map.1 h
    have := fmG_inj (hv x (List.mem_cons_of_mem _ hx)) (hv e (List.mem_cons_self ..)) hxe
    exact hn.1 (List.mem_map.2 ⟨x, hx, this⟩)
theorem keys_no {K : List En} {c : Gd} (hc : Vd c.1 c.2) (hv : ∀ e ∈ K, Vd e.key.1 e.key.2) (h : ¬ hasK K c = true) : ∀ e ∈ K, fmG e.key ≠ fmG c := fun e he hx => hasK_no h e he (fmG_inj (hv e he) hc hx)
set_option maxRecDepth 20000 in
theorem add_any (B gS : Nat) (p : SP) (s : St) (most : Int) (q : GV) (g : Gd) (fr : Option Gd) (vm : Value) (ms : List Mv) (w : World)
    (hs : SI gS w s p) (hp : StP s) (hB : ∀ b, Ow gS p b → B ≤ b) (hBw : B ≤ w.heap.size) (hq : GvI w q g) (hv : Vd g.1 g.2) (hm : Moves w vm ms) (hmo : (s.1.length : Int) < most → s.1.length < 90000000) (ht : Tb w) :
    Calls Tryz.prog 35 #[.pointer (some ⟨gS, 0, none⟩), .agg #[sv q.1, sv q.2], .string ⟨(frS fr).toArray⟩, vm, .int .i64 most] w (AddP B gS p s most g fr ms w) := by
  obtain ⟨⟨A0, n0, c0⟩, ⟨A1, n1, c1⟩⟩ := q
  obtain ⟨m1, m2, vC, WS, L1, k1, k2⟩ := p
  obtain ⟨cs, hcs, hcal⟩ := hs.cls
  obtain ⟨Ac, cc, hvc⟩ := hcs.form
  dsimp only at hvc
  subst hvc
  have hcl := hcal.len
  rw [List.length_map] at hcl
  obtain ⟨N, hN⟩ : ∃ N, N = cs.length := ⟨_, rfl⟩
  rw [← hN] at hcl hs hB ⊢
  have HN := Lib.hid hcl
  clear hcs hcal hN hcl cs
  simp only [sv]
  have h40 := hv.most
  have h2 := hv.two
  have hal := (Below.refl w.heap.size w).alloc (Nat.le_refl _) (.cells #[.slice A0 n0 c0, .slice A1 n1 c1] 24)
  have HCL := Lib.hid (fun W (hb : Below w.heap.size w W) => class_any (.agg #[.slice A0 n0 c0, .slice A1 n1 c1]) g W (hq.gd.below hb) hv (ht.below hb))
  have HB1 := Lib.hid hal
  have HQ1 := Lib.hid (show Arr (w.alloc (.cells #[.slice A0 n0 c0, .slice A1 n1 c1] 24)) w.heap.size 24 [.slice A0 n0 c0, .slice A1 n1 c1] from Arr.new w _ [_, _])
  have HS := Lib.hid hs
  have HP := Lib.hid hp
  have HNM := Lib.hid (show gS ≠ m1 ∧ gS ≠ m2 ∧ m1 ≠ m2 by
    refine ⟨?_, ?_, hs.ne⟩
    · rintro rfl
      obtain ⟨es, e1, _⟩ := hs.mp1
      have e2 : w.heap[gS]? = _ := hs.hd
      have e3 := e1.symm.trans e2
      cases e3
    · rintro rfl
      obtain ⟨es, e1, _⟩ := hs.mp2
      have e2 : w.heap[gS]? = _ := hs.hd
      have e3 := e1.symm.trans e2
      cases e3)
  have HB := Lib.hid hB
  have HBW := Lib.hid hBw
  have HBM := Lib.hid (show B ≤ m1 ∧ B ≤ m2 from ⟨hB _ (.inr (.inl rfl)), hB _ (.inr (.inr (.inl rfl)))⟩)
  have HQ := Lib.hid hq
  have HV := Lib.hid hv
  have HM := Lib.hid hm
  have HMO := Lib.hid hmo
  clear hs hp hB hBw hq hv hm hmo ht hal
  go_enter Tryz.func35, Tryz.ntmps35
  go_upto_region 1 with fail
  obtain ⟨w1, hw1⟩ : ∃ W', W' = w.alloc (.cells #[.slice A0 n0 c0, .slice A1 n1 c1] 24) := ⟨_, rfl⟩
  obtain ⟨gQ, hgQ⟩ : ∃ g, g = w.heap.size := ⟨_, rfl⟩
  rw [← hw1] at HQ1 HB1 ⊢
  rw [← hgQ] at HQ1 ⊢
  have HGQ := Lib.hid hgQ
  clear hw1 hgQ
  have y0 := HQ1.out.cell 0
  have y1 := HQ1.out.cell 1
  have HC1 := Lib.hid (HCL.out w1 HB1.out)
  go_wp2_with fail
  refine HC1.out.mono ?_
  rintro e w2 ⟨u, rfl, hu, hb2⟩
  obtain ⟨qc, rfl, hqc⟩ := hu.gv
  obtain ⟨⟨A2, n2, c2⟩, ⟨A3, n3, c3⟩⟩ := qc
  simp only [sv]
  clear hu HC1 HCL y0 y1
  go_upto_region 2 with fail
  have hal := (Below.refl w2.heap.size w2).alloc (Nat.le_refl _) (.cells #[.slice A2 n2 c2, .slice A3 n3 c3] 24)
  have HB3 := Lib.hid ((HB1.out.trans (hb2.mono HB1.out.size)).trans (hal.mono (HB1.out.trans (hb2.mono HB1.out.size)).size))
  have HQ3 := Lib.hid ((HQ1.out.below hb2 HQ1.out.lt).below hal (HQ1.out.below hb2 HQ1.out.lt).lt)
  have HC3 := Lib.hid (show Arr (w2.alloc (.cells #[.slice A2 n2 c2, .slice A3 n3 c3] 24)) w2.heap.size 24 [.slice A2 n2 c2, .slice A3 n3 c3] from Arr.new w2 _ [_, _])
  have HG3 := Lib.hid (show GvI (w2.alloc (.cells #[.slice A2 n2 c2, .slice A3 n3 c3] 24)) ((A2, n2, c2), (A3, n3, c3)) (lstM g) from ⟨hqc.1.below hal, hqc.2.below hal⟩)
  obtain ⟨w3, hw3⟩ : ∃ W', W' = w2.alloc (.cells #[.slice A2 n2 c2, .slice A3 n3 c3] 24) := ⟨_, rfl⟩
  obtain ⟨gC, hgC⟩ : ∃ g, g = w2.heap.size := ⟨_, rfl⟩
  have HGC := Lib.hid (show w.heap.size ≤ gC by rw [hgC]; exact (HB1.out.trans (hb2.mono HB1.out.size)).size)
  rw [← hw3] at HB3 HQ3 HC3 HG3 ⊢
  rw [← hgC] at HC3 ⊢
  clear hw3 hgC hqc hb2 hal HQ1 HB1
  have HS3 := Lib.hid (HS.out.below HB3.out)
  have HQ4 := Lib.hid (show GvI w3 ((A0, n0, c0), (A1, n1, c1)) g from ⟨HQ.out.1.below HB3.out, HQ.out.2.below HB3.out⟩)
  have HM3 := Lib.hid (HM.out.below HB3.out)
  have g0 := HS3.out.hd.cell 0
  have g2 := HS3.out.hd.cell 2
  by_cases hk : hasK s.1 (lstM g) = true
  · have yl : ∃ v, Sem.run Tryz.prog (Instr.lookup 48 (.map (some m1)) (kyS (fmG (lstM g))) true) w3 = .ok (.tuple #[v, .bool true]) w3 := by
      obtain ⟨e0, he0, hke⟩ := hasK_yes hk
      obtain ⟨v, hv0, _⟩ := HS3.out.al1.mem.2 e0 he0
      rw [hke] at hv0
      refine ⟨v, (mps_lookup_yes HS3.out.mp1 Tryz.underlying48 Tryz.underlying9 ?_ hv0).1⟩
      have := keys_nd HP.out.v1 HP.out.nd
      rw [← HS3.out.al1.keys] at this
      exact this
    obtain ⟨v, yl⟩ := yl
    unfold kyS at yl
    go_upto_region 5 with fail
    go_ret
    refine .inr ⟨s, _, ?_, rfl, HS3.out, HB3.out.mono HBW.out, ⟨HB3.out.size, fun b hb _ => HB3.out.block b hb⟩, fun b hb => .inl hb⟩
    unfold addM
    rw [if_pos hk]
  · have HK1 := Lib.hid (show ∀ q ∈ L1, q.1 ≠ fmG (lstM g) by
      intro q hq
      obtain ⟨e, he, hqe⟩ := HS3.out.al1.mem.1 q hq
      rw [hqe]
      exact keys_no (lstM_vd HV.out) HP.out.v1 hk e he)
    have HK2 := Lib.hid (show ∀ q ∈ l2 s.1, q.1 ≠ fmG (lstM g) by
      intro q hq
      obtain ⟨e, he, rfl⟩ := List.mem_map.1 hq
      exact keys_no (lstM_vd HV.out) HP.out.v1 hk e he)
    have yl := mps_lookup_no (P := Tryz.prog) (k := fmG (lstM g)) HS3.out.mp1 Tryz.underlying48 Tryz.underlying9 (zero_mvs w3) HK1.out
    unfold kyS at yl
    go_upto_region 5 with fail
    clear yl
    by_cases hmo : (N : Int) ≥ most
    · have z0 : decide ((N : Int) ≥ most) = true := by simpa using hmo
      go_upto_region 7 with fail
      go_ret
      refine .inl ⟨?_, rfl, HB3.out⟩
      unfold addM
      rw [if_neg hk, if_pos (by rw [← HN.out]; exact hmo)]
    · have z0 : decide ((N : Int) ≥ most) = false := by simpa using hmo
      go_upto_region 7 with fail
      have HNE := Lib.hid (show gS ≠ m1 ∧ gS ≠ m2 ∧ m1 ≠ m2 from HNM.out)
      clear g0 g2
      refine wp_region_factsU (by kernel_rfl) (by kernel_rfl) (by kernel_rfl) (by kernel_rfl) (by kernel_rfl) (M2I B w3 (fun i => ([some (.pointer (some ⟨gS, 0, none⟩)), some (.pointer (some ⟨gS, 0, none⟩)), some (.pointer (some ⟨gS, 0, none⟩)), some (.map (some m1)), some (.string { data := (fmG (lstM g)).toArray }), some (.pointer (some ⟨gS, 0, none⟩)), some (.pointer (some ⟨gS, 0, none⟩)), some (.pointer (some ⟨gS, 1, none⟩)), some (.map (some m2)), some (.string { data := (fmG (lstM g)).toArray }), some (vm), some (.string { data := (frS fr).toArray }), some (.tuple #[.slice none 0 0, .int .i64 (k1 : Int)]), some (.int .i64 (k1 : Int)), none, some (.tuple #[.string { data := #[] }, .int .i64 (k2 : Int)]), some (.int .i64 (k2 : Int)), none] : List (Option Value)).getD i none) m1 m2 12 14 15 17 L1 (l2 s.1) (fmG (lstM g)) vm (.string { data := (frS fr).toArray }) k1 k2) (fun x => M2I.start HS3.out.mp1 HS3.out.mp2) ⟨?_, ?_, ?_, ?_, ?_, ?_, ?_, ?_, ?_, ?_, ?_, ?_, ?_, ?_, ?_, ?_, ?_, ?_, trivial⟩ ?_
      · intro D x w1 bA hI hD hdep hcl hb
        have e0 : bA.tmps[0]?.getD undef = .pointer (some ⟨gS, 0, none⟩) := hb 0
        refine wp_of_run (.pointer (some ⟨gS, 0, none⟩)) (w' := w1) ?_ (hI.val rfl (by decide) (by decide) (by decide) (by decide))
        clear hb hI hdep hcl
        go_simp
      · intro D x w1 bA hI hD hdep hcl hb
        have e37 : bA.tmps[37]?.getD undef = .pointer (some ⟨gS, 0, none⟩) := (hb 37).trans (hI.kn 0 _ rfl (hdep 0 (by decide)))
        refine wp_of_run (.pointer (some ⟨gS, 0, none⟩)) (w' := w1) ?_ (hI.val rfl (by decide) (by decide) (by decide) (by decide))
        clear hb hI hdep hcl
        go_simp
      · intro D x w1 bA hI hD hdep hcl hb
        have e38 : bA.tmps[38]?.getD undef = .pointer (some ⟨gS, 0, none⟩) := (hb 38).trans (hI.kn 1 _ rfl (hdep 1 (by decide)))
        refine wp_of_run (.pointer (some ⟨gS, 0, none⟩)) (w' := w1) ?_ (hI.val rfl (by decide) (by decide) (by decide) (by decide))
        clear hb hI hdep hcl
        go_simp
      · intro D x w1 bA hI hD hdep hcl hb
        have e39 : bA.tmps[39]?.getD undef = .pointer (some ⟨gS, 0, none⟩) := (hb 39).trans (hI.kn 2 _ rfl (hdep 2 (by decide)))
        have yb := (show Arr w1 gS 52 (.map (some m1) :: .map (some m2) :: .slice Ac N cc :: WS) from (hI.far gS HNE.out.1 HNE.out.2.1).trans HS3.out.hd).cell 0
        refine wp_of_run (.map (some m1)) (w' := w1) ?_ (hI.val rfl (by decide) (by decide) (by decide) (by decide))
        clear hb hI hdep hcl
        go_simp
      · intro D x w1 bA hI hD hdep hcl hb
        have e12 : bA.tmps[12]?.getD undef = .string { data := (fmG (lstM g)).toArray } := hb 12
        refine wp_of_run (.string { data := (fmG (lstM g)).toArray }) (w' := w1) ?_ (hI.val rfl (by decide) (by decide) (by decide) (by decide))
        clear hb hI hdep hcl
        go_simp
      · intro D x w1 bA hI hD hdep hcl hb
        have e0 : bA.tmps[0]?.getD undef = .pointer (some ⟨gS, 0, none⟩) := hb 0
        refine wp_of_run (.pointer (some ⟨gS, 0, none⟩)) (w' := w1) ?_ (hI.val rfl (by decide) (by decide) (by decide) (by decide))
        clear hb hI hdep hcl
        go_simp
      · intro D x w1 bA hI hD hdep hcl hb
        have e42 : bA.tmps[42]?.getD undef = .pointer (some ⟨gS, 0, none⟩) := (hb 42).trans (hI.kn 5 _ rfl (hdep 5 (by decide)))
        refine wp_of_run (.pointer (some ⟨gS, 0, none⟩)) (w' := w1) ?_ (hI.val rfl (by decide) (by decide) (by decide) (by decide))
        clear hb hI hdep hcl
        go_simp
      · intro D x w1 bA hI hD hdep hcl hb
        have e43 : bA.tmps[43]?.getD undef = .pointer (some ⟨gS, 0, none⟩) := (hb 43).trans (hI.kn 6 _ rfl (hdep 6 (by decide)))
        refine wp_of_run (.pointer (some ⟨gS, 1, none⟩)) (w' := w1) ?_ (hI.val rfl (by decide) (by decide) (by decide) (by decide))
        clear hb hI hdep hcl
        go_simp
      · intro D x w1 bA hI hD hdep hcl hb
        have e44 : bA.tmps[44]?.getD undef = .pointer (some ⟨gS, 1, none⟩) := (hb 44).trans (hI.kn 7 _ rfl (hdep 7 (by decide)))
        have yb := (show Arr w1 gS 52 (.map (some m1) :: .map (some m2) :: .slice Ac N cc :: WS) from (hI.far gS HNE.out.1 HNE.out.2.1).trans HS3.out.hd).cell 1
        refine wp_of_run (.map (some m2)) (w' := w1) ?_ (hI.val rfl (by decide) (by decide) (by decide) (by decide))
        clear hb hI hdep hcl
        go_simp
      · intro D x w1 bA hI hD hdep hcl hb
        have e12 : bA.tmps[12]?.getD undef = .string { data := (fmG (lstM g)).toArray } := hb 12
        refine wp_of_run (.string { data := (fmG (lstM g)).toArray }) (w' := w1) ?_ (hI.val rfl (by decide) (by decide) (by decide) (by decide))
        clear hb hI hdep hcl
        go_simp
      · intro D x w1 bA hI hD hdep hcl hb
        have e3 : bA.tmps[3]?.getD undef = vm := hb 3
        refine wp_of_run (vm) (w' := w1) ?_ (hI.val rfl (by decide) (by decide) (by decide) (by decide))
        clear hb hI hdep hcl
        go_simp
      · intro D x w1 bA hI hD hdep hcl hb
        have e2 : bA.tmps[2]?.getD undef = .string { data := (frS fr).toArray } := hb 2
        refine wp_of_run (.string { data := (frS fr).toArray }) (w' := w1) ?_ (hI.val rfl (by decide) (by decide) (by decide) (by decide))
        clear hb hI hdep hcl
        go_simp
      · intro D x w1 bA hI hD hdep hcl hb
        have e40 : bA.tmps[40]?.getD undef = .map (some m1) := (hb 40).trans (hI.kn 3 _ rfl (hdep 3 (by decide)))
        have e41 : bA.tmps[41]?.getD undef = .string { data := (fmG (lstM g)).toArray } := (hb 41).trans (hI.kn 4 _ rfl (hdep 4 (by decide)))
        have hqe : D 13 = false := by cases h : D 13 with | false => rfl | true => (have := hcl 13 h 12 (by decide); rw [hD] at this; cases this)
        have hqf : D 14 = false := by cases h : D 14 with | false => rfl | true => (have := hcl 14 h 13 (by decide); rw [hqe] at this; cases this)
        obtain ⟨w2, hr, hp, hf, hz, hbl⟩ := mps_entry (P := Tryz.prog) (hI.s1 hD hqf) Tryz.underlying48 Tryz.underlying9 (zero_mvs w1) HK1.out
        refine wp_of_run (.tuple #[.slice none 0 0, .int .i64 (k1 : Int)]) (w' := w2) ?_ (hI.one (fun u hu => by injection hu) (by decide) (by decide) HNE.out.2.2 hf hz (hbl _ HBM.out.1) (fun h => by rw [upd_same] at h; cases h) (fun _ _ => hp) (fun h => by rw [upd_ne _ _ (by decide), hqf] at h; cases h))
        clear hb hI hdep hcl hp hf hz hbl
        unfold kyS goInt at hr
        go_simp
      · intro D x w1 bA hI hD hdep hcl hb
        have e49 : bA.tmps[49]?.getD undef = .tuple #[.slice none 0 0, .int .i64 (k1 : Int)] := (hb 49).trans (hI.kn 12 _ rfl (hdep 12 (by decide)))
        refine wp_of_run (.int .i64 (k1 : Int)) (w' := w1) ?_ (hI.val rfl (by decide) (by decide) (by decide) (by decide))
        clear hb hI hdep hcl
        go_simp
      · intro D x w1 bA hI hD hdep hcl hb
        have e40 : bA.tmps[40]?.getD undef = .map (some m1) := (hb 40).trans (hI.kn 3 _ rfl (hdep 3 (by decide)))
        have e50 : bA.tmps[50]?.getD undef = .int .i64 (k1 : Int) := (hb 50).trans (hI.kn 13 _ rfl (hdep 13 (by decide)))
        have e47 : bA.tmps[47]?.getD undef = vm := (hb 47).trans (hI.kn 10 _ rfl (hdep 10 (by decide)))
        have hda : D 12 = true := hcl 13 (hdep 13 (by decide)) 12 (by decide)
        obtain ⟨w2, hr, hp, hf, hz, hbl⟩ := mps_store (P := Tryz.prog) (t := 48) (hI.p1 hda hD) vm
        refine wp_of_skip (w' := w2) ?_ (hI.one (fun u hu => by cases hu) (by decide) (by decide) HNE.out.2.2 hf hz (hbl _ HBM.out.1) (fun _ h => by rw [upd_same] at h; cases h) (fun _ h => by rw [upd_same] at h; cases h) (fun _ => hp))
        clear hb hI hdep hcl hp hf hz hbl
        unfold goInt at hr
        go_simp
      · intro D x w1 bA hI hD hdep hcl hb
        have e45 : bA.tmps[45]?.getD undef = .map (some m2) := (hb 45).trans (hI.kn 8 _ rfl (hdep 8 (by decide)))
        have e46 : bA.tmps[46]?.getD undef = .string { data := (fmG (lstM g)).toArray } := (hb 46).trans (hI.kn 9 _ rfl (hdep 9 (by decide)))
        have hqe : D 16 = false := by cases h : D 16 with | false => rfl | true => (have := hcl 16 h 15 (by decide); rw [hD] at this; cases this)
        have hqf : D 17 = false := by cases h : D 17 with | false => rfl | true => (have := hcl 17 h 16 (by decide); rw [hqe] at this; cases this)
        obtain ⟨w2, hr, hp, hf, hz, hbl⟩ := mps_entry (P := Tryz.prog) (hI.s2 hD hqf) Tryz.underlying49 Tryz.underlying9 (zero_str w1) HK2.out
        refine wp_of_run (.tuple #[.string { data := #[] }, .int .i64 (k2 : Int)]) (w' := w2) ?_ (hI.two (fun u hu => by injection hu) (by decide) (by decide) HNE.out.2.2 hf hz (hbl _ HBM.out.2) (fun h => by rw [upd_same] at h; cases h) (fun _ _ => hp) (fun h => by rw [upd_ne _ _ (by decide), hqf] at h; cases h))
        clear hb hI hdep hcl hp hf hz hbl
        unfold kyS goInt at hr
        go_simp
      · intro D x w1 bA hI hD hdep hcl hb
        have e51 : bA.tmps[51]?.getD undef = .tuple #[.string { data := #[] }, .int .i64 (k2 : Int)] := (hb 51).trans (hI.kn 15 _ rfl (hdep 15 (by decide)))
        refine wp_of_run (.int .i64 (k2 : Int)) (w' := w1) ?_ (hI.val rfl (by decide) (by decide) (by decide) (by decide))
        clear hb hI hdep hcl
        go_simp
      · intro D x w1 bA hI hD hdep hcl hb
        have e45 : bA.tmps[45]?.getD undef = .map (some m2) := (hb 45).trans (hI.kn 8 _ rfl (hdep 8 (by decide)))
        have e52 : bA.tmps[52]?.getD undef = .int .i64 (k2 : Int) := (hb 52).trans (hI.kn 16 _ rfl (hdep 16 (by decide)))
        have e48 : bA.tmps[48]?.getD undef = .string { data := (frS fr).toArray } := (hb 48).trans (hI.kn 11 _ rfl (hdep 11 (by decide)))
        have hda : D 15 = true := hcl 16 (hdep 16 (by decide)) 15 (by decide)
        obtain ⟨w2, hr, hp, hf, hz, hbl⟩ := mps_store (P := Tryz.prog) (t := 49) (hI.p2 hda hD) (.string { data := (frS fr).toArray })
        refine wp_of_skip (w' := w2) ?_ (hI.two (fun u hu => by cases hu) (by decide) (by decide) HNE.out.2.2 hf hz (hbl _ HBM.out.2) (fun _ h => by rw [upd_same] at h; cases h) (fun _ h => by rw [upd_same] at h; cases h) (fun _ => hp))
        clear hb hI hdep hcl hp hf hz hbl
        unfold goInt at hr
        go_simp
      intro D x w4 hI hall
      have x0e : x 0 = .pointer (some ⟨gS, 0, none⟩) := hI.kn 0 _ rfl (hall 0 (by simp))
      have x1e : x 1 = .pointer (some ⟨gS, 0, none⟩) := hI.kn 1 _ rfl (hall 1 (by simp))
      have x2e : x 2 = .pointer (some ⟨gS, 0, none⟩) := hI.kn 2 _ rfl (hall 2 (by simp))
      have x3e : x 3 = .map (some m1) := hI.kn 3 _ rfl (hall 3 (by simp))
      have x4e : x 4 = .string { data := (fmG (lstM g)).toArray } := hI.kn 4 _ rfl (hall 4 (by simp))
      have x5e : x 5 = .pointer (some ⟨gS, 0, none⟩) := hI.kn 5 _ rfl (hall 5 (by simp))
      have x6e : x 6 = .pointer (some ⟨gS, 0, none⟩) := hI.kn 6 _ rfl (hall 6 (by simp))
      have x7e : x 7 = .pointer (some ⟨gS, 1, none⟩) := hI.kn 7 _ rfl (hall 7 (by simp))
      have x8e : x 8 = .map (some m2) := hI.kn 8 _ rfl (hall 8 (by simp))
      have x9e : x 9 = .string { data := (fmG (lstM g)).toArray } := hI.kn 9 _ rfl (hall 9 (by simp))
      have x10e : x 10 = vm := hI.kn 10 _ rfl (hall 10 (by simp))
      have x11e : x 11 = .string { data := (frS fr).toArray } := hI.kn 11 _ rfl (hall 11 (by simp))
      have x12e : x 12 = .tuple #[.slice none 0 0, .int .i64 (k1 : Int)] := hI.kn 12 _ rfl (hall 12 (by simp))
      have x13e : x 13 = .int .i64 (k1 : Int) := hI.kn 13 _ rfl (hall 13 (by simp))
      have x15e : x 15 = .tuple #[.string { data := #[] }, .int .i64 (k2 : Int)] := hI.kn 15 _ rfl (hall 15 (by simp))
      have x16e : x 16 = .int .i64 (k2 : Int) := hI.kn 16 _ rfl (hall 16 (by simp))
      have HM1 := Lib.hid (hI.e1 (hall 14 (by simp)))
      have HM2 := Lib.hid (hI.e2 (hall 17 (by simp)))
      have HFR := Lib.hid (And.intro hI.far (And.intro hI.siz hI.bel))
      simp only [putAll, dstOf, Act.put, List.map_cons, List.map_nil, List.setIfInBounds_toArray, List.set_cons_succ, List.set_cons_zero, Nat.reduceAdd, x0e, x1e, x2e, x3e, x4e, x5e, x6e, x7e, x8e, x9e, x10e, x11e, x12e, x13e, x15e, x16e]
      clear x0e x1e x2e x3e x4e x5e x6e x7e x8e x9e x10e x11e x12e x13e x15e x16e hI hall
      obtain ⟨cs, hcs, hcal⟩ := HS3.out.cls
      have hsep : ∀ b cc0 t fr0, w3.heap[b]? = some (.cells cc0 t fr0) → b ≠ m1 ∧ b ≠ m2 := fun b cc0 t fr0 e1 => by
        obtain ⟨es, q1, _⟩ := HS3.out.mp1
        obtain ⟨es2, q2, _⟩ := HS3.out.mp2
        constructor
        · rintro rfl; rw [e1] at q1; cases q1
        · rintro rfl; rw [e1] at q2; cases q2
      have hqa : ∀ v (xs : List GV), QA 24 2 eG 0 w3 v xs → (∀ b, sBlk v = some b → B ≤ b) → QA 24 2 eG B w4 v xs := fun v xs h hb => by
        have h1 : QA 24 2 eG 0 w4 v xs := h.keepK fun b hb => by
          obtain ⟨c0, f0, e1⟩ := h.typ b hb
          have := hsep b _ _ _ e1
          exact HFR.out.1 b this.1 this.2
        exact h1.up hb
      have HOC := Lib.hid (hqa _ _ hcs fun b hb => HB.out b (.inr (.inr (.inr (.inl hb)))))
      have HS4 := Lib.hid (show Arr w4 gS 52 (.map (some m1) :: .map (some m2) :: .slice Ac N cc :: WS) from (HFR.out.1 gS HNE.out.1 HNE.out.2.1).trans HS3.out.hd)
      have HC4 := Lib.hid (show Arr w4 gC 24 [.slice A2 n2 c2, .slice A3 n3 c3] from by
        have := hsep gC _ _ _ HC3.out
        exact (HFR.out.1 gC this.1 this.2).trans HC3.out)
      have HQQ4 := Lib.hid (show Arr w4 gQ 24 [.slice A0 n0 c0, .slice A1 n1 c1] from by
        have := hsep gQ _ _ _ HQ3.out
        exact (HFR.out.1 gQ this.1 this.2).trans HQ3.out)
      have HN4 := Lib.hid (show sBlk (.slice Ac N cc) ≠ some gS from fun h => by
        obtain ⟨c0, f0, e1⟩ := hcs.typ gS h
        have e2 : w3.heap[gS]? = _ := HS3.out.hd
        have e3 := e1.symm.trans e2
        injection e3 with e3
        injection e3 with _ e3 _
        exact absurd e3 (by decide))
      have HB4 := Lib.hid (show B ≤ w4.heap.size by rw [HFR.out.2.1]; exact Nat.le_trans HBW.out HB3.out.size)
      have HLC := Lib.hid (show cs.length + [((A2, n2, c2), (A3, n3, c3))].length ≤ 100000000 by
        have h1 := hcal.len
        have h2 := HN.out
        have h3 := HMO.out
        simp only [List.length_map, List.length_cons, List.length_nil] at h1 ⊢
        omega)
      have HCAL := Lib.hid hcal
      have HQA := Lib.hid hqa
      have HSEP := Lib.hid hsep
      clear hsep hqa hcs hcal
      go_upto_region 8 with fail
      refine wp_region_factsU (by kernel_rfl) (by kernel_rfl) (by kernel_rfl) (by kernel_rfl) (by kernel_rfl) (ApQ 24 2 eG B w4 (fun i => ([some (.pointer (some ⟨gS, 0, none⟩)), some (.pointer (some ⟨gS, 0, none⟩)), some (.pointer (some ⟨gS, 0, none⟩)), some (.pointer (some ⟨gS, 2, none⟩)), some (.slice Ac N cc), some (.agg #[.slice A2 n2 c2, .slice A3 n3 c3]), none, none, some (.pointer (some ⟨gS, 0, none⟩)), some (.pointer (some ⟨gS, 2, none⟩)), none] : List (Option Value)).getD i none) 6 7 10 (.slice Ac N cc) (⟨gS, 2, none⟩) (cs) ([((A2, n2, c2), (A3, n3, c3))])) (fun x => ApQ.start) ⟨?_, ?_, ?_, ?_, ?_, ?_, ?_, ?_, ?_, ?_, ?_, trivial⟩ ?_
      · intro D x w1 bA hI hD hdep hcl hb
        have e0 : bA.tmps[0]?.getD undef = .pointer (some ⟨gS, 0, none⟩) := hb 0
        refine wp_of_run (.pointer (some ⟨gS, 0, none⟩)) (w' := w1) ?_ (hI.val rfl (by decide) (by decide) (by decide))
        clear hb hI hdep hcl
        go_simp
      · intro D x w1 bA hI hD hdep hcl hb
        have e0 : bA.tmps[0]?.getD undef = .pointer (some ⟨gS, 0, none⟩) := hb 0
        refine wp_of_run (.pointer (some ⟨gS, 0, none⟩)) (w' := w1) ?_ (hI.val rfl (by decide) (by decide) (by decide))
        clear hb hI hdep hcl
        go_simp
      · intro D x w1 bA hI hD hdep hcl hb
        have e54 : bA.tmps[54]?.getD undef = .pointer (some ⟨gS, 0, none⟩) := (hb 54).trans (hI.kn 1 _ rfl (hdep 1 (by decide)))
        refine wp_of_run (.pointer (some ⟨gS, 0, none⟩)) (w' := w1) ?_ (hI.val rfl (by decide) (by decide) (by decide))
        clear hb hI hdep hcl
        go_simp
      · intro D x w1 bA hI hD hdep hcl hb
        have e55 : bA.tmps[55]?.getD undef = .pointer (some ⟨gS, 0, none⟩) := (hb 55).trans (hI.kn 2 _ rfl (hdep 2 (by decide)))
        refine wp_of_run (.pointer (some ⟨gS, 2, none⟩)) (w' := w1) ?_ (hI.val rfl (by decide) (by decide) (by decide))
        clear hb hI hdep hcl
        go_simp
      · intro D x w1 bA hI hD hdep hcl hb
        have hq7 : D 7 = false := by cases h : D 7 with | false => rfl | true => (have := hcl 7 h 4 (by decide); rw [hD] at this; cases this)
        have hqf : D 10 = false := by cases h : D 10 with | false => rfl | true => (have := hcl 10 h 7 (by decide); rw [hq7] at this; cases this)
        have hpre := hI.pre hq7 hqf
        have e56 : bA.tmps[56]?.getD undef = .pointer (some ⟨gS, 2, none⟩) := (hb 56).trans (hI.kn 3 _ rfl (hdep 3 (by decide)))
        have yb := (HS4.out.below hpre HS4.out.lt).cell 2
        refine wp_of_run (.slice Ac N cc) (w' := w1) ?_ (hI.val rfl (by decide) (by decide) (by decide))
        clear hb hI hdep hcl
        go_simp
      · intro D x w1 bA hI hD hdep hcl hb
        have hq6 : D 6 = false := by cases h : D 6 with | false => rfl | true => (have := hcl 6 h 5 (by decide); rw [hD] at this; cases this)
        have hq7 : D 7 = false := by cases h : D 7 with | false => rfl | true => (have := hcl 7 h 6 (by decide); rw [hq6] at this; cases this)
        have hqf : D 10 = false := by cases h : D 10 with | false => rfl | true => (have := hcl 10 h 7 (by decide); rw [hq7] at this; cases this)
        have hpre := hI.pre hq7 hqf
        have e11 : bA.tmps[11]?.getD undef = .pointer (some ⟨gC, 0, none⟩) := hb 11
        have yb := (HC4.out.below hpre HC4.out.lt).cell 0
        have yc := (HC4.out.below hpre HC4.out.lt).cell 1
        refine wp_of_run (.agg #[.slice A2 n2 c2, .slice A3 n3 c3]) (w' := w1) ?_ (hI.val rfl (by decide) (by decide) (by decide))
        clear hb hI hdep hcl
        go_simp
      · intro D x w1 bA hI hD hdep hcl hb
        have hq7 : D 7 = false := by cases h : D 7 with | false => rfl | true => (have := hcl 7 h 6 (by decide); rw [hD] at this; cases this)
        have hqf : D 10 = false := by cases h : D 10 with | false => rfl | true => (have := hcl 10 h 7 (by decide); rw [hq7] at this; cases this)
        have e58 : bA.tmps[58]?.getD undef = .agg #[.slice A2 n2 c2, .slice A3 n3 c3] := (hb 58).trans (hI.kn 5 _ rfl (hdep 5 (by decide)))
        refine wp_of_run (.slice (some ⟨w1.heap.size, 0, none⟩) 1 1) (w' := w1.alloc (.cells #[.slice A2 n2 c2, .slice A3 n3 c3] 24)) ?_ (hI.call rfl (by decide) (by decide) hq7 hqf ((Below.refl _ _).alloc (Nat.le_refl _) _) (OwnA.lit (xs := [((A2, n2, c2), (A3, n3, c3))]) (fun y _ => elG.len y) (Nat.le_refl _) (by simp) (by simp)))
        clear hb hI hdep hcl
        go_simp
      · intro D x w1 bA hI hD hdep hcl hb
        have hqf : D 10 = false := by cases h : D 10 with | false => rfl | true => (have := hcl 10 h 7 (by decide); rw [hD] at this; cases this)
        have e57 : bA.tmps[57]?.getD undef = .slice Ac N cc := (hb 57).trans (hI.kn 4 _ rfl (hdep 4 (by decide)))
        have e59 : bA.tmps[59]?.getD undef = x 6 := hb 59
        exact hI.app elG (.tmp 57) (.tmp 59) 27 27 rfl Tryz.underlying27 Tryz.underlying27 rfl (by decide) (by decide) (hdep 6 (by decide)) hD hqf (by simpa [Act.eval] using e57) (by simpa [Act.eval] using e59) (HOC.out) (by simp) (HB4.out) (HLC.out)
      · intro D x w1 bA hI hD hdep hcl hb
        have e53 : bA.tmps[53]?.getD undef = .pointer (some ⟨gS, 0, none⟩) := (hb 53).trans (hI.kn 0 _ rfl (hdep 0 (by decide)))
        refine wp_of_run (.pointer (some ⟨gS, 0, none⟩)) (w' := w1) ?_ (hI.val rfl (by decide) (by decide) (by decide))
        clear hb hI hdep hcl
        go_simp
      · intro D x w1 bA hI hD hdep hcl hb
        have e61 : bA.tmps[61]?.getD undef = .pointer (some ⟨gS, 0, none⟩) := (hb 61).trans (hI.kn 8 _ rfl (hdep 8 (by decide)))
        refine wp_of_run (.pointer (some ⟨gS, 2, none⟩)) (w' := w1) ?_ (hI.val rfl (by decide) (by decide) (by decide))
        clear hb hI hdep hcl
        go_simp
      · intro D x w1 bA hI hD hdep hcl hb
        have hda : D 7 = true := hdep 7 (by decide)
        have e62 : bA.tmps[62]?.getD undef = .pointer (some ⟨gS, 2, none⟩) := (hb 62).trans (hI.kn 9 _ rfl (hdep 9 (by decide)))
        have e60 : bA.tmps[60]?.getD undef = x 7 := hb 60
        have hst := hI.store rfl hda hD undef
        obtain ⟨hm1, hm2⟩ := hI.mid hda hD
        have qarr := hm2.arr (HS4.out) (HN4.out)
        have qy := qarr.cell 2
        have qf := qarr.frozen 2
        obtain ⟨AF, cF, eF⟩ := hm1.form
        generalize x 7 = xA at *
        subst eF
        refine wp_of_skip ?_ hst
        clear hb hI hdep hcl hst hm1 hm2 qarr
        go_simp
      intro D x w5 hI hall
      obtain ⟨wS, vS, hwS, hownS, hkptS⟩ := hI.fin (hall 10 (by simp))
      have x0e : x 0 = .pointer (some ⟨gS, 0, none⟩) := hI.kn 0 _ rfl (hall 0 (by simp))
      have x1e : x 1 = .pointer (some ⟨gS, 0, none⟩) := hI.kn 1 _ rfl (hall 1 (by simp))
      have x2e : x 2 = .pointer (some ⟨gS, 0, none⟩) := hI.kn 2 _ rfl (hall 2 (by simp))
      have x3e : x 3 = .pointer (some ⟨gS, 2, none⟩) := hI.kn 3 _ rfl (hall 3 (by simp))
      have x4e : x 4 = .slice Ac N cc := hI.kn 4 _ rfl (hall 4 (by simp))
      have x5e : x 5 = .agg #[.slice A2 n2 c2, .slice A3 n3 c3] := hI.kn 5 _ rfl (hall 5 (by simp))
      have x8e : x 8 = .pointer (some ⟨gS, 0, none⟩) := hI.kn 8 _ rfl (hall 8 (by simp))
      have x9e : x 9 = .pointer (some ⟨gS, 2, none⟩) := hI.kn 9 _ rfl (hall 9 (by simp))
      simp only [putAll, dstOf, Act.put, List.map_cons, List.map_nil, List.setIfInBounds_toArray, List.set_cons_succ, List.set_cons_zero, Nat.reduceAdd, x0e, x1e, x2e, x3e, x4e, x5e, x8e, x9e]
      clear x0e x1e x2e x3e x4e x5e x8e x9e hI hall
      generalize x 7 = xA, x 6 = xC
      obtain ⟨A5, c5, hv5⟩ := hownS.form
      subst hv5
      have hgl : gS < w4.heap.size := HS4.out.lt
      have hfar : ∀ b, b < w4.heap.size → b ≠ gS → sBlk (.slice Ac N cc) ≠ some b → w5.heap[b]? = w4.heap[b]? := fun b h1 h2 h3 => by
        rw [hwS]
        exact (Below.heap_setCell wS ⟨gS, 2, none⟩ _ b h2).trans (hkptS.keep b h1 h3)
      have hnew : ∀ b, sBlk (.slice A5 (cs ++ [((A2, n2, c2), (A3, n3, c3))]).length c5) = some b → sBlk (.slice Ac N cc) = some b ∨ w4.heap.size ≤ b := hkptS.blk
      have HS5 := Lib.hid (show Arr w5 gS 52 (.map (some m1) :: .map (some m2) :: .slice A5 (cs ++ [((A2, n2, c2), (A3, n3, c3))]).length c5 :: WS) from by
        rw [hwS]
        exact (hkptS.arr HS4.out HN4.out).set 2 _)
      have HO5 := Lib.hid (show QA 24 2 eG B w5 (.slice A5 (cs ++ [((A2, n2, c2), (A3, n3, c3))]).length c5) (cs ++ [((A2, n2, c2), (A3, n3, c3))]) from hownS.keepK fun b hb => by
        rw [hwS]
        refine Below.heap_setCell wS ⟨gS, 2, none⟩ _ b fun e => ?_
        rcases hnew b hb with h | h
        · rw [e] at h; exact HN4.out h
        · rw [e] at h; exact absurd hgl (by simpa using h))
      have HB45 := Lib.hid (show Below B w4 w5 by
        rw [hwS]
        exact hkptS.bel.setCell (p := ⟨gS, 2, none⟩) (HB.out gS (.inl rfl)) _)
      have HF5 := Lib.hid hfar
      have HNW5 := Lib.hid hnew
      clear hownS hkptS hwS hfar hnew
      have hn0 : n0 = g.1.length := by
        obtain ⟨A', c', e, _⟩ := HQ.out.1
        simp only [sv] at e
        injection e
      have HN40 := Lib.hid (show n0 < 41 by omega)
      have hlW : n0 < WS.length := by have := HS3.out.wl; dsimp only at this; omega
      have hl2 : n0 < s.2.length := by have := HS3.out.w2; omega
      obtain ⟨ps, hps, hpal⟩ := HS3.out.wt n0 _ _ (List.getElem?_eq_getElem hlW) (List.getElem?_eq_getElem hl2)
      obtain ⟨AW, cW, hvW⟩ := hps.form
      obtain ⟨nW, hnW⟩ : ∃ n, n = ps.length := ⟨_, rfl⟩
      rw [← hnW] at hvW
      have hWg : WS[n0]? = some (.slice AW nW cW) := by rw [← hvW]; exact List.getElem?_eq_getElem hlW
      rw [hvW] at hps
      have hapW : ∀ b, sBlk (.slice AW nW cW) = some b → sBlk (.slice Ac N cc) ≠ some b := fun b hb => HS3.out.ap1 n0 _ b hWg hb
      have hNS : sBlk (.slice AW nW cW) ≠ some gS := fun h => by
        obtain ⟨c0, f0, e1⟩ := hps.typ gS h
        have e2 : w3.heap[gS]? = _ := HS3.out.hd
        have e3 := e1.symm.trans e2
        injection e3 with e3
        injection e3 with _ e3 _
        exact absurd e3 (by decide)
      have hW4 := HQA.out _ _ hps fun b hb => HB.out b (.inr (.inr (.inr (.inr ⟨_, List.mem_of_getElem? hWg, hb⟩))))
      have HOW := Lib.hid (show QA 24 2 eG B w5 (.slice AW nW cW) ps from hW4.keepK fun b hb => HF5.out b (hW4.lt b hb) (fun e => hNS (by rw [← e]; exact hb)) (hapW b hb))
      have HWG := Lib.hid (show (Value.map (some m1) :: .map (some m2) :: .slice A5 (cs ++ [((A2, n2, c2), (A3, n3, c3))]).length c5 :: WS)[3 + n0]? = some (.slice AW nW cW) by
        rw [show 3 + n0 = n0 + 1 + 1 + 1 by omega]
        simpa using hWg)
      have hlo : ∀ b, Ow gS ⟨m1, m2, .slice Ac N cc, WS, L1, k1, k2⟩ b → b ≠ gQ := fun b hb e => by
        have := HS.out.lt hb
        have := HGQ.out
        omega
      have HQ5 := Lib.hid (show Arr w5 gQ 24 [.slice A0 n0 c0, .slice A1 n1 c1] from (HF5.out gQ HQQ4.out.lt (fun e => hlo gS (.inl rfl) e.symm) (fun h => hlo gQ (.inr (.inr (.inr (.inl h)))) rfl)).trans HQQ4.out)
      have HNQ := Lib.hid (show sBlk (.slice AW nW cW) ≠ some gQ from fun h => hlo gQ (.inr (.inr (.inr (.inr ⟨_, List.mem_of_getElem? hWg, h⟩)))) rfl)
      have HN5 := Lib.hid hNS
      have HB5 := Lib.hid (Nat.le_trans HB4.out HB45.out.size)
      have HLW := Lib.hid (show ps.length + [((A0, n0, c0), (A1, n1, c1))].length ≤ 100000000 by
        have h1 := hpal.len
        have h4 := HP.out.sm _ (List.getElem_mem hl2)
        have h2 := HN.out
        have h3 := HMO.out
        simp only [List.length_cons, List.length_nil]
        omega)
      have HPAL := Lib.hid hpal
      have HNN := Lib.hid hn0
      have HWN := Lib.hid hWg
      have HNW := Lib.hid hnW
      have HAPW := Lib.hid hapW
      clear hps hpal hvW hnW hWg hapW hNS hW4 hlo hn0
      go_upto_region 9 with fail
      refine wp_region_factsU (by kernel_rfl) (by kernel_rfl) (by kernel_rfl) (by kernel_rfl) (by kernel_rfl) (ApQ 24 2 eG B w5 (fun i => ([some (.pointer (some ⟨gS, 0, none⟩)), some (.pointer (some ⟨gQ, 0, none⟩)), some (.slice A0 n0 c0), some (.int .i64 (n0 : Int)), some (.pointer (some ⟨gS, 0, none⟩)), some (.pointer (some ⟨gQ, 0, none⟩)), some (.slice A0 n0 c0), some (.int .i64 (n0 : Int)), some (.pointer (some ⟨gS, 0, none⟩)), some (.pointer (some ⟨gS, 3, none⟩)), some (.pointer (some ⟨gS, 3 + n0, none⟩)), some (.slice AW nW cW), some (.agg #[.slice A0 n0 c0, .slice A1 n1 c1]), none, none, some (.pointer (some ⟨gS, 0, none⟩)), some (.pointer (some ⟨gS, 3, none⟩)), some (.pointer (some ⟨gS, 3 + n0, none⟩)), none] : List (Option Value)).getD i none) 13 14 18 (.slice AW nW cW) (⟨gS, 3 + n0, none⟩) (ps) ([((A0, n0, c0), (A1, n1, c1))])) (fun x => ApQ.start) ⟨?_, ?_, ?_, ?_, ?_, ?_, ?_, ?_, ?_, ?_, ?_, ?_, ?_, ?_, ?_, ?_, ?_, ?_, ?_, trivial⟩ ?_
      · intro D x w1 bA hI hD hdep hcl hb
        have e0 : bA.tmps[0]?.getD undef = .pointer (some ⟨gS, 0, none⟩) := hb 0
        refine wp_of_run (.pointer (some ⟨gS, 0, none⟩)) (w' := w1) ?_ (hI.val rfl (by decide) (by decide) (by decide))
        clear hb hI hdep hcl
        go_simp
      · intro D x w1 bA hI hD hdep hcl hb
        have e6 : bA.tmps[6]?.getD undef = .pointer (some ⟨gQ, 0, none⟩) := hb 6
        refine wp_of_run (.pointer (some ⟨gQ, 0, none⟩)) (w' := w1) ?_ (hI.val rfl (by decide) (by decide) (by decide))
        clear hb hI hdep hcl
        go_simp
      · intro D x w1 bA hI hD hdep hcl hb
        have hqf : D 18 = false := by cases h : D 18 with | false => rfl | true => (have := hcl 18 h 17 (by decide); have := hcl 17 this 3 (by decide); have := hcl 3 this 2 (by decide); rw [hD] at this; cases this)
        have e64 : bA.tmps[64]?.getD undef = .pointer (some ⟨gQ, 0, none⟩) := (hb 64).trans (hI.kn 1 _ rfl (hdep 1 (by decide)))
        have yb := (hI.arrK hqf HQ5.out HNQ.out).cell 0
        refine wp_of_run (.slice A0 n0 c0) (w' := w1) ?_ (hI.val rfl (by decide) (by decide) (by decide))
        clear hb hI hdep hcl
        go_simp
      · intro D x w1 bA hI hD hdep hcl hb
        have e65 : bA.tmps[65]?.getD undef = .slice A0 n0 c0 := (hb 65).trans (hI.kn 2 _ rfl (hdep 2 (by decide)))
        refine wp_of_run (.int .i64 (n0 : Int)) (w' := w1) ?_ (hI.val rfl (by decide) (by decide) (by decide))
        clear hb hI hdep hcl
        go_simp
      · intro D x w1 bA hI hD hdep hcl hb
        have e0 : bA.tmps[0]?.getD undef = .pointer (some ⟨gS, 0, none⟩) := hb 0
        refine wp_of_run (.pointer (some ⟨gS, 0, none⟩)) (w' := w1) ?_ (hI.val rfl (by decide) (by decide) (by decide))
        clear hb hI hdep hcl
        go_simp
      · intro D x w1 bA hI hD hdep hcl hb
        have e6 : bA.tmps[6]?.getD undef = .pointer (some ⟨gQ, 0, none⟩) := hb 6
        refine wp_of_run (.pointer (some ⟨gQ, 0, none⟩)) (w' := w1) ?_ (hI.val rfl (by decide) (by decide) (by decide))
        clear hb hI hdep hcl
        go_simp
      · intro D x w1 bA hI hD hdep hcl hb
        have hq7 : D 7 = false := by cases h : D 7 with | false => rfl | true => (have := hcl 7 h 6 (by decide); rw [hD] at this; cases this)
        have hq10 : D 10 = false := by cases h : D 10 with | false => rfl | true => (have := hcl 10 h 7 (by decide); rw [hq7] at this; cases this)
        have hq11 : D 11 = false := by cases h : D 11 with | false => rfl | true => (have := hcl 11 h 10 (by decide); rw [hq10] at this; cases this)
        have hq14 : D 14 = false := by cases h : D 14 with | false => rfl | true => (have := hcl 14 h 11 (by decide); rw [hq11] at this; cases this)
        have hqf : D 18 = false := by cases h : D 18 with | false => rfl | true => (have := hcl 18 h 14 (by decide); rw [hq14] at this; cases this)
        have hpre := hI.pre hq14 hqf
        have e68 : bA.tmps[68]?.getD undef = .pointer (some ⟨gQ, 0, none⟩) := (hb 68).trans (hI.kn 5 _ rfl (hdep 5 (by decide)))
        have yb := (HQ5.out.below hpre HQ5.out.lt).cell 0
        have yc := (HQ5.out.below hpre HQ5.out.lt).cell 1
        refine wp_of_run (.slice A0 n0 c0) (w' := w1) ?_ (hI.val rfl (by decide) (by decide) (by decide))
        clear hb hI hdep hcl
        go_simp
      · intro D x w1 bA hI hD hdep hcl hb
        have e69 : bA.tmps[69]?.getD undef = .slice A0 n0 c0 := (hb 69).trans (hI.kn 6 _ rfl (hdep 6 (by decide)))
        refine wp_of_run (.int .i64 (n0 : Int)) (w' := w1) ?_ (hI.val rfl (by decide) (by decide) (by decide))
        clear hb hI hdep hcl
        go_simp
      · intro D x w1 bA hI hD hdep hcl hb
        have e67 : bA.tmps[67]?.getD undef = .pointer (some ⟨gS, 0, none⟩) := (hb 67).trans (hI.kn 4 _ rfl (hdep 4 (by decide)))
        refine wp_of_run (.pointer (some ⟨gS, 0, none⟩)) (w' := w1) ?_ (hI.val rfl (by decide) (by decide) (by decide))
        clear hb hI hdep hcl
        go_simp
      · intro D x w1 bA hI hD hdep hcl hb
        have e71 : bA.tmps[71]?.getD undef = .pointer (some ⟨gS, 0, none⟩) := (hb 71).trans (hI.kn 8 _ rfl (hdep 8 (by decide)))
        refine wp_of_run (.pointer (some ⟨gS, 3, none⟩)) (w' := w1) ?_ (hI.val rfl (by decide) (by decide) (by decide))
        clear hb hI hdep hcl
        go_simp
      · intro D x w1 bA hI hD hdep hcl hb
        have e72 : bA.tmps[72]?.getD undef = .pointer (some ⟨gS, 3, none⟩) := (hb 72).trans (hI.kn 9 _ rfl (hdep 9 (by decide)))
        have e70 : bA.tmps[70]?.getD undef = .int .i64 (n0 : Int) := (hb 70).trans (hI.kn 7 _ rfl (hdep 7 (by decide)))
        have zz : ¬ (41 : Int) ≤ (n0 : Int) := by have := HN40.out; omega
        refine wp_of_run (.pointer (some ⟨gS, 3 + n0, none⟩)) (w' := w1) ?_ (hI.val rfl (by decide) (by decide) (by decide))
        clear hb hI hdep hcl
        go_simp
      · intro D x w1 bA hI hD hdep hcl hb
        have hq14 : D 14 = false := by cases h : D 14 with | false => rfl | true => (have := hcl 14 h 11 (by decide); rw [hD] at this; cases this)
        have hqf : D 18 = false := by cases h : D 18 with | false => rfl | true => (have := hcl 18 h 14 (by decide); rw [hq14] at this; cases this)
        have hpre := hI.pre hq14 hqf
        have e73 : bA.tmps[73]?.getD undef = .pointer (some ⟨gS, 3 + n0, none⟩) := (hb 73).trans (hI.kn 10 _ rfl (hdep 10 (by decide)))
        have yb := (HS5.out.below hpre HS5.out.lt).cell (3 + n0)
        rw [HWG.out] at yb
        refine wp_of_run (.slice AW nW cW) (w' := w1) ?_ (hI.val rfl (by decide) (by decide) (by decide))
        clear hb hI hdep hcl
        go_simp
      · intro D x w1 bA hI hD hdep hcl hb
        have hq13 : D 13 = false := by cases h : D 13 with | false => rfl | true => (have := hcl 13 h 12 (by decide); rw [hD] at this; cases this)
        have hq14 : D 14 = false := by cases h : D 14 with | false => rfl | true => (have := hcl 14 h 13 (by decide); rw [hq13] at this; cases this)
        have hqf : D 18 = false := by cases h : D 18 with | false => rfl | true => (have := hcl 18 h 14 (by decide); rw [hq14] at this; cases this)
        have hpre := hI.pre hq14 hqf
        have e6 : bA.tmps[6]?.getD undef = .pointer (some ⟨gQ, 0, none⟩) := hb 6
        have yb := (HQ5.out.below hpre HQ5.out.lt).cell 0
        have yc := (HQ5.out.below hpre HQ5.out.lt).cell 1
        refine wp_of_run (.agg #[.slice A0 n0 c0, .slice A1 n1 c1]) (w' := w1) ?_ (hI.val rfl (by decide) (by decide) (by decide))
        clear hb hI hdep hcl
        go_simp
      · intro D x w1 bA hI hD hdep hcl hb
        have hq14 : D 14 = false := by cases h : D 14 with | false => rfl | true => (have := hcl 14 h 13 (by decide); rw [hD] at this; cases this)
        have hqf : D 18 = false := by cases h : D 18 with | false => rfl | true => (have := hcl 18 h 14 (by decide); rw [hq14] at this; cases this)
        have e75 : bA.tmps[75]?.getD undef = .agg #[.slice A0 n0 c0, .slice A1 n1 c1] := (hb 75).trans (hI.kn 12 _ rfl (hdep 12 (by decide)))
        refine wp_of_run (.slice (some ⟨w1.heap.size, 0, none⟩) 1 1) (w' := w1.alloc (.cells #[.slice A0 n0 c0, .slice A1 n1 c1] 24)) ?_ (hI.call rfl (by decide) (by decide) hq14 hqf ((Below.refl _ _).alloc (Nat.le_refl _) _) (OwnA.lit (xs := [((A0, n0, c0), (A1, n1, c1))]) (fun y _ => elG.len y) (Nat.le_refl _) (by simp) (by simp)))
        clear hb hI hdep hcl
        go_simp
      · intro D x w1 bA hI hD hdep hcl hb
        have hqf : D 18 = false := by cases h : D 18 with | false => rfl | true => (have := hcl 18 h 14 (by decide); rw [hD] at this; cases this)
        have e74 : bA.tmps[74]?.getD undef = .slice AW nW cW := (hb 74).trans (hI.kn 11 _ rfl (hdep 11 (by decide)))
        have e76 : bA.tmps[76]?.getD undef = x 13 := hb 76
        exact hI.app elG (.tmp 74) (.tmp 76) 27 27 rfl Tryz.underlying27 Tryz.underlying27 rfl (by decide) (by decide) (hdep 13 (by decide)) hD hqf (by simpa [Act.eval] using e74) (by simpa [Act.eval] using e76) (HOW.out) (by simp) (HB5.out) (HLW.out)
      · intro D x w1 bA hI hD hdep hcl hb
        have e63 : bA.tmps[63]?.getD undef = .pointer (some ⟨gS, 0, none⟩) := (hb 63).trans (hI.kn 0 _ rfl (hdep 0 (by decide)))
        refine wp_of_run (.pointer (some ⟨gS, 0, none⟩)) (w' := w1) ?_ (hI.val rfl (by decide) (by decide) (by decide))
        clear hb hI hdep hcl
        go_simp
      · intro D x w1 bA hI hD hdep hcl hb
        have e78 : bA.tmps[78]?.getD undef = .pointer (some ⟨gS, 0, none⟩) := (hb 78).trans (hI.kn 15 _ rfl (hdep 15 (by decide)))
        refine wp_of_run (.pointer (some ⟨gS, 3, none⟩)) (w' := w1) ?_ (hI.val rfl (by decide) (by decide) (by decide))
        clear hb hI hdep hcl
        go_simp
      · intro D x w1 bA hI hD hdep hcl hb
        have e79 : bA.tmps[79]?.getD undef = .pointer (some ⟨gS, 3, none⟩) := (hb 79).trans (hI.kn 16 _ rfl (hdep 16 (by decide)))
        have e66 : bA.tmps[66]?.getD undef = .int .i64 (n0 : Int) := (hb 66).trans (hI.kn 3 _ rfl (hdep 3 (by decide)))
        have zz : ¬ (41 : Int) ≤ (n0 : Int) := by have := HN40.out; omega
        refine wp_of_run (.pointer (some ⟨gS, 3 + n0, none⟩)) (w' := w1) ?_ (hI.val rfl (by decide) (by decide) (by decide))
        clear hb hI hdep hcl
        go_simp
      · intro D x w1 bA hI hD hdep hcl hb
        have hda : D 14 = true := hdep 14 (by decide)
        have e80 : bA.tmps[80]?.getD undef = .pointer (some ⟨gS, 3 + n0, none⟩) := (hb 80).trans (hI.kn 17 _ rfl (hdep 17 (by decide)))
        have e77 : bA.tmps[77]?.getD undef = x 14 := hb 77
        have hst := hI.store rfl hda hD undef
        obtain ⟨hm1, hm2⟩ := hI.mid hda hD
        have qarr := hm2.arr (HS5.out) (HN5.out)
        have qy := qarr.cell (3 + n0)
        have qf := qarr.frozen (3 + n0)
        rw [HWG.out] at qy
        obtain ⟨AF, cF, eF⟩ := hm1.form
        generalize x 14 = xA at *
        subst eF
        refine wp_of_skip ?_ hst
        clear hb hI hdep hcl hst hm1 hm2 qarr
        go_simp
      intro D x w6 hI hall
      obtain ⟨wS, vS, hwS, hownS, hkptS⟩ := hI.fin (hall 18 (by simp))
      have x0e : x 0 = .pointer (some ⟨gS, 0, none⟩) := hI.kn 0 _ rfl (hall 0 (by simp))
      have x1e : x 1 = .pointer (some ⟨gQ, 0, none⟩) := hI.kn 1 _ rfl (hall 1 (by simp))
      have x2e : x 2 = .slice A0 n0 c0 := hI.kn 2 _ rfl (hall 2 (by simp))
      have x3e : x 3 = .int .i64 (n0 : Int) := hI.kn 3 _ rfl (hall 3 (by simp))
      have x4e : x 4 = .pointer (some ⟨gS, 0, none⟩) := hI.kn 4 _ rfl (hall 4 (by simp))
      have x5e : x 5 = .pointer (some ⟨gQ, 0, none⟩) := hI.kn 5 _ rfl (hall 5 (by simp))
      have x6e : x 6 = .slice A0 n0 c0 := hI.kn 6 _ rfl (hall 6 (by simp))
      have x7e : x 7 = .int .i64 (n0 : Int) := hI.kn 7 _ rfl (hall 7 (by simp))
      have x8e : x 8 = .pointer (some ⟨gS, 0, none⟩) := hI.kn 8 _ rfl (hall 8 (by simp))
      have x9e : x 9 = .pointer (some ⟨gS, 3, none⟩) := hI.kn 9 _ rfl (hall 9 (by simp))
      have x10e : x 10 = .pointer (some ⟨gS, 3 + n0, none⟩) := hI.kn 10 _ rfl (hall 10 (by simp))
      have x11e : x 11 = .slice AW nW cW := hI.kn 11 _ rfl (hall 11 (by simp))
      have x12e : x 12 = .agg #[.slice A0 n0 c0, .slice A1 n1 c1] := hI.kn 12 _ rfl (hall 12 (by simp))
      have x15e : x 15 = .pointer (some ⟨gS, 0, none⟩) := hI.kn 15 _ rfl (hall 15 (by simp))
      have x16e : x 16 = .pointer (some ⟨gS, 3, none⟩) := hI.kn 16 _ rfl (hall 16 (by simp))
      have x17e : x 17 = .pointer (some ⟨gS, 3 + n0, none⟩) := hI.kn 17 _ rfl (hall 17 (by simp))
      simp only [putAll, dstOf, Act.put, List.map_cons, List.map_nil, List.setIfInBounds_toArray, List.set_cons_succ, List.set_cons_zero, Nat.reduceAdd, x0e, x1e, x2e, x3e, x4e, x5e, x6e, x7e, x8e, x9e, x10e, x11e, x12e, x15e, x16e, x17e]
      clear x0e x1e x2e x3e x4e x5e x6e x7e x8e x9e x10e x11e x12e x15e x16e x17e hI hall
      generalize x 14 = xA, x 13 = xC
      obtain ⟨A6, c6, hv6⟩ := hownS.form
      subst hv6
      have h46 : ∀ b, b < w5.heap.size → b ≠ gS → sBlk (.slice AW nW cW) ≠ some b → w6.heap[b]? = w5.heap[b]? := fun b h1 h2 h3 => by
        rw [hwS]
        exact (Below.heap_setCell wS ⟨gS, 3 + n0, none⟩ _ b h2).trans (hkptS.keep b h1 h3)
      have hbl6 : Below B w5 w6 := by
        rw [hwS]
        exact hkptS.bel.setCell (p := ⟨gS, 3 + n0, none⟩) (HB.out gS (.inl rfl)) _
      have hnew6 : ∀ b, sBlk (.slice A6 (ps ++ [((A0, n0, c0), (A1, n1, c1))]).length c6) = some b → sBlk (.slice AW nW cW) = some b ∨ w5.heap.size ≤ b := hkptS.blk
      have hz3 := HB3.out.size
      have hz4 := HFR.out.2.1
      have hz5 := HB45.out.size
      have H46 := Lib.hid h46
      have HBL6 := Lib.hid hbl6
      have HNW6 := Lib.hid hnew6
      have HS6 := Lib.hid (show Arr w6 gS 52 (.map (some m1) :: .map (some m2) :: .slice A5 (cs ++ [((A2, n2, c2), (A3, n3, c3))]).length c5 :: WS.set n0 (.slice A6 (ps ++ [((A0, n0, c0), (A1, n1, c1))]).length c6)) from by
        rw [hwS]
        have h := (hkptS.arr HS5.out HN5.out).set (3 + n0) (.slice A6 (ps ++ [((A0, n0, c0), (A1, n1, c1))]).length c6)
        rw [show 3 + n0 = n0 + 1 + 1 + 1 by omega] at h ⊢
        exact h)
      have HO6 := Lib.hid (show QA 24 2 eG B w6 (.slice A6 (ps ++ [((A0, n0, c0), (A1, n1, c1))]).length c6) (ps ++ [((A0, n0, c0), (A1, n1, c1))]) from hownS.keepK fun b hb => by
        rw [hwS]
        refine Below.heap_setCell wS ⟨gS, 3 + n0, none⟩ _ b fun e => ?_
        rcases hnew6 b hb with h | h
        · rw [e] at h; exact HN5.out h
        · rw [e] at h; exact absurd HS5.out.lt (by simpa using h))
      clear h46 hbl6 hnew6 hwS hownS hkptS
      go_wp2_with fail
      go_ret
      refine .inr ⟨(s.1 ++ [⟨lstM g, ms, fr⟩], s.2.modify g.1.length (· ++ [g])), ⟨m1, m2, .slice A5 (cs ++ [((A2, n2, c2), (A3, n3, c3))]).length c5, WS.set n0 (.slice A6 (ps ++ [((A0, n0, c0), (A1, n1, c1))]).length c6), L1 ++ [(fmG (lstM g), vm)], k1 + 1, k2 + 1⟩, ?_, rfl, ?_, ?_, ?_, ?_⟩
      · unfold addM
        rw [if_neg hk, if_neg (by have := HN.out; omega)]
      · have hkf : Kf gS ⟨m1, m2, .slice Ac N cc, WS, L1, k1, k2⟩ w3 w6 := by
          refine ⟨by have := HBL6.out.size; omega, fun b hb ho => ?_⟩
          have o1 : b ≠ gS := fun e => ho (.inl e)
          have o2 : b ≠ m1 := fun e => ho (.inr (.inl e))
          have o3 : b ≠ m2 := fun e => ho (.inr (.inr (.inl e)))
          have o4 : sBlk (.slice Ac N cc) ≠ some b := fun e => ho (.inr (.inr (.inr (.inl e))))
          have o5 : sBlk (.slice AW nW cW) ≠ some b := fun e => ho (.inr (.inr (.inr (.inr ⟨_, List.mem_of_getElem? HWN.out, e⟩))))
          exact (H46.out b (by omega) o1 o5).trans ((HF5.out b (by omega) o1 o4).trans (HFR.out.1 b o2 o3))
        have hgv := hkf.gv HS3.out
        have hol : ∀ b, Ow gS ⟨m1, m2, .slice Ac N cc, WS, L1, k1, k2⟩ b → b < w.heap.size := fun b h => HS.out.lt h
        have hmp : ∀ m : Nat, (∃ (es : Array MapEntry) (c : Nat), w4.heap[m]? = some (Obj.map es c)) → w6.heap[m]? = w4.heap[m]? := by
          rintro m ⟨es, c, e1⟩
          have hm4 := (Array.getElem?_eq_some_iff.1 e1).1
          have n1 : m ≠ gS := fun e => by
            subst e
            have e2 : w4.heap[m]? = _ := HS4.out
            rw [e1] at e2; cases e2
          have n2 : sBlk (.slice Ac N cc) ≠ some m := fun e => by
            obtain ⟨c0, f0, e2⟩ := HOC.out.typ m e
            rw [e1] at e2; cases e2
          have e5 := HF5.out m hm4 n1 n2
          have n3 : sBlk (.slice AW nW cW) ≠ some m := fun e => by
            obtain ⟨c0, f0, e2⟩ := HOW.out.typ m e
            rw [e5, e1] at e2; cases e2
          exact (H46.out m (by omega) n1 n3).trans e5
        refine ⟨HS6.out, by rw [List.length_set]; exact HS3.out.wl, by rw [List.length_modify]; exact HS3.out.w2, HNE.out.2.2, HM1.out.keep (hmp m1 ?_), ?_, ?_, ?_, ?_, ?_, ?_⟩
        · obtain ⟨es, e1, _⟩ := HM1.out; exact ⟨_, _, e1⟩
        · have := HM2.out.keep (hmp m2 (by obtain ⟨es, e1, _⟩ := HM2.out; exact ⟨_, _, e1⟩))
          simpa [l2] using this
        · exact HS3.out.al1.snoc (e := ⟨lstM g, ms, fr⟩) (fun v ms h => hkf.moves HS3.out h) (hkf.moves HS3.out HM3.out)
        · refine ⟨cs ++ [((A2, n2, c2), (A3, n3, c3))], (HO5.out.keepK fun b hb => ?_).low (Nat.zero_le _), ?_⟩
          · have n1 : b ≠ gS := fun e => by
              obtain ⟨c0, f0, e1⟩ := HO5.out.typ b hb
              have e2 : w5.heap[gS]? = _ := HS5.out
              rw [e] at e1
              have e3 := e1.symm.trans e2
              injection e3 with e3
              injection e3 with _ e3 _
              exact absurd e3 (by decide)
            refine H46.out b (HO5.out.lt b hb) n1 fun e => ?_
            rcases HNW5.out b hb with h | h
            · exact HAPW.out b e h
            · have := hol b (.inr (.inr (.inr (.inr ⟨_, List.mem_of_getElem? HWN.out, e⟩)))); omega
          · rw [List.map_append]
            exact (HCAL.out.imp hgv).snoc (hgv _ _ HG3.out)
        · intro i v gs h1 h2
          dsimp only at h1 h2
          by_cases hi : i = n0
          · subst hi
            rw [List.getElem?_set_self (by have := HS3.out.wl; dsimp only at this; have := HN40.out; omega)] at h1
            injection h1 with h1
            subst h1
            rw [← HNN.out, List.getElem?_modify_eq, List.getElem?_eq_getElem hl2] at h2
            injection h2 with h2
            subst h2
            exact ⟨_, HO6.out.low (Nat.zero_le _), (HPAL.out.imp hgv).snoc (hgv _ _ HQ4.out)⟩
          · rw [List.getElem?_set_ne (Ne.symm hi)] at h1
            have hne' := (show g.1.length ≠ i from fun e => hi (by have := HNN.out; omega))
            rw [List.getElem?_modify] at h2
            simp only [hne', if_false] at h2
            replace h2 : s.2[i]? = some gs := by simpa using h2
            obtain ⟨qs, q1, q2⟩ := HS3.out.wt i v gs h1 h2
            refine ⟨qs, q1.keepK fun b hb => ?_, q2.imp hgv⟩
            obtain ⟨c0, f0, e1⟩ := q1.typ b hb
            have n1 : b ≠ gS := fun e => by
              have e2 : w3.heap[gS]? = _ := HS3.out.hd
              rw [e] at e1
              have e3 := e1.symm.trans e2
              injection e3 with e3
              injection e3 with _ e3 _
              exact absurd e3 (by decide)
            have hb3 := q1.lt b hb
            have hm := HSEP.out b _ _ _ e1
            exact (H46.out b (by omega) n1 fun e => HS3.out.ap2 i n0 v _ b h1 HWN.out hi hb e).trans ((HF5.out b (by omega) n1 (HS3.out.ap1 i v b h1 hb)).trans (HFR.out.1 b hm.1 hm.2))
        · intro i v b h1 h2 h3
          have h5 := HO5.out.lt b h3
          by_cases hi : i = n0
          · subst hi
            rw [List.getElem?_set_self (by have := HS3.out.wl; dsimp only at this; have := HN40.out; omega)] at h1
            injection h1 with h1
            subst h1
            rcases HNW6.out b h2 with h | h
            · have := hol b (.inr (.inr (.inr (.inr ⟨_, List.mem_of_getElem? HWN.out, h⟩))))
              rcases HNW5.out b h3 with k | k
              · exact HAPW.out b h k
              · omega
            · omega
          · rw [List.getElem?_set_ne (Ne.symm hi)] at h1
            have := hol b (.inr (.inr (.inr (.inr ⟨_, List.mem_of_getElem? h1, h2⟩))))
            rcases HNW5.out b h3 with k | k
            · exact HS3.out.ap1 i v b h1 h2 k
            · omega
        · have key : ∀ (j : Nat) u b, WS[j]? = some u → j ≠ n0 → sBlk u = some b → sBlk (.slice A6 (ps ++ [((A0, n0, c0), (A1, n1, c1))]).length c6) ≠ some b := fun j u b h1 hj h2 h3 => by
            have := hol b (.inr (.inr (.inr (.inr ⟨_, List.mem_of_getElem? h1, h2⟩))))
            rcases HNW6.out b h3 with k | k
            · exact HS3.out.ap2 j n0 u _ b h1 HWN.out hj h2 k
            · omega
          have hlw : n0 < WS.length := by have := HS3.out.wl; dsimp only at this; have := HN40.out; omega
          intro i j v u b h1 h2 hij h3 h4
          by_cases hi : i = n0
          · subst hi
            rw [List.getElem?_set_self hlw] at h1
            injection h1 with h1
            subst h1
            rw [List.getElem?_set_ne hij] at h2
            exact key j u b h2 (Ne.symm hij) h4 h3
          · rw [List.getElem?_set_ne (Ne.symm hi)] at h1
            by_cases hj : j = n0
            · subst hj
              rw [List.getElem?_set_self hlw] at h2
              injection h2 with h2
              subst h2
              exact key i v b h1 hi h3 h4
            · rw [List.getElem?_set_ne (Ne.symm hj)] at h2
              exact HS3.out.ap2 i j v u b h1 h2 hij h3 h4
      · exact (((HB3.out.mono HBW.out).trans HFR.out.2.2).trans HB45.out).trans HBL6.out
      · refine ⟨by have := HBL6.out.size; omega, fun b hb ho => ?_⟩
        have o1 : b ≠ gS := fun e => ho (.inl e)
        have o2 : b ≠ m1 := fun e => ho (.inr (.inl e))
        have o3 : b ≠ m2 := fun e => ho (.inr (.inr (.inl e)))
        have o4 : sBlk (.slice Ac N cc) ≠ some b := fun e => ho (.inr (.inr (.inr (.inl e))))
        have o5 : sBlk (.slice AW nW cW) ≠ some b := fun e => ho (.inr (.inr (.inr (.inr ⟨_, List.mem_of_getElem? HWN.out, e⟩))))
        exact (H46.out b (by omega) o1 o5).trans ((HF5.out b (by omega) o1 o4).trans ((HFR.out.1 b o2 o3).trans (HB3.out.block b hb)))
      · intro b hb
        rcases hb with e | e | e | e | ⟨v, hv, e⟩
        · exact .inl (.inl e)
        · exact .inl (.inr (.inl e))
        · exact .inl (.inr (.inr (.inl e)))
        · rcases HNW5.out b e with h | h
          · exact .inl (.inr (.inr (.inr (.inl h))))
          · exact .inr (by omega)
        · rcases List.mem_or_eq_of_mem_set hv with h | h
          · exact .inl (.inr (.inr (.inr (.inr ⟨v, h, e⟩))))
          · subst h
            rcases HNW6.out b e with h | h
            · exact .inl (.inr (.inr (.inr (.inr ⟨_, List.mem_of_getElem? HWN.out, h⟩))))
            · exact .inr (by omega)
end Go.Proofs.YteliflcbegcdlaaGreatDoor

namespace Go.Proofs.YteliflcbegcdlaaGreatDoor
open Go.RowKit Go.Shelf
set_option linter.unusedVariables false
/-! ### plain -/
theorem modify_mem {α : Type} {f : α → α} : ∀ {l : List α} {n : Nat} {x : α}, x ∈ l.modify n f → x ∈ l ∨ ∃ y ∈ l, x = f y
  | [], n, x, h => by simp at h
  | a :: l, 0, x, h => by
    simp at h
    rcases h with h | h
    · exact .inr ⟨a, by simp, h⟩
    · exact .inl (by simp [h])
  | a :: l, n + 1, x, h => by
    simp at h
    rcases h with h | h
    · exact .inl (by simp [h])
    · rcases modify_mem h with h | ⟨y, h1, h2⟩
      · exact .inl (by simp [h])
      · exact .inr ⟨y, by simp [h1], h2⟩
theorem StP.add {most : Int} {s s' : St} {g : Gd} {fr : Option Gd} {ms : List Mv} (h : StP s) (hg : VdG g) (ha : addM most s g fr ms = some s') : StP s' := by
  unfold addM at ha
  split at ha
  · injection ha with ha; subst ha; exact h
  next hk =>
  split at ha
  · cases ha
  injection ha with ha
  subst ha
  refine ⟨?_, ?_, ?_, ?_, by simpa using h.l2⟩
  · intro e he
    rcases List.mem_append.1 he with he | he
    · exact h.v1 e he
    · rw [List.mem_singleton.1 he]; exact lstM_vd hg
  · intro l hl g' hg'
    rcases modify_mem hl with hl | ⟨y, hy, rfl⟩
    · exact h.v2 l hl g' hg'
    · rcases List.mem_append.1 hg' with q | q
      · exact h.v2 y hy g' q
      · rw [List.mem_singleton.1 q]; exact hg
  · rw [List.map_append, List.nodup_append]
    refine ⟨h.nd, by simp, ?_⟩
    intro a ha b hb e
    obtain ⟨x, hx, rfl⟩ := List.mem_map.1 ha
    simp at hb
    exact hasK_no hk x hx (e.trans hb)
  · intro l hl
    rw [List.length_append, List.length_singleton]
    rcases modify_mem hl with hl | ⟨y, hy, rfl⟩
    · have := h.sm l hl; omega
    · have := h.sm y hy; simp; omega
theorem nextM_get : ∀ {l : List (List Gd)} {g : Gd} {W : List (List Gd)}, nextM l = some (g, W) → ∃ k t, l[k]? = some (g :: t) ∧ W = l.set k t
  | [], g, W, h => by cases h
  | [] :: l, g, W, h => by
    rw [nextM] at h
    cases hn : nextM l with
    | none => rw [hn] at h; cases h
    | some p =>
      rw [hn] at h
      injection h with h
      injection h with h1 h2
      obtain ⟨p1, p2⟩ := p
      simp only at h1 h2
      subst h1
      obtain ⟨k, t, e1, e2⟩ := nextM_get hn
      exact ⟨k + 1, t, by simpa using e1, by rw [← h2, e2]; rfl⟩
  | (x :: t) :: l, g, W, h => by
    rw [nextM] at h
    injection h with h
    injection h with h1 h2
    subst h1
    exact ⟨0, t, rfl, h2.symm⟩
theorem StP.next {s : St} {g : Gd} {W : List (List Gd)} (h : StP s) (hn : nextM s.2 = some (g, W)) : StP (s.1, W) ∧ VdG g := by
  obtain ⟨k, t, e1, rfl⟩ := nextM_get hn
  have hm := List.mem_of_getElem? e1
  refine ⟨⟨h.v1, ?_, h.nd, ?_, by simpa using h.l2⟩, h.v2 _ hm g (by simp)⟩
  · intro l hl g' hg'
    rcases List.mem_or_eq_of_mem_set hl with q | q
    · exact h.v2 l q g' hg'
    · subst q; exact h.v2 _ hm g' (by simp [hg'])
  · intro l hl
    rcases List.mem_or_eq_of_mem_set hl with q | q
    · exact h.sm l q
    · subst q; have := h.sm _ hm; simp at this ⊢; omega
/-- how many grids wait -/
def wtN (W : List (List Gd)) : Nat := (W.map List.length).sum
theorem wtN_modify : ∀ (W : List (List Gd)) (n : Nat) (g : Gd), wtN (W.modify n (· ++ [g])) ≤ wtN W + 1
  | [], n, g => by simp [wtN]
  | x :: W, 0, g => by simp [wtN]; omega
  | x :: W, n + 1, g => by
    have := wtN_modify W n g
    simp [wtN] at this ⊢
    omega
theorem wtN_set : ∀ (W : List (List Gd)) (k : Nat) (g : Gd) (t : List Gd), W[k]? = some (g :: t) → wtN (W.set k t) + 1 = wtN W
  | [], k, g, t, h => by simp at h
  | x :: W, 0, g, t, h => by simp at h; subst h; simp [wtN]; omega
  | x :: W, k + 1, g, t, h => by
    have := wtN_set W k g t (by simpa using h)
    simp [wtN] at this ⊢
    omega
def meas (most : Int) (s : St) : Nat := 2 * (most.toNat - s.1.length) + wtN s.2
theorem meas_add {most : Int} {s s' : St} {g : Gd} {fr : Option Gd} {ms : List Mv} (ha : addM most s g fr ms = some s') : meas most s' ≤ meas most s := by
  unfold addM at ha
  split at ha
  · injection ha with ha; subst ha; exact Nat.le_refl _
  split at ha
  · cases ha
  injection ha with ha
  subst ha
  have := wtN_modify s.2 g.1.length g
  unfold meas
  simp only [List.length_append, List.length_singleton]
  omega
theorem meas_all {most : Int} {fr : Option Gd} : ∀ (l : List (List Mv × Gd)) {s s' : St}, addAll most fr s l = some s' → meas most s' ≤ meas most s
  | [], s, s', h => by injection h with h; subst h; exact Nat.le_refl _
  | (ms, g) :: t, s, s', h => by
    unfold addAll at h
    cases h1 : addM most s g fr ms with
    | none => rw [h1] at h; cases h
    | some s1 =>
      rw [h1] at h
      exact Nat.le_trans (meas_all t h) (meas_add h1)
theorem meas_next {most : Int} {s : St} {g : Gd} {W : List (List Gd)} (hn : nextM s.2 = some (g, W)) : meas most (s.1, W) + 1 = meas most s := by
  obtain ⟨k, t, e1, rfl⟩ := nextM_get hn
  have := wtN_set _ _ _ _ e1
  unfold meas
  simp only
  omega
theorem addAll_app {most : Int} {fr : Option Gd} : ∀ (a b : List (List Mv × Gd)) (s : St), addAll most fr s (a ++ b) = (addAll most fr s a).bind fun s' => addAll most fr s' b
  | [], b, s => rfl
  | (ms, g) :: a, b, s => by
    rw [List.cons_append, addAll, addAll]
    cases h1 : addM most s g fr ms with
    | none => rfl
    | some s1 => exact addAll_app a b s1
theorem addAll_succ {most : Int} {fr : Option Gd} {l : List (List Mv × Gd)} {k : Nat} {s s1 : St} {ms : List Mv} {g : Gd} (h : addAll most fr s (l.take k) = some s1) (hk : l[k]? = some (ms, g)) : addAll most fr s (l.take (k + 1)) = addM most s1 g fr ms := by
  have hlt := (List.getElem?_eq_some_iff.1 hk).1
  have he := (List.getElem?_eq_some_iff.1 hk).2
  rw [List.take_succ_eq_append_getElem hlt, addAll_app, h, he]
  show addAll most fr s1 [(ms, g)] = _
  rw [addAll]
  cases addM most s1 g fr ms <;> rfl
theorem addAll_none {most : Int} {fr : Option Gd} {l : List (List Mv × Gd)} {k : Nat} {s : St} (h : addAll most fr s (l.take k) = none) : addAll most fr s l = none := by
  conv => lhs; rw [← List.take_append_drop k l]
  rw [addAll_app, h]; rfl
/-- the neighbors are valid -/
theorem nbrs_vd {g z : Gd} {ms : List Mv} (h : VdG g) (hm : (ms, z) ∈ nbrs g) : VdG z := by
  have one : ∀ m, (ms, z) ∈ tryM g [m] → VdG z := fun m hm => by
    obtain ⟨_, q⟩ := (tryM_one h _ _).1 hm
    exact applyM_res_vd q
  have two : ∀ m m', (ms, z) ∈ tryM g [m, m'] → VdG z := fun m m' hm => by
    obtain ⟨_, y, _, q⟩ := (tryM_two h _ _).1 hm
    exact applyM_res_vd q
  have key : ∀ r, (ms, z) ∈ nbR g r → VdG z := fun r hm => by
    unfold nbR nb1 nb2 nb3 at hm
    rcases List.mem_append.1 hm with hm | hm
    · rcases List.mem_append.1 hm with hm | hm
      · obtain ⟨i, hi, q⟩ := List.mem_flatMap.1 hm
        unfold rmL at q
        split at q
        · exact one _ q
        · exact two _ _ q
      · obtain ⟨i, hi, q⟩ := List.mem_flatMap.1 hm
        exact one _ q
    · exact two _ _ hm
  unfold nbrs at hm
  rcases List.mem_append.1 hm with hm | hm
  · exact key _ hm
  · exact key _ hm
/-- the start of a search -/
def st00 : St := ([], List.replicate 41 [])
theorem StP.start : StP st00 := ⟨fun e h => by simp [st00] at h, fun l hl g hg => by unfold st00 at hl; simp at hl; subst hl; simp at hg, by simp [st00], fun l hl => by unfold st00 at hl; simp at hl; subst hl; simp, by simp [st00]⟩
/-- how a search from g ends -/
inductive Exq (most : Int) (short : Bool) (g : Gd) : Res → Prop
  | none : addM most st00 g none [] = none → Exq most short g .fuel
  | some {s : St} {r : Res} : addM most st00 g none [] = some s → Run most short s r → Exq most short g r
/-! ### memory -/
/-- block l holds neither cells nor a map -/
def Nc (l : Nat) (A : World) : Prop := (∀ es c, A.heap[l]? ≠ some (.map es c)) ∧ ∀ cs t fr, A.heap[l]? ≠ some (.cells cs t fr)
theorem Lp.nc {l : Nat} {A : World} (h : Lp l A) : Nc l A := by
  obtain ⟨r, h⟩ := h
  exact ⟨fun es c e => (by rw [h] at e; cases e), fun cs t fr e => (by rw [h] at e; cases e)⟩
theorem Nc.of_def {l : Nat} {A : World} {x : Option (List Deferred)} (h : A.heap[l]? = some (.deferred x)) : Nc l A :=
  ⟨fun es c e => (by rw [h] at e; cases e), fun cs t fr e => (by rw [h] at e; cases e)⟩
theorem Nc.ne {l b i : Nat} {A : World} {v : Value} (h : Nc l A) (k : A.cell? ⟨b, i, none⟩ = some v) : b ≠ l := by
  rintro rfl
  unfold World.cell? at k
  simp only at k
  split at k
  · next cs t fr e => exact h.2 _ _ _ e
  · cases k
theorem Nc.arr {l b : Nat} {A : World} {t : TypeId} {cs : List Value} {o : Obj} (h : Nc l A) (ha : Arr A b t cs) : Arr (A.putObj l o) b t cs :=
  (World.putObj_heap_other (fun e => h.2 _ _ _ (e ▸ ha))).trans ha
theorem Nc.cell {l b i : Nat} {A : World} {v : Value} {o : Obj} (h : Nc l A) (k : A.cell? ⟨b, i, none⟩ = some v) : (A.putObj l o).cell? ⟨b, i, none⟩ = some v :=
  (World.cell?_of_block (World.putObj_heap_other (h.ne k))).trans k
theorem Nc.ints {A : World} {l : Nat} {o : Obj} {v : Value} {xs : List Int} (h : Nc l A) (k : Ints A v xs) : Ints (A.putObj l o) v xs := by
  obtain ⟨A0, c, e, hc, hx⟩ := k
  refine ⟨A0, c, e, hc, fun j x hj => ?_⟩
  obtain ⟨b, off, e1, hcell⟩ := hx j x hj
  exact ⟨b, off, e1, h.cell hcell⟩
theorem Nc.moves {A : World} {l : Nat} {o : Obj} {v : Value} {ms : List Mv} (h : Nc l A) (k : Moves A v ms) : Moves (A.putObj l o) v ms := by
  obtain ⟨A0, c, e, hx⟩ := k
  refine ⟨A0, c, e, fun j hj => ?_⟩
  obtain ⟨b, off, e1, hcell⟩ := hx j hj
  exact ⟨b, off, e1, fun i u hu => h.cell (hcell i u hu)⟩
section
variable {gS : Nat} {w w' : World} {s : St} {p : SP}
theorem SI.putN (h : SI gS w s p) {l : Nat} {o : Obj} (hl : Nc l w) : SI gS (w.putObj l o) s p := by
  have hne : ∀ b, Ow gS p b → (w.putObj l o).heap[b]? = w.heap[b]? := fun b ho => World.putObj_heap_other (by
    rintro rfl
    rcases h.typ ho with ⟨es, c, e2⟩ | ⟨cs, t, fr, e2, _⟩
    · exact hl.1 _ _ e2
    · exact hl.2 _ _ _ e2)
  obtain ⟨cs, q1, q2⟩ := h.cls
  exact ⟨(hne _ (.inl rfl)).trans h.hd, h.wl, h.w2, h.ne, h.mp1.keep (hne _ (.inr (.inl rfl))), h.mp2.keep (hne _ (.inr (.inr (.inl rfl)))),
    ⟨h.al1.1, fun i q e h1 h2 => ⟨(h.al1.2 i q e h1 h2).1, hl.moves (h.al1.2 i q e h1 h2).2⟩⟩, ⟨cs, q1.keepK fun b hb => hne b (.inr (.inr (.inr (.inl hb)))), q2.imp fun q g hx => ⟨hl.ints hx.1, hl.ints hx.2⟩⟩,
    fun i v gs h1 h2 => by
      obtain ⟨ps, a, b⟩ := h.wt i v gs h1 h2
      exact ⟨ps, a.keepK fun b hb => hne b (.inr (.inr (.inr (.inr ⟨v, List.mem_of_getElem? h1, hb⟩)))), b.imp fun q g hx => ⟨hl.ints hx.1, hl.ints hx.2⟩⟩, h.ap1, h.ap2⟩
/-- the state where its blocks and the integers stay as they were -/
theorem SI.hold (h : SI gS w s p) (hk : ∀ b, Ow gS p b → w'.heap[b]? = w.heap[b]?) (hi : ∀ b i k n, w.cell? ⟨b, i, none⟩ = some (.int k n) → w'.heap[b]? = w.heap[b]?) : SI gS w' s p := by
  have hin : ∀ {v : Value} {xs : List Int}, Ints w v xs → Ints w' v xs := fun {v xs} hx => by
    obtain ⟨A0, c, e, hc, hx⟩ := hx
    refine ⟨A0, c, e, hc, fun j x hj => ?_⟩
    obtain ⟨b, off, e1, hcell⟩ := hx j x hj
    exact ⟨b, off, e1, (World.cell?_of_block (hi b _ _ _ hcell)).trans hcell⟩
  have hmv : ∀ {v : Value} {ms : List Mv}, Moves w v ms → Moves w' v ms := fun {v ms} hx => by
    obtain ⟨A0, c, e, hx⟩ := hx
    refine ⟨A0, c, e, fun j hj => ?_⟩
    obtain ⟨b, off, e1, hcell⟩ := hx j hj
    have hb := hi b _ _ _ (hcell 0 _ rfl)
    exact ⟨b, off, e1, fun i u hu => (World.cell?_of_block hb).trans (hcell i u hu)⟩
  obtain ⟨cs, q1, q2⟩ := h.cls
  exact ⟨(hk _ (.inl rfl)).trans h.hd, h.wl, h.w2, h.ne, h.mp1.keep (hk _ (.inr (.inl rfl))), h.mp2.keep (hk _ (.inr (.inr (.inl rfl)))),
    ⟨h.al1.1, fun i q e h1 h2 => ⟨(h.al1.2 i q e h1 h2).1, hmv (h.al1.2 i q e h1 h2).2⟩⟩, ⟨cs, q1.keepK fun b hb => hk b (.inr (.inr (.inr (.inl hb)))), q2.imp fun q g hx => ⟨hin hx.1, hin hx.2⟩⟩,
    fun i v gs h1 h2 => by
      obtain ⟨ps, a, b⟩ := h.wt i v gs h1 h2
      exact ⟨ps, a.keepK fun b hb => hk b (.inr (.inr (.inr (.inr ⟨v, List.mem_of_getElem? h1, hb⟩)))), b.imp fun q g hx => ⟨hin hx.1, hin hx.2⟩⟩, h.ap1, h.ap2⟩
/-- a block of another type than the state's is not the state's -/
theorem SI.other (h : SI gS w s p) {b : Nat} {t : TypeId} {cs : List Value} (ha : Arr w b t cs) (h1 : t ≠ 52) (h2 : t ≠ 24) : ¬ Ow gS p b := by
  intro hb
  have ha' : w.heap[b]? = _ := ha
  rcases h.typ hb with ⟨es, c, e⟩ | ⟨cs', t', fr, e, ht⟩
  · rw [e] at ha'; cases ha'
  · rw [e] at ha'
    injection ha' with ha'
    injection ha' with _ e2 _
    subst e2
    rcases ht with rfl | rfl
    · exact h1 rfl
    · exact h2 rfl
theorem Kf.arr (k : Kf gS p w w') {b : Nat} {t : TypeId} {cs : List Value} (ha : Arr w b t cs) (hb : ¬ Ow gS p b) : Arr w' b t cs := (k.keep b ha.lt hb).trans ha
end
/-- explore's boxes -/
structure ExB (n0 b4 b6 b7 b8 b9 gS : Nat) (most : Int) (w W : World) : Prop where
  bel : Below n0 w W
  le : n0 ≤ W.heap.size
  x4 : Arr W b4 3 [.int .i64 most]
  x6 : ∃ v, Arr W b6 44 [.pointer v]
  x7 : ∃ v, Arr W b7 9 [.string v]
  x8 : Arr W b8 28 [.int .i64 0]
  x9 : Arr W b9 44 [.pointer (some ⟨gS, 0, none⟩)]
  n9 : b9 ≠ b6
section
variable {n0 b4 b6 b7 b8 b9 gS : Nat} {most : Int} {w W W' : World} {s : St} {p : SP}
theorem ExB.below (h : ExB n0 b4 b6 b7 b8 b9 gS most w W) (hb : Below W.heap.size W W') : ExB n0 b4 b6 b7 b8 b9 gS most w W' := by
  obtain ⟨v6, h6⟩ := h.x6
  obtain ⟨v7, h7⟩ := h.x7
  have h8 := h.x8
  exact ⟨h.bel.trans (hb.mono h.le), Nat.le_trans h.le hb.size, h.x4.below hb h.x4.lt, ⟨v6, h6.below hb h6.lt⟩, ⟨v7, h7.below hb h7.lt⟩, h8.below hb h8.lt, h.x9.below hb h.x9.lt, h.n9⟩
theorem ExB.kf (h : ExB n0 b4 b6 b7 b8 b9 gS most w W) (hs : SI gS W s p) (k : Kf gS p W W') (hb : Below n0 W W') : ExB n0 b4 b6 b7 b8 b9 gS most w W' := by
  obtain ⟨v6, h6⟩ := h.x6
  obtain ⟨v7, h7⟩ := h.x7
  have h8 := h.x8
  exact ⟨h.bel.trans hb, Nat.le_trans h.le k.siz, k.arr h.x4 (hs.other h.x4 (by decide) (by decide)), ⟨v6, k.arr h6 (hs.other h6 (by decide) (by decide))⟩, ⟨v7, k.arr h7 (hs.other h7 (by decide) (by decide))⟩, k.arr h8 (hs.other h8 (by decide) (by decide)), k.arr h.x9 (hs.other h.x9 (by decide) (by decide)), h.n9⟩
theorem ExB.putN (h : ExB n0 b4 b6 b7 b8 b9 gS most w W) {l : Nat} {o : Obj} (hl : Nc l W) (hn : n0 ≤ l) : ExB n0 b4 b6 b7 b8 b9 gS most w (W.putObj l o) := by
  obtain ⟨v6, h6⟩ := h.x6
  obtain ⟨v7, h7⟩ := h.x7
  have h8 := h.x8
  refine ⟨⟨h.bel.os, h.bel.tape, h.bel.output, by rw [World.putObj_size]; exact h.bel.size, fun b hb => ?_⟩, by rw [World.putObj_size]; exact h.le, hl.arr h.x4, ⟨v6, hl.arr h6⟩, ⟨v7, hl.arr h7⟩, hl.arr h8, hl.arr h.x9, h.n9⟩
  exact (World.putObj_heap_other (by omega)).trans (h.bel.block b hb)
end
end Go.Proofs.YteliflcbegcdlaaGreatDoor

namespace Go.Proofs.YteliflcbegcdlaaGreatDoor
open Go.RowKit
set_option linter.unusedVariables false
/-- the moves ms lead from a grid to a grid -/
def Pls (g : Gd) (ms : List Mv) (z : Gd) : Prop := (∀ i, playFrom i g.1 g.2 ms = (0, z.1, z.2, -1)) ∧ ∀ m ∈ ms, m.k ≠ 4
theorem Pls.nil (g : Gd) : Pls g [] g := ⟨fun i => rfl, by simp⟩
theorem Pls.one {g z : Gd} {m : Mv} (h : m.app g.1 g.2 = (0, z.1, z.2)) (hm : m.k ≠ 4) : Pls g [m] z := by
  refine ⟨fun i => ?_, by simp; exact hm⟩
  simp only [playFrom, h, if_true]
theorem Pls.two {g y z : Gd} {m m' : Mv} (h : m.app g.1 g.2 = (0, y.1, y.2)) (h' : m'.app y.1 y.2 = (0, z.1, z.2)) (hm : m.k ≠ 4) (hm' : m'.k ≠ 4) : Pls g [m, m'] z := by
  refine ⟨fun i => ?_, by simp; exact ⟨hm, hm'⟩⟩
  simp only [playFrom, h, h', if_true]
theorem playFrom_app : ∀ (A B : List Mv) (i : Nat) (X O Y P : List Int), playFrom i X O A = (0, Y, P, -1) → playFrom i X O (A ++ B) = playFrom (i + A.length) Y P B
  | [], B, i, X, O, Y, P, h => by
    injection h with _ h
    injection h with h1 h
    injection h with h2 _
    subst h1; subst h2; rfl
  | m :: A, B, i, X, O, Y, P, h => by
    rw [playFrom] at h
    rw [List.cons_append, playFrom]
    split at h
    · next h0 =>
      rw [if_pos h0, playFrom_app A B _ _ _ _ _ h, List.length_cons]
      congr 1; omega
    · injection h with _ h
      injection h with _ h
      injection h with _ h
      omega
theorem Pls.app {g y z : Gd} {A B : List Mv} (h : Pls g A y) (h' : Pls y B z) : Pls g (A ++ B) z :=
  ⟨fun i => (playFrom_app A B i _ _ _ _ (h.1 i)).trans (h'.1 _), fun m hm => (List.mem_append.1 hm).elim (h.2 m) (h'.2 m)⟩
theorem nbrs_pls {g z : Gd} {ms : List Mv} (h : VdG g) (hm : (ms, z) ∈ nbrs g) : Pls g ms z ∧ ms.length ≤ 2 := by
  have one : ∀ m : Mv, m.k ≠ 4 → (ms, z) ∈ tryM g [m] → Pls g ms z ∧ ms.length ≤ 2 := fun m hk hm => by
    obtain ⟨rfl, q⟩ := (tryM_one h _ _).1 hm
    exact ⟨.one q hk, by simp⟩
  have two : ∀ m m' : Mv, m.k ≠ 4 → m'.k ≠ 4 → (ms, z) ∈ tryM g [m, m'] → Pls g ms z ∧ ms.length ≤ 2 := fun m m' hk hk' hm => by
    obtain ⟨rfl, y, q1, q2⟩ := (tryM_two h _ _).1 hm
    exact ⟨.two q1 q2 hk hk', by simp⟩
  have key : ∀ r, (ms, z) ∈ nbR g r → Pls g ms z ∧ ms.length ≤ 2 := fun r hm => by
    unfold nbR nb1 nb2 nb3 at hm
    rcases List.mem_append.1 hm with hm | hm
    · rcases List.mem_append.1 hm with hm | hm
      · obtain ⟨i, hi, q⟩ := List.mem_flatMap.1 hm
        unfold rmL at q
        split at q
        · exact one _ (by simp [rmM]) q
        · exact two _ _ (by simp [tuM]) (by simp [rmM]) q
      · obtain ⟨i, hi, q⟩ := List.mem_flatMap.1 hm
        exact one _ (by simp [coM]) q
    · exact two _ _ (by simp [tuM]) (by simp [coM]) hm
  unfold nbrs at hm
  rcases List.mem_append.1 hm with hm | hm
  · exact key _ hm
  · exact key _ hm
/-- the entries and the grids that were reached -/
def Alg (g0 : Gd) (K : List En) (A : List Gd) : Prop :=
  A.length = K.length ∧ ∀ (i : Nat) e a, K[i]? = some e → A[i]? = some a → VdG a ∧ lstM a = e.key ∧
    ((e.fr = none ∧ e.ms = [] ∧ a = g0) ∨ ∃ (j : Nat) (b : Gd) (e' : En), j < i ∧ K[j]? = some e' ∧ A[j]? = some b ∧ e.fr = some e'.key ∧ (e.ms, a) ∈ nbrs b)
/-- what a run keeps; H: what has been taken up, but not been done yet -/
structure PlX (g0 : Gd) (short : Bool) (H : Gd → Prop) (s : St) (A : List Gd) : Prop where
  alg : Alg g0 s.1 A
  wt : ∀ l ∈ s.2, ∀ g ∈ l, g ∈ A
  dn : ∀ a ∈ A, (∃ l ∈ s.2, a ∈ l) ∨ H a ∨ (¬ (short = true ∧ a.1.length = 2) ∧ ∀ ms z, (ms, z) ∈ nbrs a → hasK s.1 (lstM z) = true)
theorem hasK_app {K E : List En} {c : Gd} (h : hasK K c = true) : hasK (K ++ E) c = true := by
  obtain ⟨e, he, hk⟩ := hasK_yes h
  exact List.any_eq_true.2 ⟨e, List.mem_append_left _ he, by simpa using hk⟩
theorem Alg.get {g0 : Gd} {K : List En} {A : List Gd} (h : Alg g0 K A) {a : Gd} (ha : a ∈ A) : ∃ (i : Nat) (e : En), K[i]? = some e ∧ A[i]? = some a ∧ lstM a = e.key ∧ VdG a := by
  obtain ⟨i, hi⟩ := List.getElem?_of_mem ha
  have hlt : i < K.length := by rw [← h.1]; exact (List.getElem?_eq_some_iff.1 hi).1
  obtain ⟨h1, h2, _⟩ := h.2 i _ a (List.getElem?_eq_getElem hlt) hi
  exact ⟨i, _, List.getElem?_eq_getElem hlt, hi, h2, h1⟩
theorem Alg.snoc {g0 : Gd} {K : List En} {A : List Gd} (h : Alg g0 K A) {e : En} {a : Gd} (hv : VdG a) (hk : lstM a = e.key)
    (hf : (e.fr = none ∧ e.ms = [] ∧ a = g0) ∨ ∃ (j : Nat) (b : Gd) (e' : En), K[j]? = some e' ∧ A[j]? = some b ∧ e.fr = some e'.key ∧ (e.ms, a) ∈ nbrs b) : Alg g0 (K ++ [e]) (A ++ [a]) := by
  refine ⟨by simp [h.1], fun i e1 a1 h1 h2 => ?_⟩
  rcases Nat.lt_or_ge i K.length with hi | hi
  · rw [List.getElem?_append_left hi] at h1
    rw [List.getElem?_append_left (by rw [h.1]; exact hi)] at h2
    obtain ⟨q1, q2, q3⟩ := h.2 i e1 a1 h1 h2
    refine ⟨q1, q2, q3.imp (fun x => x) ?_⟩
    rintro ⟨j, b, e', hj, k1, k2, k3⟩
    exact ⟨j, b, e', hj, by rw [List.getElem?_append_left (by omega)]; exact k1, by rw [List.getElem?_append_left (by rw [h.1]; omega)]; exact k2, k3⟩
  · rw [List.getElem?_append_right hi] at h1
    rw [List.getElem?_append_right (by rw [h.1]; exact hi), h.1] at h2
    cases hz : i - K.length with
    | succ z => rw [hz] at h1; simp at h1
    | zero =>
      rw [hz] at h1 h2
      simp at h1 h2
      subst h1; subst h2
      refine ⟨hv, hk, hf.imp (fun x => x) ?_⟩
      rintro ⟨j, b, e', k1, k2, k3⟩
      have hj := (List.getElem?_eq_some_iff.1 k1).1
      exact ⟨j, b, e', by omega, by rw [List.getElem?_append_left hj]; exact k1, by rw [List.getElem?_append_left (by rw [h.1]; exact hj)]; exact k2, k3⟩
theorem modify_self {α : Type} {f : α → α} : ∀ {l : List α} {n : Nat} (h : n < l.length), f l[n] ∈ l.modify n f
  | a :: l, 0, h => by simp
  | a :: l, n + 1, h => by
    have := modify_self (f := f) (l := l) (n := n) (by simpa using h)
    simp at this ⊢
    exact .inr this
theorem modify_old {α : Type} {f : α → α} {P : α → Prop} (hf : ∀ x, P x → P (f x)) : ∀ {l : List α} {n : Nat}, (∃ x ∈ l, P x) → ∃ x ∈ l.modify n f, P x
  | [], n, ⟨x, hx, _⟩ => by simp at hx
  | a :: l, 0, ⟨x, hx, hp⟩ => by
    rcases List.mem_cons.1 hx with rfl | hx
    · exact ⟨f x, by simp, hf x hp⟩
    · exact ⟨x, by simp [hx], hp⟩
  | a :: l, n + 1, ⟨x, hx, hp⟩ => by
    rcases List.mem_cons.1 hx with rfl | hx
    · exact ⟨x, by simp, hp⟩
    · obtain ⟨y, hy, hpy⟩ := modify_old hf (l := l) (n := n) ⟨x, hx, hp⟩
      exact ⟨y, by simp [hy], hpy⟩
/-- a grid is added -/
theorem PlX.add {g0 : Gd} {short : Bool} {H : Gd → Prop} {s s' : St} {A : List Gd} {most : Int} {z : Gd} {fr : Option Gd} {ms : List Mv} (h : PlX g0 short H s A) (hl2 : s.2.length = 41) (hz : VdG z) (ha : addM most s z fr ms = some s')
    (hf : (fr = none ∧ ms = [] ∧ z = g0) ∨ ∃ (j : Nat) (b : Gd) (e' : En), s.1[j]? = some e' ∧ A[j]? = some b ∧ fr = some e'.key ∧ (ms, z) ∈ nbrs b) :
    ∃ A', PlX g0 short H s' A' ∧ (∃ E, A' = A ++ E) ∧ hasK s'.1 (lstM z) = true ∧ s'.2.length = 41 := by
  unfold addM at ha
  split at ha
  · next hk => injection ha with ha; subst ha; exact ⟨A, h, ⟨[], by simp⟩, hk, hl2⟩
  next hk =>
  split at ha
  · cases ha
  injection ha with ha
  subst ha
  have h40 := hz.most
  refine ⟨A ++ [z], ⟨h.alg.snoc hz rfl hf, ?_, ?_⟩, ⟨_, rfl⟩, ?_, by simpa using hl2⟩
  · intro l hl g hg
    rcases modify_mem hl with hl | ⟨y, hy, rfl⟩
    · exact List.mem_append_left _ (h.wt l hl g hg)
    · rcases List.mem_append.1 hg with q | q
      · exact List.mem_append_left _ (h.wt y hy g q)
      · rw [List.mem_singleton.1 q]; simp
  · intro a ha
    rcases List.mem_append.1 ha with ha | ha
    · rcases h.dn a ha with q | q | ⟨q1, q2⟩
      · left
        exact modify_old (P := fun l => a ∈ l) (fun x hx => List.mem_append_left _ hx) q
      · exact .inr (.inl q)
      · exact .inr (.inr ⟨q1, fun ms z hz => hasK_app (q2 ms z hz)⟩)
    · rw [List.mem_singleton.1 ha]
      left
      have hlt : z.1.length < s.2.length := by omega
      exact ⟨_, modify_self (f := (· ++ [z])) hlt, by simp⟩
  · exact List.any_eq_true.2 ⟨⟨lstM z, ms, fr⟩, by simp, by simp⟩
theorem PlX.all {g0 : Gd} {short : Bool} {most : Int} {h : Gd} : ∀ (l : List (List Mv × Gd)) {s s' : St} {A : List Gd}, PlX g0 short (fun a => a = h) s A → s.2.length = 41 → VdG h → h ∈ A → (∀ p ∈ l, p ∈ nbrs h) → addAll most (some (lstM h)) s l = some s' →
    ∃ A', PlX g0 short (fun a => a = h) s' A' ∧ h ∈ A' ∧ (∀ p ∈ l, hasK s'.1 (lstM p.2) = true) ∧ (∃ E, s'.1 = s.1 ++ E) ∧ s'.2.length = 41
  | [], s, s', A, hp, h41, hv, hA, hs, ha => by
    injection ha with ha; subst ha
    exact ⟨A, hp, hA, by simp, ⟨[], by simp⟩, h41⟩
  | (ms, z) :: t, s, s', A, hp, h41, hv, hA, hs, ha => by
    unfold addAll at ha
    cases h1 : addM most s z (some (lstM h)) ms with
    | none => rw [h1] at ha; cases ha
    | some s1 =>
      rw [h1] at ha
      obtain ⟨i, e, k1, k2, k3, k4⟩ := hp.alg.get hA
      have hn := hs (ms, z) (by simp)
      obtain ⟨A1, q1, ⟨E, rfl⟩, q3, q4⟩ := hp.add h41 (nbrs_vd hv hn) h1 (.inr ⟨i, h, e, k1, k2, by rw [k3], hn⟩)
      obtain ⟨A2, r1, r2, r3, ⟨E2, r4⟩, r5⟩ := PlX.all t q1 q4 hv (List.mem_append_left _ hA) (fun p hp => hs p (by simp [hp])) ha
      obtain ⟨E1, e1⟩ := addM_len h1
      refine ⟨A2, r1, r2, fun p hp => ?_, ⟨E1 ++ E2, by rw [r4, e1, List.append_assoc]⟩, r5⟩
      rcases List.mem_cons.1 hp with rfl | hp
      · rw [r4]; exact hasK_app q3
      · exact r3 p hp
theorem nextM_empty : ∀ {l : List (List Gd)}, nextM l = none → ∀ x ∈ l, x = []
  | [], h, x, hx => by simp at hx
  | [] :: l, h, x, hx => by
    rw [nextM] at h
    rcases List.mem_cons.1 hx with rfl | hx
    · rfl
    · cases hn : nextM l with
      | none => exact nextM_empty hn x hx
      | some p => rw [hn] at h; cases h
  | (y :: t) :: l, h, x, hx => by rw [nextM] at h; cases h
/-- what all was done leaves -/
def Dn (g0 : Gd) (short : Bool) (K : List En) : Prop := ∃ A, Alg g0 K A ∧ A ≠ [] ∧ ∀ a ∈ A, ¬ (short = true ∧ a.1.length = 2) ∧ ∀ ms z, (ms, z) ∈ nbrs a → hasK K (lstM z) = true
/-- what was found -/
def Fd (g0 : Gd) (K : List En) (c : Gd) : Prop := ∃ A a, Alg g0 K A ∧ a ∈ A ∧ a.1.length = 2 ∧ c = lstM a
theorem Run.pl {most : Int} {short : Bool} {g0 : Gd} {s : St} {r : Res} (h : Run most short s r) : ∀ {A : List Gd}, PlX g0 short (fun _ => False) s A → StP s → A ≠ [] → (∀ K, r = .done K → Dn g0 short K) ∧ ∀ K c, r = .found K c → Fd g0 K c := by
  induction h with
  | @done s h =>
    intro A hp hs hA
    refine ⟨fun K e => ?_, fun K c e => by cases e⟩
    injection e with e
    subst e
    refine ⟨A, hp.alg, hA, fun a ha => ?_⟩
    rcases hp.dn a ha with ⟨l, hl, hal⟩ | q | q
    · rw [nextM_empty h l hl] at hal; simp at hal
    · exact q.elim
    · exact q
  | @found s g W h hsh h2 =>
    intro A hp hs hA
    refine ⟨fun K e => (by cases e), fun K c e => ?_⟩
    injection e with e1 e2
    subst e1; subst e2
    obtain ⟨k, t, e1, _⟩ := nextM_get h
    exact ⟨A, g, hp.alg, hp.wt _ (List.mem_of_getElem? e1) g (by simp), h2, rfl⟩
  | fuel h hsh ha => exact fun _ _ _ => ⟨fun K e => (by cases e), fun K c e => (by cases e)⟩
  | @step s s' g W r h hsh ha hr ih =>
    intro A hp hs hA
    obtain ⟨k, t, e1, e2⟩ := nextM_get h
    obtain ⟨hs1, hvg⟩ := hs.next h
    have hgA := hp.wt _ (List.mem_of_getElem? e1) g (by simp)
    have hpx : PlX g0 short (fun a => a = g) (s.1, W) A := by
      refine ⟨hp.alg, fun l hl g' hg' => ?_, fun a ha => ?_⟩
      · rw [e2] at hl
        rcases List.mem_or_eq_of_mem_set hl with q | q
        · exact hp.wt l q g' hg'
        · subst q; exact hp.wt _ (List.mem_of_getElem? e1) g' (by simp [hg'])
      · rcases hp.dn a ha with ⟨l, hl, hal⟩ | q | q
        · by_cases e : a = g
          · exact .inr (.inl e)
          · left
            obtain ⟨i, hi⟩ := List.getElem?_of_mem hl
            by_cases ei : i = k
            · subst ei
              rw [e1] at hi
              injection hi with hi
              subst hi
              have hat : a ∈ t := by
                rcases List.mem_cons.1 hal with q | q
                · exact absurd q e
                · exact q
              exact ⟨t, by rw [e2]; exact List.mem_of_getElem? (List.getElem?_set_self (List.getElem?_eq_some_iff.1 e1).1), hat⟩
            · exact ⟨l, by rw [e2]; exact List.mem_of_getElem? ((List.getElem?_set_ne (Ne.symm ei)).trans hi), hal⟩
        · exact q.elim
        · exact .inr (.inr q)
    obtain ⟨A', q1, q2, q3, _, q5⟩ := PlX.all (nbrs g) hpx hs1.l2 hvg hgA (fun p hp => hp) ha
    have hst : ∀ (l : List (List Mv × Gd)) {s s' : St}, StP s → (∀ p ∈ l, VdG p.2) → addAll most (some (lstM g)) s l = some s' → StP s' := by
      intro l
      induction l with
      | nil => intro s s' hs _ ha; injection ha with ha; subst ha; exact hs
      | cons p t iht =>
        intro s s' hs hv ha
        obtain ⟨ms, z⟩ := p
        unfold addAll at ha
        cases h1 : addM most s z (some (lstM g)) ms with
        | none => rw [h1] at ha; cases ha
        | some s1 =>
          rw [h1] at ha
          exact iht (hs.add (hv (ms, z) (by simp)) h1) (fun p hp => hv p (by simp [hp])) ha
    refine ih (A := A') ⟨q1.alg, q1.wt, fun a ha => ?_⟩ (hst _ hs1 (fun p hp => nbrs_vd hvg (show (p.1, p.2) ∈ nbrs g from hp)) ha) (fun e => by rw [e] at q2; simp at q2)
    rcases q1.dn a ha with q | q | q
    · exact .inl q
    · subst q
      exact .inr (.inr ⟨hsh, fun ms z hz => q3 (ms, z) hz⟩)
    · exact .inr (.inr q)
theorem pl_start {most : Int} {short : Bool} {g : Gd} {s : St} (hv : VdG g) (ha : addM most st00 g none [] = some s) : ∃ A, PlX g short (fun _ => False) s A ∧ A ≠ [] := by
  have h0 : PlX g short (fun _ => False) st00 [] := ⟨⟨rfl, fun i e a h => by simp [st00] at h⟩, fun l hl x hx => by unfold st00 at hl; simp at hl; subst hl; simp at hx, fun a ha => by simp at ha⟩
  obtain ⟨A, h1, _, h3, _⟩ := h0.add (by simp [st00]) hv ha (.inl ⟨rfl, rfl, rfl⟩)
  refine ⟨A, h1, fun e => ?_⟩
  subst e
  obtain ⟨e, he, _⟩ := hasK_yes h3
  have := h1.alg.1
  rw [List.eq_nil_of_length_eq_zero this.symm] at he
  simp at he
theorem Exq.pl {most : Int} {short : Bool} {g : Gd} {r : Res} (hv : VdG g) (h : Exq most short g r) : (∀ K, r = .done K → Dn g short K) ∧ ∀ K c, r = .found K c → Fd g K c := by
  cases h with
  | none h => exact ⟨fun K e => (by cases e), fun K c e => (by cases e)⟩
  | some h hr =>
    obtain ⟨A, h1, h2⟩ := pl_start (short := short) hv h
    exact hr.pl h1 (StP.start.add hv h) h2
/-! ### the number of entries -/
theorem addM_most {most : Int} {s s' : St} {g : Gd} {fr : Option Gd} {ms : List Mv} (h : s.1.length ≤ most.toNat) (ha : addM most s g fr ms = some s') : s'.1.length ≤ most.toNat := by
  unfold addM at ha
  split at ha
  · injection ha with ha; subst ha; exact h
  · split at ha
    · cases ha
    · injection ha with ha; subst ha; simp; omega
theorem addAll_most {most : Int} {fr : Option Gd} : ∀ (l : List (List Mv × Gd)) {s s' : St}, s.1.length ≤ most.toNat → addAll most fr s l = some s' → s'.1.length ≤ most.toNat
  | [], s, s', h, ha => by injection ha with ha; subst ha; exact h
  | (ms, g) :: t, s, s', h, ha => by
    unfold addAll at ha
    cases h1 : addM most s g fr ms with
    | none => rw [h1] at ha; cases ha
    | some s1 => rw [h1] at ha; exact addAll_most t (addM_most h h1) ha
theorem Run.most {most : Int} {short : Bool} {s : St} {r : Res} (h : Run most short s r) : s.1.length ≤ most.toNat → ∀ K, (r = .done K ∨ ∃ c, r = .found K c) → K.length ≤ most.toNat := by
  induction h with
  | done h => intro hs K e; rcases e with e | ⟨c, e⟩ <;> cases e; exact hs
  | found h hsh h2 => intro hs K e; rcases e with e | ⟨c, e⟩ <;> cases e; exact hs
  | fuel h hsh ha => intro hs K e; rcases e with e | ⟨c, e⟩ <;> cases e
  | @step s s' g W r h hsh ha hr ih => intro hs K e; exact ih (addAll_most (s := (s.1, W)) _ hs ha) K e
theorem Exq.most {most : Int} {short : Bool} {g : Gd} {r : Res} (h : Exq most short g r) : ∀ K, (r = .done K ∨ ∃ c, r = .found K c) → K.length ≤ most.toNat := by
  cases h with
  | none h => intro K e; rcases e with e | ⟨c, e⟩ <;> cases e
  | some h hr => exact hr.most (addM_most (by simp [st00]) h)
end Go.Proofs.YteliflcbegcdlaaGreatDoor
