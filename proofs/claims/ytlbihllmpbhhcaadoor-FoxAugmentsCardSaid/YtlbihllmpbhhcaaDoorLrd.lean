/- FoxReduces: the law's walk. -/
import Derived.Test.YtlbihllmpbhhcaaDoorRdp
import Derived.Test.YtlbihllmpbhhcaaDoorAwf
import Derived.Test.YtlbihllmpbhhcaaDoorEql
import Derived.Test.YtlbihllmpbhhcaaDoorChn2
import Derived.Test.YtlbihllmpbhhcaaDoorRdc
import Derived.Deep.CutRange
namespace Go.Proofs.YtlbihllmpbhhcaaDoor
open Go.RowKit
set_option linter.unusedVariables false

/-- a polynomial in a box of the law's own -/
structure BoxP (W : World) (k : Nat) (b : Bool) (A : Option Addr) (n c : Nat) (r : List (Int × Int)) : Prop where
  arr : Arr W k 27 [.bool b, .slice A n c]
  val : PolyV W (.agg #[.bool b, .slice A n c]) (some r)
  can : Can r
  lim : Lim r
theorem BoxP.below {W W' : World} {k : Nat} {b : Bool} {A : Option Addr} {n c : Nat} {r : List (Int × Int)} (h : BoxP W k b A n c r) (hb : Below W.heap.size W W') : BoxP W' k b A n c r := ⟨h.arr.below hb h.arr.lt, h.val.below hb, h.can, h.lim⟩
theorem BoxP.okp {W : World} {k : Nat} {b : Bool} {A : Option Addr} {n c : Nat} {r : List (Int × Int)} (h : BoxP W k b A n c r) : okP (some r) := ⟨h.can, h.lim⟩
theorem DerOk.box {ws comp : List Int} {gen : Int} {w W : World} {b : Bool} {A : Option Addr} {n c : Nat} {r : List (Int × Int)} (h : DerOk ws comp gen w (.agg #[.bool b, .slice A n c]) r W) : BoxP (W.alloc (.cells #[.bool b, .slice A n c] 27)) W.heap.size b A n c r :=
  ⟨Arr.new _ _ [_, _], h.val.boxed _, h.can, h.lim⟩
theorem eqP_of {r s : List (Int × Int)} (h : r = s) : eqP (some r) (some s) = true := by rw [h]; exact decide_eq_true rfl
theorem great_at2 (A A2 A3 : Option Addr) (n c n2 c2 n3 c3 : Nat) (W : World) (h1 : n ≤ 9223372036854775807) (h2 : n2 ≤ 9223372036854775807) (h3 : n3 ≤ 9223372036854775807) :
    Calls Tryd.prog 10 #[.slice A3 n3 c3, .slice (some ⟨W.heap.size, 0, none⟩) 2 2] (W.alloc (.cells #[.slice A n c, .slice A2 n2 c2] 42)) fun e w' => e = .returned (.bool (grB [(A, n, c), (A2, n2, c2)] n3)) ∧ (W.alloc (.cells #[.slice A n c, .slice A2 n2 c2] 42)) = w' :=
  great_any A3 n3 c3 W.heap.size [(A, n, c), (A2, n2, c2)] _ (Arr.new W 42 [.slice A n c, .slice A2 n2 c2]) h3 (by simp) (fun p hp => by
    simp at hp
    rcases hp with rfl | rfl
    · exact h1
    · exact h2)
theorem grB2 {A A2 : Option Addr} {n c n2 c2 n3 : Nat} (h : grB [(A, n, c), (A2, n2, c2)] n3 = false) : n ≤ 40 ∧ n2 ≤ 40 ∧ n3 ≤ 8 := by
  unfold grB at h
  simp at h
  omega
set_option maxHeartbeats 1000000 in
set_option maxRecDepth 100000 in
theorem reduces_law (vu vv vc : Value) (us vs : List Int) (gen : Int) (comp : List Int) (w : World) (hu : Ints w vu us) (hv : Ints w vv vs) (hc : Ints w vc comp) (lu : us.length ≤ 9223372036854775807) (lv : vs.length ≤ 9223372036854775807) (lc : comp.length ≤ 9223372036854775807) (ht : Tb w) :
    Calls Tryd.prog 5 #[vu, vv, .int .i64 gen, vc] w fun e w' => e = .returned (.bool true) ∧ Below w.heap.size w w' := by
  have HA := Lib.hid (awakeF_any w ht)
  have HU := Lib.hid hu
  have HV := Lib.hid hv
  have HC := Lib.hid hc
  have HT := Lib.hid ht
  obtain ⟨A, c, rfl, _, _⟩ := hu
  obtain ⟨A2, c2, rfl, _, _⟩ := hv
  obtain ⟨A3, c3, rfl, _, _⟩ := hc
  clear ht
  go_enter Tryd.func5, Tryd.ntmps5
  go_wp2_with fail
  refine HA.out.mono ?_
  rintro e w1 ⟨rfl, hb1⟩
  have HB1 := Lib.hid hb1
  have HG := Lib.hid (great_at2 A A2 A3 us.length c vs.length c2 comp.length c3 w1 lu lv lc)
  have hb2 : Below w.heap.size w (w1.alloc (.cells #[.slice A us.length c, .slice A2 vs.length c2] 42)) := hb1.alloc hb1.size _
  clear HA hb1
  obtain ⟨G, hG⟩ : ∃ G, G = grB [(A, us.length, c), (A2, vs.length, c2)] comp.length := ⟨_, rfl⟩
  rw [← hG] at HG
  cases G with
  | true =>
    clear hG
    go_wp2_with fail
    refine HG.out.mono ?_
    rintro e w2 ⟨rfl, rfl⟩
    go_wp2_with fail
    go_ret
    exact ⟨rfl, hb2⟩
  | false =>
    obtain ⟨l1, l2, l3⟩ := grB2 hG.symm
    clear hG
    have hbW : Below w1.heap.size w1 (w1.alloc (.cells #[.slice A us.length c, .slice A2 vs.length c2] 42)) := (Below.refl _ _).alloc (Nat.le_refl _) _
    have HF1 := Lib.hid (fits_any (.slice A us.length c) (.slice A3 comp.length c3) us comp gen (w1.alloc (.cells #[.slice A us.length c, .slice A2 vs.length c2] 42)) (HU.out.below hb2) (HC.out.below hb2) (by omega) (by omega))
    have HF2 := Lib.hid (fits_any (.slice A2 vs.length c2) (.slice A3 comp.length c3) vs comp gen (w1.alloc (.cells #[.slice A us.length c, .slice A2 vs.length c2] 42)) (HV.out.below hb2) (HC.out.below hb2) (by omega) (by omega))
    obtain ⟨F1, hF1⟩ : ∃ F, F = fitB us comp gen := ⟨_, rfl⟩
    obtain ⟨F2, hF2⟩ : ∃ F, F = fitB vs comp gen := ⟨_, rfl⟩
    rw [← hF1] at HF1
    rw [← hF2] at HF2
    cases F1 with
    | false =>
      clear hF1 hF2 hbW HF2
      go_wp2_with fail
      refine HG.out.mono ?_
      rintro e w2 ⟨rfl, rfl⟩
      go_wp2_with fail
      refine HF1.out.mono ?_
      rintro e w2 ⟨rfl, rfl⟩
      go_wp2_with fail
      go_ret
      exact ⟨rfl, hb2⟩
    | true =>
    cases F2 with
    | false =>
      clear hF1 hF2 hbW
      go_wp2_with fail
      refine HG.out.mono ?_
      rintro e w2 ⟨rfl, rfl⟩
      go_wp2_with fail
      refine HF1.out.mono ?_
      rintro e w2 ⟨rfl, rfl⟩
      go_wp2_with fail
      refine HF2.out.mono ?_
      rintro e w2 ⟨rfl, rfl⟩
      go_wp2_with fail
      go_ret
      exact ⟨rfl, hb2⟩
    | true =>
    have HFU := Lib.hid hF1.symm
    have HFV := Lib.hid hF2.symm
    have HUB := Lib.hid (fitB_bd hF1.symm l3)
    clear hF1 hF2 hbW
    obtain ⟨K, hK⟩ : ∃ K : Nat, (vs.length : Int) / 2 = (K : Int) := ⟨vs.length / 2, by omega⟩
    have hK1 : K ≤ vs.length := by omega
    go_wp2_with fail
    refine HG.out.mono ?_
    rintro e w2 ⟨rfl, rfl⟩
    go_wp2_with fail
    refine HF1.out.mono ?_
    rintro e w2 ⟨rfl, rfl⟩
    go_wp2_with fail
    refine HF2.out.mono ?_
    rintro e w2 ⟨rfl, rfl⟩
    clear HF1 HF2 HG
    go_upto_region 6 with fail
    generalize (w1.alloc (.cells #[.slice A us.length c, .slice A2 vs.length c2] 42)) = w3 at hb2 ⊢
    have hcv : vs.length ≤ c2 := by obtain ⟨_, _, e, h, _⟩ := HV.out; cases e; exact h
    obtain ⟨AU, hAU⟩ : ∃ AU, (if c2 = K then A2 else Option.map (fun x => x.add K) A2) = AU := ⟨_, rfl⟩
    have HU3 := Lib.hid (fun W (hb : Below w3.heap.size w3 W) => (HU.out.below hb2).below hb)
    have HV3 := Lib.hid (fun W (hb : Below w3.heap.size w3 W) => (HV.out.below hb2).below hb)
    have HT4 := Lib.hid (fun W (hb : Below w3.heap.size w3 W) => (show Ints W (.slice A2 K c2) (vs.take K) from by
      have := (HV3.out W hb).sub (lo := 0) (hi := K) (Nat.zero_le _) hK1 c2 (by omega) A2 (fun _ => by cases A2 <;> simp [Addr.add])
      simpa using this))
    have HT13 := Lib.hid (fun W (hb : Below w3.heap.size w3 W) => (show Ints W (.slice AU (vs.length - K) (c2 - K)) (vs.drop K) from by
      have := (HV3.out W hb).sub (lo := K) (hi := vs.length) hK1 (Nat.le_refl _) (c2 - K) (by omega) AU (fun h => by rw [← hAU, if_neg (by omega)])
      simpa using this))
    have HRL := Lib.hid (show (pshL [] (invW us)).length ≤ 100 from by have h1 := pshL_len (invW us) []; rw [invW_len] at h1; simp at h1; omega)
    obtain ⟨i0, hi0, hz0, hz1, hz2⟩ := info_parts info_int
    have HI0 := Lib.hid hi0
    have HZ0 := Lib.hid hz0
    have HZ1 := Lib.hid hz1
    have HZ2 := Lib.hid hz2
    have z1 : (K : Int) ≤ (vs.length : Int) := by omega
    have z2 : (vs.length : Int) ≤ (c2 : Int) := by omega
    have z3 : (K : Int) ≤ (c2 : Int) := by omega
    clear hi0 hz0 hz1 hz2
    go_cut [10] (fun s10 wx => ∃ B n d, s10 = .slice B n d ∧ Ints wx (.slice B n d) (vs.take K ++ us ++ pshL [] (invW us) ++ vs.drop K) ∧ Below w.heap.size w wx)
    case first =>
      refine wp_region_factsU (by kernel_rfl) (by kernel_rfl) (by kernel_rfl) (by kernel_rfl) (by kernel_rfl) (ChI w3.heap.size w3 (fun i => ([none, some (.slice A2 vs.length c2), some (.int .i64 (K : Int)), some (.slice A2 K c2), none, some (.slice A us.length c), none, some (.slice A us.length c), none, none, some (.slice A2 vs.length c2), some (.int .i64 (K : Int)), some (.slice AU (vs.length - K) (c2 - K)), none, none] : List (Option Value)).getD i none) [(0, 4, []), (4, 6, [] ++ vs.take K), (6, 9, [] ++ vs.take K ++ us), (9, 13, [] ++ vs.take K ++ us ++ pshL [] (invW us)), (13, 14, [] ++ vs.take K ++ us ++ pshL [] (invW us) ++ vs.drop K)] 8 9 14 ([] ++ vs.take K ++ us ++ pshL [] (invW us) ++ vs.drop K) (pshL [] (invW us))) ?_ ⟨?_, ?_, ?_, ?_, ?_, ?_, ?_, ?_, ?_, ?_, ?_, ?_, ?_, ?_, ?_, trivial⟩ ?_
      · exact fun x => ⟨(Below.refl _ _).drew, Nat.le_refl _, fun i v _ h => Bool.noConfusion h, fun s _ h => Bool.noConfusion h, fun h => Bool.noConfusion h, fun h => Bool.noConfusion h⟩
      · intro D x w1 bA hI hD hdep hcl hb
        have hq0 : D 0 = false := hD
        have hq4 : D 4 = false := by cases h : D 4 with | false => rfl | true => (have := hcl 4 h 0 (by decide); rw [hq0] at this; cases this)
        have hq6 : D 6 = false := by cases h : D 6 with | false => rfl | true => (have := hcl 6 h 4 (by decide); rw [hq4] at this; cases this)
        have hq9 : D 9 = false := by cases h : D 9 with | false => rfl | true => (have := hcl 9 h 6 (by decide); rw [hq6] at this; cases this)
        have hq13 : D 13 = false := by cases h : D 13 with | false => rfl | true => (have := hcl 13 h 9 (by decide); rw [hq9] at this; cases this)
        have hq14 : D 14 = false := by cases h : D 14 with | false => rfl | true => (have := hcl 14 h 13 (by decide); rw [hq13] at this; cases this)
        refine wp_of_run (.slice (some ⟨w1.heap.size, 0, none⟩) 0 0) (w' := w1.alloc (.cells #[] 3)) ?_ (hI.stage (i := 0) (n := 4) (L := []) (by simp) (fun s hs h => by simp only [List.mem_cons, List.not_mem_nil, or_false] at hs; rcases hs with rfl | rfl | rfl | rfl | rfl <;> first | rfl | cases h) (fun s hs hne hd => by
          simp only [List.mem_cons, List.not_mem_nil, or_false] at hs
          rcases hs with rfl | rfl | rfl | rfl | rfl
          · exact absurd rfl hne
          · exact absurd hd (by rw [hq4]; decide)
          · exact absurd hd (by rw [hq6]; decide)
          · exact absurd hd (by rw [hq9]; decide)
          · exact absurd hd (by rw [hq13]; decide)) rfl (by decide) (by decide) hq14 ((Below.refl _ _).alloc hI.siz _) (OwnI.emptyAt hI.siz (heap_alloc_new w1 _)) (fun d1 _ d3 => ⟨(hI.inv d1 d3).1.alloc _, fun k hk e => by have e2 : w1.heap.size = k := Option.some.inj e; have := (hI.inv d1 d3).1.lt k hk; omega⟩))
        clear hb hI hdep hcl
        go_simp
      · intro D x w1 bA hI hD hdep hcl hb
        have e1 : bA.tmps[1]?.getD undef = .slice A2 vs.length c2 := hb 1
        refine wp_of_run (.slice A2 vs.length c2) (w' := w1) ?_ (hI.val rfl (by simp) (by decide) (by decide) (by decide))
        clear hb hI hdep hcl
        go_simp
      · intro D x w1 bA hI hD hdep hcl hb
        have e9 : bA.tmps[9]?.getD undef = .int .i64 (K : Int) := hb 9
        refine wp_of_run (.int .i64 (K : Int)) (w' := w1) ?_ (hI.val rfl (by simp) (by decide) (by decide) (by decide))
        clear hb hI hdep hcl
        go_simp
      · intro D x w1 bA hI hD hdep hcl hb
        have e42 : bA.tmps[42]?.getD undef = .slice A2 vs.length c2 := (hb 42).trans (hI.kn 1 _ rfl (hdep 1 (by decide)))
        have e43 : bA.tmps[43]?.getD undef = .int .i64 (K : Int) := (hb 43).trans (hI.kn 2 _ rfl (hdep 2 (by decide)))
        refine wp_of_run (.slice A2 K c2) (w' := w1) ?_ (hI.val rfl (by simp) (by decide) (by decide) (by decide))
        clear hb hI hdep hcl
        go_simp
      · intro D x w1 bA hI hD hdep hcl hb
        have hp0 : D 0 = true := hdep 0 (by decide)
        have hq4 : D 4 = false := hD
        have hq6 : D 6 = false := by cases h : D 6 with | false => rfl | true => (have := hcl 6 h 4 (by decide); rw [hq4] at this; cases this)
        have hq9 : D 9 = false := by cases h : D 9 with | false => rfl | true => (have := hcl 9 h 6 (by decide); rw [hq6] at this; cases this)
        have hq13 : D 13 = false := by cases h : D 13 with | false => rfl | true => (have := hcl 13 h 9 (by decide); rw [hq9] at this; cases this)
        have hq14 : D 14 = false := by cases h : D 14 with | false => rfl | true => (have := hcl 14 h 13 (by decide); rw [hq13] at this; cases this)
        have ee1 : bA.tmps[41]?.getD undef = x 0 := hb 41
        have ee2 : bA.tmps[44]?.getD undef = (.slice A2 K c2) := (hb 44).trans (hI.kn 3 _ rfl (hdep 3 (by decide)))
        exact hI.app (.tmp 41) (.tmp 44) 42 22 rfl Tryd.underlying42 Tryd.underlying22 HI0.out HZ0.out HZ1.out HZ2.out (r := 0) (i := 4) (n := 6) (L := []) (ys := vs.take K) (by simp) (by simp) (fun s hs h => by simp only [List.mem_cons, List.not_mem_nil, or_false] at hs; rcases hs with rfl | rfl | rfl | rfl | rfl <;> first | rfl | cases h) (fun s hs hne hd => by
          simp only [List.mem_cons, List.not_mem_nil, or_false] at hs
          rcases hs with rfl | rfl | rfl | rfl | rfl
          · exact .inl rfl
          · exact absurd rfl hne
          · exact absurd hd (by rw [hq6]; decide)
          · exact absurd hd (by rw [hq9]; decide)
          · exact absurd hd (by rw [hq13]; decide)) rfl (by decide) (by decide) hq14 hp0 hD (by simpa [Act.eval] using ee1) (by simpa [Act.eval] using ee2) (HT4.out _ hI.bel) (by simp only [List.length_append, List.length_nil, List.length_take, List.length_drop]; have := HRL.out; omega)
      · intro D x w1 bA hI hD hdep hcl hb
        have e0 : bA.tmps[0]?.getD undef = .slice A us.length c := hb 0
        refine wp_of_run (.slice A us.length c) (w' := w1) ?_ (hI.val rfl (by simp) (by decide) (by decide) (by decide))
        clear hb hI hdep hcl
        go_simp
      · intro D x w1 bA hI hD hdep hcl hb
        have hp4 : D 4 = true := hdep 4 (by decide)
        have hp0 : D 0 = true := hcl 4 hp4 0 (by decide)
        have hq6 : D 6 = false := hD
        have hq9 : D 9 = false := by cases h : D 9 with | false => rfl | true => (have := hcl 9 h 6 (by decide); rw [hq6] at this; cases this)
        have hq13 : D 13 = false := by cases h : D 13 with | false => rfl | true => (have := hcl 13 h 9 (by decide); rw [hq9] at this; cases this)
        have hq14 : D 14 = false := by cases h : D 14 with | false => rfl | true => (have := hcl 14 h 13 (by decide); rw [hq13] at this; cases this)
        have ee1 : bA.tmps[45]?.getD undef = x 4 := hb 45
        have ee2 : bA.tmps[46]?.getD undef = (.slice A us.length c) := (hb 46).trans (hI.kn 5 _ rfl (hdep 5 (by decide)))
        exact hI.app (.tmp 45) (.tmp 46) 42 22 rfl Tryd.underlying42 Tryd.underlying22 HI0.out HZ0.out HZ1.out HZ2.out (r := 4) (i := 6) (n := 9) (L := [] ++ vs.take K) (ys := us) (by simp) (by simp) (fun s hs h => by simp only [List.mem_cons, List.not_mem_nil, or_false] at hs; rcases hs with rfl | rfl | rfl | rfl | rfl <;> first | rfl | cases h) (fun s hs hne hd => by
          simp only [List.mem_cons, List.not_mem_nil, or_false] at hs
          rcases hs with rfl | rfl | rfl | rfl | rfl
          · exact .inr hp4
          · exact .inl rfl
          · exact absurd rfl hne
          · exact absurd hd (by rw [hq9]; decide)
          · exact absurd hd (by rw [hq13]; decide)) rfl (by decide) (by decide) hq14 hp4 hD (by simpa [Act.eval] using ee1) (by simpa [Act.eval] using ee2) (HU3.out _ hI.bel) (by simp only [List.length_append, List.length_nil, List.length_take, List.length_drop]; have := HRL.out; omega)
      · intro D x w1 bA hI hD hdep hcl hb
        have e0 : bA.tmps[0]?.getD undef = .slice A us.length c := hb 0
        refine wp_of_run (.slice A us.length c) (w' := w1) ?_ (hI.val rfl (by simp) (by decide) (by decide) (by decide))
        clear hb hI hdep hcl
        go_simp
      · intro D x w1 bA hI hD hdep hcl hb
        have e48 : bA.tmps[48]?.getD undef = .slice A us.length c := (hb 48).trans (hI.kn 7 _ rfl (hdep 7 (by decide)))
        refine wp_of_call (f := 19) (args := #[.slice A us.length c]) ?_ ((Inverse_any _ us w1 (HU3.out _ hI.bel) (by omega) HUB.out).mono ?_)
        · clear hb hI hdep hcl
          go_simp
        · rintro e w' ⟨v', rfl, ho, hbl⟩
          exact ⟨v', rfl, hI.call (by simp) rfl (by decide) hbl ho⟩
      · intro D x w1 bA hI hD hdep hcl hb
        have hp6 : D 6 = true := hdep 6 (by decide)
        have hp4 : D 4 = true := hcl 6 hp6 4 (by decide)
        have hp0 : D 0 = true := hcl 4 hp4 0 (by decide)
        have hq9 : D 9 = false := hD
        have hq13 : D 13 = false := by cases h : D 13 with | false => rfl | true => (have := hcl 13 h 9 (by decide); rw [hq9] at this; cases this)
        have hq14 : D 14 = false := by cases h : D 14 with | false => rfl | true => (have := hcl 14 h 13 (by decide); rw [hq13] at this; cases this)
        have hiv := hI.inv (hdep 8 (by decide)) hD
        have ee1 : bA.tmps[47]?.getD undef = x 6 := hb 47
        have ee2 : bA.tmps[49]?.getD undef = x 8 := hb 49
        exact hI.app (.tmp 47) (.tmp 49) 42 42 rfl Tryd.underlying42 Tryd.underlying42 HI0.out HZ0.out HZ1.out HZ2.out (r := 6) (i := 9) (n := 13) (L := [] ++ vs.take K ++ us) (ys := pshL [] (invW us)) (by simp) (by simp) (fun s hs h => by simp only [List.mem_cons, List.not_mem_nil, or_false] at hs; rcases hs with rfl | rfl | rfl | rfl | rfl <;> first | rfl | cases h) (fun s hs hne hd => by
          simp only [List.mem_cons, List.not_mem_nil, or_false] at hs
          rcases hs with rfl | rfl | rfl | rfl | rfl
          · exact .inr hp4
          · exact .inr hp6
          · exact .inl rfl
          · exact absurd rfl hne
          · exact absurd hd (by rw [hq13]; decide)) rfl (by decide) (by decide) hq14 hp6 hD (by simpa [Act.eval] using ee1) (by simpa [Act.eval] using ee2) hiv.1.ints (by simp only [List.length_append, List.length_nil, List.length_take, List.length_drop]; have := HRL.out; omega)
      · intro D x w1 bA hI hD hdep hcl hb
        have e1 : bA.tmps[1]?.getD undef = .slice A2 vs.length c2 := hb 1
        refine wp_of_run (.slice A2 vs.length c2) (w' := w1) ?_ (hI.val rfl (by simp) (by decide) (by decide) (by decide))
        clear hb hI hdep hcl
        go_simp
      · intro D x w1 bA hI hD hdep hcl hb
        have e9 : bA.tmps[9]?.getD undef = .int .i64 (K : Int) := hb 9
        refine wp_of_run (.int .i64 (K : Int)) (w' := w1) ?_ (hI.val rfl (by simp) (by decide) (by decide) (by decide))
        clear hb hI hdep hcl
        go_simp
      · intro D x w1 bA hI hD hdep hcl hb
        have e51 : bA.tmps[51]?.getD undef = .slice A2 vs.length c2 := (hb 51).trans (hI.kn 10 _ rfl (hdep 10 (by decide)))
        have e52 : bA.tmps[52]?.getD undef = .int .i64 (K : Int) := (hb 52).trans (hI.kn 11 _ rfl (hdep 11 (by decide)))
        refine wp_of_run (.slice AU (vs.length - K) (c2 - K)) (w' := w1) ?_ (hI.val rfl (by simp) (by decide) (by decide) (by decide))
        clear hb hI hdep hcl
        go_simp
      · intro D x w1 bA hI hD hdep hcl hb
        have hp9 : D 9 = true := hdep 9 (by decide)
        have hp6 : D 6 = true := hcl 9 hp9 6 (by decide)
        have hp4 : D 4 = true := hcl 6 hp6 4 (by decide)
        have hp0 : D 0 = true := hcl 4 hp4 0 (by decide)
        have hq13 : D 13 = false := hD
        have hq14 : D 14 = false := by cases h : D 14 with | false => rfl | true => (have := hcl 14 h 13 (by decide); rw [hq13] at this; cases this)
        have ee1 : bA.tmps[50]?.getD undef = x 9 := hb 50
        have ee2 : bA.tmps[53]?.getD undef = (.slice AU (vs.length - K) (c2 - K)) := (hb 53).trans (hI.kn 12 _ rfl (hdep 12 (by decide)))
        exact hI.app (.tmp 50) (.tmp 53) 42 22 rfl Tryd.underlying42 Tryd.underlying22 HI0.out HZ0.out HZ1.out HZ2.out (r := 9) (i := 13) (n := 14) (L := [] ++ vs.take K ++ us ++ pshL [] (invW us)) (ys := vs.drop K) (by simp) (by simp) (fun s hs h => by simp only [List.mem_cons, List.not_mem_nil, or_false] at hs; rcases hs with rfl | rfl | rfl | rfl | rfl <;> first | rfl | cases h) (fun s hs hne hd => by
          simp only [List.mem_cons, List.not_mem_nil, or_false] at hs
          rcases hs with rfl | rfl | rfl | rfl | rfl
          · exact .inr hp4
          · exact .inr hp6
          · exact .inr hp9
          · exact .inl rfl
          · exact absurd rfl hne) rfl (by decide) (by decide) hq14 hp9 hD (by simpa [Act.eval] using ee1) (by simpa [Act.eval] using ee2) (HT13.out _ hI.bel) (by simp only [List.length_append, List.length_nil, List.length_take, List.length_drop]; have := HRL.out; omega)
      · intro D x w1 bA hI hD hdep hcl hb
        have hp := hdep 13 (by decide)
        refine wp_of_run (x 13) (w' := w1) ?_ (hI.last (g := 13) rfl (by simp) hp hD (by simp) rfl (by decide) (by decide))
        have e54 : bA.tmps[54]?.getD undef = x 13 := hb 54
        clear hb hI hdep hcl
        go_simp
      · intro D x w4 hI hall
        have h14 := hI.fin (hall 14 (by decide))
        obtain ⟨B5, c5, e5⟩ := h14.form
        have bb := hb2.trans (hI.bel.mono hb2.size)
        simp only [putAll, dstOf, Act.put, List.map_cons, List.map_nil, List.setIfInBounds_toArray, List.set_cons_succ, List.set_cons_zero, Nat.reduceAdd]
        have h15 := h14.ints
        rw [e5] at h15 ⊢
        clear hI hall h14
        go_wp2_with fail
        go_meet
        exact ⟨_, _, _, rfl, by simpa using h15, bb⟩
    case rest =>
      obtain ⟨B5, n5, c5, rfl, hi5, hb5⟩ := hcut
      have HI5 := Lib.hid hi5
      have HB5 := Lib.hid hb5
      have HX := Lib.hid (dF_around comp gen us vs K (fitB_ne HFU.out))
      have HRX := Lib.hid (dF_red comp gen (fitB_ne HFV.out))
      have HFA := Lib.hid (fitB_app (fitB_app (fitB_app (fitB_take K HFV.out) HFU.out) (fitB_inv HFU.out)) (fitB_drop K HFV.out))
      have HLA := Lib.hid (around_len us vs K (by omega) (by omega))
      have HLR := Lib.hid (pshL_len vs [])
      have HVB := Lib.hid (fitB_bd HFV.out l3)
      have HFR := Lib.hid (fitB_red HFV.out)
      generalize vs.take K ++ us ++ pshL [] (invW us) ++ vs.drop K = ar at *
      clear HT4 HT13 HRL HU3 HV3 hi5 hb5 HI0 HZ0 HZ1 HZ2 z1 z2 z3 hcv hK hK1 hb2 hAU
      have HD1 := Lib.hid (Derivative_ok (.slice B5 n5 c5) (.slice A3 comp.length c3) ar comp gen wc HI5.out (HC.out.below HB5.out) HLA.out (by omega) HFA.out)
      go_wp2_with fail
      refine HD1.out.mono ?_
      rintro e w4 ⟨b1, A1, n1, c1, r1, rfl, hd1⟩
      have HE1 := Lib.hid hd1
      go_upto_region 8 with fail
      have hbx := hd1.box
      have hbb : Below w.heap.size w (w4.alloc (.cells #[.bool b1, .slice A1 n1 c1] 27)) := (HB5.out.trans (hd1.bel.mono HB5.out.size)).alloc (Nat.le_trans HB5.out.size hd1.bel.size) _
      generalize (w4.alloc (.cells #[.bool b1, .slice A1 n1 c1] 27)) = w5 at hbx hbb ⊢
      have HB6 := Lib.hid hbb
      have HP1 := Lib.hid hbx
      have HD2 := Lib.hid (Derivative_ok (.slice A2 vs.length c2) (.slice A3 comp.length c3) vs comp gen w5 (HV.out.below hbb) (HC.out.below hbb) (by omega) (by omega) HFV.out)
      clear hbx hbb hd1 HD1
      go_wp2_with fail
      refine HD2.out.mono ?_
      rintro e w6 ⟨b2, A4, n2, c4, r2, rfl, hd2⟩
      have HE2 := Lib.hid hd2
      go_upto_region 9 with fail
      have hbx := hd2.box
      have hbb : Below w5.heap.size w5 (w6.alloc (.cells #[.bool b2, .slice A4 n2 c4] 27)) := hd2.bel.alloc hd2.bel.size _
      generalize (w6.alloc (.cells #[.bool b2, .slice A4 n2 c4] 27)) = w7 at hbx hbb ⊢
      have HP2 := Lib.hid hbx
      have HQ1 := Lib.hid (HP1.out.below hbb)
      have HB7 := Lib.hid (HB6.out.trans (hbb.mono HB6.out.size))
      have HRD := Lib.hid (Reduce_any (.slice A2 vs.length c2) vs w7 (HV.out.below HB7.out) (by omega) HVB.out)
      clear hbx hbb hd2 HD2
      go_wp2_with fail
      refine HRD.out.mono ?_
      rintro e w8 ⟨vr, rfl, hir, hbr⟩
      have HIR := Lib.hid hir
      have HB8 := Lib.hid (HB7.out.trans (hbr.mono HB7.out.size))
      have HBR := Lib.hid hbr
      obtain ⟨A6, c6, rfl, _, _⟩ := hir
      have HD3 := Lib.hid (Derivative_ok (.slice A6 (pshL [] vs).length c6) (.slice A3 comp.length c3) (pshL [] vs) comp gen w8 HIR.out (HC.out.below HB8.out) (by have := HLR.out; simp at this; omega) (by omega) HFR.out)
      generalize (pshL [] vs).length = lr at *
      clear hbr HRD
      go_wp2_with fail
      refine HD3.out.mono ?_
      rintro e w9 ⟨b3, A7, n3, c7, r3, rfl, hd3⟩
      have HE3 := Lib.hid hd3
      go_upto_region 10 with fail
      have hbx := hd3.box
      have hbb : Below w7.heap.size w7 (w9.alloc (.cells #[.bool b3, .slice A7 n3 c7] 27)) := (HBR.out.trans (hd3.bel.mono HBR.out.size)).alloc (Nat.le_trans HBR.out.size hd3.bel.size) _
      generalize (w9.alloc (.cells #[.bool b3, .slice A7 n3 c7] 27)) = wA at hbx hbb ⊢
      have HP3 := Lib.hid hbx
      have HQ2 := Lib.hid (HP2.out.below hbb)
      have HQQ := Lib.hid (HQ1.out.below hbb)
      have HBA := Lib.hid (HB7.out.trans (hbb.mono HB7.out.size))
      have E12 := Lib.hid (show r1 = r2 from Can.ext HE1.out.can HE2.out.can (fun e => by rw [HE1.out.eq, HE2.out.eq, HX.out]))
      have E32 := Lib.hid (show r3 = r2 from Can.ext HE3.out.can HE2.out.can (fun e => by rw [HE3.out.eq, HE2.out.eq, HRX.out]))
      have HEQ1 := Lib.hid (Equal_any (.agg #[.bool b1, .slice A1 n1 c1]) (.agg #[.bool b2, .slice A4 n2 c4]) (some r1) (some r2) wA HQQ.out.val HQ2.out.val HQQ.out.okp HQ2.out.okp)
      have HEQ2 := Lib.hid (fun W (hb : Below wA.heap.size wA W) => Equal_any (.agg #[.bool b3, .slice A7 n3 c7]) (.agg #[.bool b2, .slice A4 n2 c4]) (some r3) (some r2) W (HP3.out.val.below hb) (HQ2.out.val.below hb) HP3.out.okp HQ2.out.okp)
      rw [eqP_of E12.out] at HEQ1
      rw [eqP_of E32.out] at HEQ2
      have y0 := HQQ.out.arr.cell 0
      have y1 := HQQ.out.arr.cell 1
      have x0 := HQ2.out.arr.cell 0
      have x1 := HQ2.out.arr.cell 1
      clear hbx hbb hd3 HD3
      go_wp2_with fail
      refine HEQ1.out.mono ?_
      rintro e wB ⟨rfl, hbB⟩
      have HEQ3 := Lib.hid (HEQ2.out wB hbB)
      have qa := (HP3.out.below hbB).arr
      have qb := (HQ2.out.below hbB).arr
      have y0 := qa.cell 0
      have y1 := qa.cell 1
      have x0 := qb.cell 0
      have x1 := qb.cell 1
      have HBB := Lib.hid (HBA.out.trans (hbB.mono HBA.out.size))
      clear hbB qa qb
      go_wp2_with fail
      refine HEQ3.out.mono ?_
      rintro e wC ⟨rfl, hbC⟩
      have HBC := Lib.hid (HBB.out.trans (hbC.mono HBB.out.size))
      clear hbC
      go_wp2_with fail
      go_ret
      exact ⟨rfl, HBC.out⟩
end Go.Proofs.YtlbihllmpbhhcaaDoor
