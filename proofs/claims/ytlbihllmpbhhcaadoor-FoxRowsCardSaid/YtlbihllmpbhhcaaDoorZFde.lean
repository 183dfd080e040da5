/- wirtinger.Valid. -/
/- fox.Derivative. -/
import Derived.Test.YtlbihllmpbhhcaaDoorZWvl
import Derived.Test.YtlbihllmpbhhcaaDoorZFdv
namespace Go.Proofs.YtlbihllmpbhhcaaDoor
open Go.RowKit
set_option linter.unusedVariables false

/-- words in memory -/
def Wds (w : World) (v : Value) (wss : List (List Int)) : Prop :=
  ∃ A c, v = .slice A wss.length c ∧ ∀ k (h : k < wss.length), ∃ b o vk, A = some ⟨b, o, none⟩ ∧ w.cell? ⟨b, o + k, none⟩ = some vk ∧ Ints w vk wss[k]
theorem Wds.below {w w' : World} {v : Value} {wss : List (List Int)} (h : Wds w v wss) (hb : Below w.heap.size w w') : Wds w' v wss := by
  obtain ⟨A, c, hv, hx⟩ := h
  refine ⟨A, c, hv, fun k hk => ?_⟩
  obtain ⟨b, o, vk, h1, h2, h3⟩ := hx k hk
  exact ⟨b, o, vk, h1, (hb.cell (block_lt_of_cell h2)).trans h2, h3.below hb⟩
theorem Wds.at_ {w : World} {A : Option Addr} {n c k : Nat} {wss : List (List Int)} (h : Wds w (.slice A n c) wss) (hk : k < wss.length) : ∃ b o vk, A = some ⟨b, o, none⟩ ∧ w.cell? ⟨b, o + k, none⟩ = some vk ∧ Ints w vk wss[k] := by
  obtain ⟨A', c', hv, hx⟩ := h
  injection hv with e1 e2 e3
  subst e1
  exact hx k hk
def vldC (gens : Int) (comp : List Int) : Bool := comp.all fun k => decide (0 ≤ k ∧ k < gens)
def vldS (gens : Int) (wss : List (List Int)) : Bool := wss.all fun ws => vldW ws gens
def vldG (gens : Int) (comp : List Int) (wss : List (List Int)) : Bool := decide (0 ≤ gens ∧ gens ≤ 1000 ∧ (comp.length : Int) = gens) && (vldC gens comp && vldS gens wss)
theorem all_snoc {α : Type} {f : α → Bool} {l : List α} {k : Nat} (hk : k < l.length) : (l.take (k + 1)).all f = ((l.take k).all f && f l[k]) := by
  rw [← List.take_append_getElem hk, List.all_append]
  simp
theorem all_bad {α : Type} {f : α → Bool} {l : List α} {k : Nat} (hk : k < l.length) (h : f l[k] = false) : l.all f = false := by
  rw [List.all_eq_false]
  exact ⟨l[k], List.getElem_mem hk, by rw [h]; simp⟩
set_option maxHeartbeats 2000000 in
set_option maxRecDepth 100000 in
theorem gvalid_any (gens : Int) (vc vs : Value) (comp : List Int) (wss : List (List Int)) (w : World) (hc : Ints w vc comp) (hs : Wds w vs wss) (lc : comp.length ≤ 4611686018427387904) (ls : wss.length ≤ 4611686018427387904) (lw : ∀ ws ∈ wss, ws.length ≤ 4611686018427387904) :
    Calls Tryd.prog 18 #[.agg #[.int .i64 gens, vc, vs]] w fun e w' => e = .returned (.bool (vldG gens comp wss)) ∧ Below w.heap.size w w' := by
  have HC := Lib.hid hc
  have HS := Lib.hid hs
  have HLW := Lib.hid lw
  obtain ⟨A1, c1, rfl, -, -⟩ := hc
  obtain ⟨A2, c2, rfl, -⟩ := hs
  clear lw
  obtain ⟨V, hV⟩ : ∃ V, V = vldG gens comp wss := ⟨_, rfl⟩
  rw [← hV]
  have HV := Lib.hid hV
  clear hV
  have hW : ∀ W, W = (w.alloc (.cells #[.int .i64 gens, .slice A1 comp.length c1, .slice A2 wss.length c2] 41)) → Arr W w.heap.size 41 [.int .i64 gens, .slice A1 comp.length c1, .slice A2 wss.length c2] ∧ Below w.heap.size w W := by
    intro W hW
    subst hW
    exact ⟨Arr.new _ _ [_, _, _], (Below.refl _ _).alloc (Nat.le_refl _) _⟩
  go_enter Tryd.func18, Tryd.ntmps18
  go_upto_region 1 with fail
  generalize (w.alloc (.cells #[.int .i64 gens, .slice A1 comp.length c1, .slice A2 wss.length c2] 41)) = w3 at hW ⊢
  obtain ⟨qg, hb3⟩ := hW w3 rfl
  have y0 := qg.cell 0
  have y1 := qg.cell 1
  have y2 := qg.cell 2
  have HB := Lib.hid hb3
  have HC3 := Lib.hid (HC.out.below hb3)
  have HS3 := Lib.hid (HS.out.below hb3)
  clear hW hb3 qg HC HS
  by_cases g1 : gens < 0
  · have HE := Lib.hid (show V = false from by rw [HV.out]; unfold vldG; rw [decide_eq_false (by omega)]; rfl)
    go_wp2_with fail
    go_ret
    exact ⟨by rw [HE.out]; rfl, HB.out⟩
  by_cases g2 : gens > 1000
  · have HE := Lib.hid (show V = false from by rw [HV.out]; unfold vldG; rw [decide_eq_false (by omega)]; rfl)
    go_wp2_with fail
    go_ret
    exact ⟨by rw [HE.out]; rfl, HB.out⟩
  by_cases g3 : (comp.length : Int) = gens
  · have z3 : ((comp.length : Int) != gens) = false := by simp [g3]
    have HV2 := Lib.hid (show V = (vldC gens comp && vldS gens wss) from by rw [HV.out]; unfold vldG; rw [decide_eq_true (by omega), Bool.true_and])
    have HG3 := Lib.hid g3
    clear HV g3
    go_wp2_with fail
    go_loopg [4, 26] comp.length (fun gk s4 s26 wr => ∃ k : Nat, k ≤ comp.length ∧ gk = comp.length - k ∧ s26 = .int .i64 (k : Int) ∧ Hid (((comp.take k).all fun k => decide (0 ≤ k ∧ k < gens)) = true) ∧ w3 = wr)
    case atStart => exact ⟨0, Nat.zero_le _, rfl, rfl, Lib.hid (by simp), rfl⟩
    case round =>
      obtain ⟨k, hk, rfl, rfl, HK, rfl⟩ := hrel
      by_cases hlt : k < comp.length
      · have z1 : (k : Int) < (comp.length : Int) := by omega
        obtain ⟨b, o, ⟨c', hv⟩, hbl, hcell⟩ := ints_atZ HC3.out hlt
        injection hv with hv1 hv2 hv3
        subst hv1 hv3
        clear hv2 hbl
        have HBA := Lib.hid (fun (h : ¬ (0 ≤ comp[k] ∧ comp[k] < gens)) => (show V = false from by rw [HV2.out]; unfold vldC; rw [all_bad hlt (decide_eq_false h)]; rfl))
        have HGO := Lib.hid (fun (h : 0 ≤ comp[k] ∧ comp[k] < gens) => (show ((comp.take (k + 1)).all fun k => decide (0 ≤ k ∧ k < gens)) = true from by rw [all_snoc hlt, HK.out, decide_eq_true h]; rfl))
        generalize comp[k] = x at *
        by_cases c1 : x < 0
        · have HE := Lib.hid (HBA.out (by omega))
          clear HBA HGO
          go_wp2_with fail
          go_ret
          exact ⟨by rw [HE.out]; rfl, HB.out⟩
        · by_cases c2 : x ≥ gens
          · have HE := Lib.hid (HBA.out (by omega))
            clear HBA HGO
            go_wp2_with fail
            go_ret
            exact ⟨by rw [HE.out]; rfl, HB.out⟩
          · have HE := Lib.hid (HGO.out (by omega))
            clear HBA HGO
            go_wp2_with fail
            go_roundg (comp.length - (k + 1))
            case measure => omega
            case rel => exact ⟨k + 1, by omega, rfl, by go_num, HE, rfl⟩
      · have z1 : ¬ (k : Int) < (comp.length : Int) := by omega
        have hkk : comp.take k = comp := List.take_of_length_le (by omega)
        have HV3 := Lib.hid (show V = vldS gens wss from by
          rw [HV2.out]
          have := HK.out
          rw [hkk] at this
          unfold vldC
          rw [this]; rfl)
        clear HK hkk HV2 HC3
        go_wp2_with fail
        go_loopg [6, 42] wss.length (fun gk s6 s42 wr => ∃ k : Nat, k ≤ wss.length ∧ gk = wss.length - k ∧ s42 = .int .i64 (k : Int) ∧ Hid (((wss.take k).all fun ws => vldW ws gens) = true) ∧ w3 = wr)
        case atStart => exact ⟨0, Nat.zero_le _, rfl, rfl, Lib.hid (by simp), rfl⟩
        case round =>
          obtain ⟨q, hq, rfl, rfl, HK, rfl⟩ := hrel
          by_cases hlt2 : q < wss.length
          · have z4 : (q : Int) < (wss.length : Int) := by omega
            obtain ⟨b, o, vk, rfl, hcell, hik⟩ := HS3.out.at_ hlt2
            have HI := Lib.hid hik
            obtain ⟨A5, c5, rfl, -, -⟩ := hik
            have HWV := Lib.hid (wvalid_any _ wss[q] gens w3 HI.out (by omega) (HLW.out _ (List.getElem_mem hlt2)))
            have HBA := Lib.hid (fun (h : vldW wss[q] gens = false) => (show V = false from by rw [HV3.out]; unfold vldS; exact all_bad hlt2 h))
            have HGO := Lib.hid (fun (h : vldW wss[q] gens = true) => (show ((wss.take (q + 1)).all fun ws => vldW ws gens) = true from by rw [all_snoc hlt2, HK.out, h]; rfl))
            generalize vldW wss[q] gens = B at *
            cases B with
            | false =>
              have HE := Lib.hid (HBA.out rfl)
              clear HBA HGO
              go_wp2_with (go_at_call 31; refine HWV.out.mono ?_; rintro e w4 ⟨rfl, rfl⟩)
              go_ret
              exact ⟨by rw [HE.out]; rfl, HB.out⟩
            | true =>
              have HE := Lib.hid (HGO.out rfl)
              clear HBA HGO
              go_wp2_with (go_at_call 31; refine HWV.out.mono ?_; rintro e w4 ⟨rfl, rfl⟩)
              go_roundg (wss.length - (q + 1))
              case measure => omega
              case rel => exact ⟨q + 1, by omega, rfl, by go_num, HE, rfl⟩
          · have z4 : ¬ (q : Int) < (wss.length : Int) := by omega
            have hkk : wss.take q = wss := List.take_of_length_le (by omega)
            have HE := Lib.hid (show V = true from by
              rw [HV3.out]
              have := HK.out
              rw [hkk] at this
              exact this)
            clear HK hkk
            go_wp2_with fail
            go_ret
            exact ⟨by rw [HE.out]; rfl, HB.out⟩
  · have z3 : ((comp.length : Int) != gens) = true := by simp [g3]
    have HE := Lib.hid (show V = false from by rw [HV.out]; unfold vldG; rw [decide_eq_false (by omega)]; rfl)
    clear g3
    go_wp2_with fail
    go_ret
    exact ⟨by rw [HE.out]; rfl, HB.out⟩
end Go.Proofs.YtlbihllmpbhhcaaDoor

namespace Go.Proofs.YtlbihllmpbhhcaaDoor
open Go.RowKit
set_option linter.unusedVariables false

def fitB (ws comp : List Int) (gen : Int) : Bool := decide (0 ≤ gen) && decide (gen < comp.length) && vldW ws comp.length && comp.all (fun c => decide (-1000 ≤ c ∧ c ≤ 1000))
def errD (ws comp : List Int) (gen : Int) : Int := if fitB ws comp gen = true then (if 1000 < ws.length then 5 else 0) else 2
/-- what Derivative returns -/
def DerR (ws comp : List Int) (gen : Int) (w : World) (e : Ending) (w' : World) : Prop :=
  Below w.heap.size w w' ∧ ∃ v r, e = .returned (.tuple #[v, .int .i64 (errD ws comp gen)]) ∧ PolyV w' v (some r) ∧ Can r ∧ Lim r ∧ ∀ x, cf r x = if errD ws comp gen = 0 then dF comp gen ws x else 0
theorem DerR.bad {ws comp : List Int} {gen : Int} {w w' : World} {E : Int} (he : errD ws comp gen = E) (hE : E ≠ 0) (hb : Below w.heap.size w w') : DerR ws comp gen w (.returned (.tuple #[.agg #[.bool false, .slice none 0 0], .int .i64 E])) w' :=
  ⟨hb, _, [], by rw [he], PolyV.zero w', Can.nil, Lim.nil, fun x => by rw [he, if_neg hE]; rfl⟩
theorem errD_g1 {ws comp : List Int} {gen : Int} (h : gen < 0) : errD ws comp gen = 2 := by
  unfold errD
  rw [if_neg]
  unfold fitB
  rw [decide_eq_false (by omega : ¬ 0 ≤ gen)]; simp
theorem errD_g2 {ws comp : List Int} {gen : Int} (h : (comp.length : Int) ≤ gen) : errD ws comp gen = 2 := by
  unfold errD
  rw [if_neg]
  unfold fitB
  rw [decide_eq_false (by omega : ¬ gen < comp.length)]; simp
theorem errD_v {ws comp : List Int} {gen : Int} (h : vldW ws comp.length = false) : errD ws comp gen = 2 := by
  unfold errD
  rw [if_neg]
  unfold fitB
  rw [h]; simp
theorem errD_c {ws comp : List Int} {gen c : Int} (hm : c ∈ comp) (h : 1000 < c ∨ c < -1000) : errD ws comp gen = 2 := by
  unfold errD
  rw [if_neg]
  intro h1
  unfold fitB at h1
  rw [Bool.and_eq_true, List.all_eq_true] at h1
  have := of_decide_eq_true (h1.2 c hm)
  omega
theorem fitB_ok {ws comp : List Int} {gen : Int} (h1 : 0 ≤ gen) (h2 : gen < comp.length) (h3 : vldW ws comp.length = true) (h4 : ∀ c ∈ comp, -1000 ≤ c ∧ c ≤ 1000) : fitB ws comp gen = true := by
  unfold fitB
  rw [decide_eq_true h1, decide_eq_true h2, h3, List.all_eq_true.2 (fun c hc => decide_eq_true (h4 c hc))]; rfl
theorem errD_ok {ws comp : List Int} {gen : Int} (h : fitB ws comp gen = true) : errD ws comp gen = if 1000 < ws.length then 5 else 0 := by unfold errD; rw [if_pos h]
theorem unit1_drv {ws comp : List Int} {gen : Int} (h : ∀ c ∈ comp, -1000 ≤ c ∧ c ≤ 1000) (hl : ws.length ≤ 1000) : Unit1 (drv comp gen ws 0) := fun t ht => by
  obtain ⟨h1, h2, h3⟩ := drv_bd (N := 1000) (by omega) h gen ws 0 t ht
  have h4 : (1000 : Int) * (ws.length : Int) ≤ 1000000 := by omega
  exact ⟨h1, by omega, by omega⟩
set_option maxHeartbeats 2000000 in
set_option maxRecDepth 100000 in
theorem Derivative_any (vw vc : Value) (ws comp : List Int) (gen : Int) (w : World) (hw : Ints w vw ws) (hc : Ints w vc comp) (hl : ws.length ≤ 4611686018427387904) (hcl : comp.length ≤ 1000000) :
    Calls Tryd.prog 11 #[vw, .int .i64 gen, vc] w (DerR ws comp gen w) := by
  have hW : ∀ W, W = (w.alloc (.cells #[.int .i64 gen] 3)).alloc (.cells #[.bool false, .slice none 0 0] 27) → Arr W w.heap.size 3 [.int .i64 gen] ∧ Arr W (w.heap.size + 1) 27 [.bool false, .slice none 0 0] ∧ Below w.heap.size w W ∧ W.heap.size = w.heap.size + 2 := by
    intro W hW
    subst hW
    exact ⟨(Arr.new _ _ [_]).alloc _, Arr.newAt (w.alloc _) _ [_, _] _ (by simp), ((Below.refl _ _).alloc (Nat.le_refl _) _).alloc (by simp) _, by simp⟩
  have HW := Lib.hid hw
  have HC := Lib.hid hc
  obtain ⟨A, c, rfl, _, _⟩ := hw
  obtain ⟨A2, c2, rfl, _, _⟩ := hc
  go_enter Tryd.func11, Tryd.ntmps11
  go_upto_region 1 with fail
  generalize ((w.alloc (.cells #[.int .i64 gen] 3)).alloc (.cells #[.bool false, .slice none 0 0] 27)) = w3 at hW ⊢
  obtain ⟨qg, qr, hb3, hs3⟩ := hW w3 rfl
  clear hW
  have y0 := qg.cell 0
  have x0 := qr.cell 0
  have x1 := qr.cell 1
  have f0 := qr.frozen 0
  have f1 := qr.frozen 1
  have HZ := Lib.hid ((qr.set 0 (.bool false)).set 1 (.slice none 0 0))
  have HB := Lib.hid ((hb3.setCell (p := ⟨w.heap.size + 1, 0, none⟩) (by simp) (.bool false)).setCell (p := ⟨w.heap.size + 1, 1, none⟩) (by simp) (.slice none 0 0))
  have HV := Lib.hid (wvalid_any (.slice A ws.length c) ws comp.length w3 (HW.out.below hb3) (by omega) hl)
  have HR := Lib.hid qr
  have HG := Lib.hid qg
  have HB3 := Lib.hid hb3
  clear qg qr hb3
  by_cases c1 : gen < 0
  · have HE := Lib.hid (errD_g1 (ws := ws) (comp := comp) c1)
    go_wp2_with fail
    refine bodyPost_ret (v := .tuple #[.agg #[.bool false, .slice none 0 0], .int .i64 2]) (results_ct Tryd.results11 _ _ (w.heap.size + 1) 27 _ _ rfl HZ.out Tryd.underlying27 rfl info_poly) rfl ?_
    exact DerR.bad HE.out (by decide) HB.out
  by_cases c3 : gen ≥ (comp.length : Int)
  · have HE := Lib.hid (errD_g2 (ws := ws) (comp := comp) c3)
    go_wp2_with fail
    refine bodyPost_ret (v := .tuple #[.agg #[.bool false, .slice none 0 0], .int .i64 2]) (results_ct Tryd.results11 _ _ (w.heap.size + 1) 27 _ _ rfl HZ.out Tryd.underlying27 rfl info_poly) rfl ?_
    exact DerR.bad HE.out (by decide) HB.out
  obtain ⟨V, hV⟩ : ∃ V, V = vldW ws comp.length := ⟨_, rfl⟩
  rw [← hV] at HV
  have HVV := Lib.hid hV
  clear hV
  go_wp2_with fail
  refine HV.out.mono ?_
  rintro e w4 ⟨rfl, rfl⟩
  clear HV
  cases V with
  | false =>
    have HE := Lib.hid (errD_v (gen := gen) HVV.out.symm)
    go_wp2_with fail
    refine bodyPost_ret (v := .tuple #[.agg #[.bool false, .slice none 0 0], .int .i64 2]) (results_ct Tryd.results11 _ _ (w.heap.size + 1) 27 _ _ rfl HZ.out Tryd.underlying27 rfl info_poly) rfl ?_
    exact DerR.bad HE.out (by decide) HB.out
  | true =>
    have HVX := Lib.hid (vldW_iff.1 HVV.out.symm)
    go_wp2_with fail
    go_loopg [9, 29] comp.length (fun gk s9 s29 wr => ∃ k : Nat, k ≤ comp.length ∧ gk = comp.length - k ∧ s29 = .int .i64 (k : Int) ∧ Hid (∀ x ∈ comp.take k, -1000 ≤ x ∧ x ≤ 1000) ∧ w3 = wr)
    case atStart => exact ⟨0, Nat.zero_le _, rfl, rfl, Lib.hid (fun x hx => by simp at hx), rfl⟩
    case round =>
      obtain ⟨k, hk, rfl, rfl, HK, rfl⟩ := hrel
      by_cases hlt : k < comp.length
      · have z1 : (k : Int) < (comp.length : Int) := by omega
        obtain ⟨b, o, ⟨c', hv⟩, hbl, hcell⟩ := ints_at (HC.out.below HB3.out) hlt
        injection hv with hv1 hv2 hv3
        subst hv1 hv3
        clear hv2
        have HBB := Lib.hid (fun h => errD_c (ws := ws) (gen := gen) (List.getElem_mem hlt) h)
        have HKN := Lib.hid (fun (h : -1000 ≤ comp[k] ∧ comp[k] ≤ 1000) => (show ∀ x ∈ comp.take (k + 1), -1000 ≤ x ∧ x ≤ 1000 from fun x hx => by
          rw [take_snocI hlt] at hx
          rcases List.mem_append.1 hx with hx | hx
          · exact HK.out x hx
          · rw [List.mem_singleton.1 hx]; exact h))
        clear HK
        generalize comp[k] = x at *
        by_cases c4 : 1000 < x
        · have HE := Lib.hid (HBB.out (.inl c4))
          clear HBB HKN
          go_wp2_with fail
          refine bodyPost_ret (v := .tuple #[.agg #[.bool false, .slice none 0 0], .int .i64 2]) (results_ct Tryd.results11 _ _ (w.heap.size + 1) 27 _ _ rfl HZ.out Tryd.underlying27 rfl info_poly) rfl ?_
          exact DerR.bad HE.out (by decide) HB.out
        · by_cases c5 : x < -1000
          · have HE := Lib.hid (HBB.out (.inr c5))
            clear HBB HKN
            go_wp2_with fail
            refine bodyPost_ret (v := .tuple #[.agg #[.bool false, .slice none 0 0], .int .i64 2]) (results_ct Tryd.results11 _ _ (w.heap.size + 1) 27 _ _ rfl HZ.out Tryd.underlying27 rfl info_poly) rfl ?_
            exact DerR.bad HE.out (by decide) HB.out
          · have HK2 := Lib.hid (HKN.out (by omega))
            clear HBB HKN
            go_wp2_with fail
            go_roundg (comp.length - (k + 1))
            case measure => omega
            case rel => exact ⟨k + 1, by omega, rfl, by go_num, HK2, rfl⟩
      · have z1 : ¬ ((k : Int) < (comp.length : Int)) := by omega
        have hkn : k = comp.length := by omega
        have HCC := Lib.hid (show ∀ x ∈ comp, -1000 ≤ x ∧ x ≤ 1000 from fun x hx => HK.out x (by rw [hkn, List.take_length]; exact hx))
        have HF := Lib.hid (errD_ok (fitB_ok (by omega) (by omega) HVV.out.symm HCC.out))
        clear hkn HK
        by_cases c6 : (1000 : Int) < (ws.length : Int)
        · have HE := Lib.hid (HF.out.trans (if_pos (by omega)))
          go_wp2_with fail
          refine bodyPost_ret (v := .tuple #[.agg #[.bool false, .slice none 0 0], .int .i64 5]) (results_ct Tryd.results11 _ _ (w.heap.size + 1) 27 _ _ rfl HZ.out Tryd.underlying27 rfl info_poly) rfl ?_
          exact DerR.bad HE.out (by decide) HB.out
        · have HE := Lib.hid (HF.out.trans (if_neg (by omega)))
          clear HF HZ HB x0 x1 f0 f1 y0
          go_upto_region 12 with fail
          have hA : Arr (w3.alloc (.cells #[.slice none 0 0] 66)) w3.heap.size 66 [.slice none 0 0] ∧ Arr (w3.alloc (.cells #[.slice none 0 0] 66)) w.heap.size 3 [.int .i64 gen] ∧ Arr (w3.alloc (.cells #[.slice none 0 0] 66)) (w.heap.size + 1) 27 [.bool false, .slice none 0 0] ∧ Below w.heap.size w (w3.alloc (.cells #[.slice none 0 0] 66)) := ⟨Arr.new _ _ [_], HG.out.alloc _, HR.out.alloc _, HB3.out.alloc (by omega) _⟩
          have hs4 : (w3.alloc (.cells #[.slice none 0 0] 66)).heap.size = w.heap.size + 3 := by simp; omega
          have HB34 := Lib.hid (show Below w3.heap.size w3 (w3.alloc (.cells #[.slice none 0 0] 66)) from (Below.refl _ _).alloc (Nat.le_refl _) _)
          generalize (w3.alloc (.cells #[.slice none 0 0] 66)) = w4 at *
          obtain ⟨qt4, qg4, qr4, hb4⟩ := hA
          have hb34 : Below w3.heap.size w3 w4 := HB34.out
          have HD := Lib.hid (derive_any (w3.heap.size) w.heap.size w3.heap.size gen (.slice A ws.length c) (.slice A2 comp.length c2) ws comp w3 w4 (fun W' hb => HW.out.below (HB3.out.trans (hb.mono (by omega)))) (fun W' hb => HC.out.below (HB3.out.trans (hb.mono (by omega)))) hb34 (Nat.le_refl _) (by omega) qt4 qg4 HCC.out hcl (by omega) (fun x hx => by have := HVX.out x hx; omega))
          rw [hs3] at HD
          have HL := Lib.hid (drv_len comp gen ws 0)
          have HW1 : ws.length ≤ 1000 := by omega
          clear qt4 qg4 qr4 hb4 hb34 HB34
          go_wp2_with fail
          refine HD.out.mono ?_
          rintro e w5 ⟨rfl, s', ho, q5, hb5⟩
          obtain ⟨A5, c5, rfl⟩ := ho.form
          have HDR := Lib.hid (rfl : drv comp gen ws 0 = drv comp gen ws 0)
          have qr5 : Arr w5 (w.heap.size + 1) 27 [.bool false, .slice none 0 0] := HR.out.below hb5 (by omega)
          have HS := Lib.hid (sum_any A5 c5 (w.heap.size + 2) (drv comp gen ws 0) w5 ho (Nat.le_trans HL.out (Nat.le_trans HW1 (by decide))) (unit1_drv HCC.out HW1) (by have := hb5.size; omega))
          have y0 := q5.cell 0
          have HB5 := Lib.hid (HB3.out.trans (hb5.mono (by omega)))
          have HR5 := Lib.hid qr5
          generalize (drv comp gen ws 0).length = n5 at *
          clear hb5 qr5 q5 ho HD HL
          go_wp2_with fail
          refine HS.out.mono ?_
          rintro e w6 ⟨v, r, rfl, hv, hcn, hli, hx, hb6⟩
          have q6 := HR5.out.below hb6 (by omega)
          have HV := Lib.hid (fun u1 u2 => hv.box q6 u1 u2)
          have HRR := Lib.hid (And.intro hcn (And.intro hli hx))
          obtain ⟨b6, A6, n6, c6, rfl, j5, j6⟩ := hv.parts
          have HB6 := Lib.hid (HB5.out.trans (hb6.mono (by omega)))
          clear j5 j6 hv hcn hli hx hb6
          have x0 := q6.cell 0
          have x1 := q6.cell 1
          have f0 := q6.frozen 0
          have f1 := q6.frozen 1
          have hres := Lib.hid ((q6.set 0 (.bool b6)).set 1 (.slice A6 n6 c6))
          go_wp2_with fail
          refine bodyPost_ret (v := .tuple #[.agg #[.bool b6, .slice A6 n6 c6], .int .i64 0]) (results_ct Tryd.results11 _ _ (w.heap.size + 1) 27 _ _ rfl hres.out Tryd.underlying27 rfl info_poly) rfl ?_
          exact ⟨(HB6.out.setCell (p := ⟨w.heap.size + 1, 0, none⟩) (by simp) _).setCell (p := ⟨w.heap.size + 1, 1, none⟩) (by simp) _, _, r, by rw [HE.out], HV.out _ _, HRR.out.1, HRR.out.2.1, fun x => by rw [HE.out, if_pos rfl, HRR.out.2.2 x]; rfl⟩
end Go.Proofs.YtlbihllmpbhhcaaDoor
