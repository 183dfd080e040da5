/- wirtinger.Valid. -/
import Derived.Test.YtlbihllmpbhhcaaDoorWvl
import Derived.Test.YtlbihllmpbhhcaaDoorFnx
namespace Go.Proofs.YtlbihllmpbhhcaaDoor
open Go.RowKit
set_option linter.unusedVariables false

/-- words in memory -/
def Wds (w : World) (v : Value) (wss : List (List Int)) : Prop :=
  ∃ A c, v = .slice A wss.length c ∧ ∀ k (h : k < wss.length), ∃ b o vk, A = some ⟨b, o, none⟩ ∧ w.cell? ⟨b, o + k, none⟩ = some vk ∧ Ints w vk wss[k]
theorem Wds.below {w w' : World} {v : Value} {wss : List (List Int)} (h : Wds w v wss) (hb : Below w.heap.size w w') : Wds w' v wss := by
  obtain ⟨A, c, hv, hx⟩ := h
  refine ⟨A, c, hv, fun k hk => ?_⟩
  obtain ⟨b, o, vk, h1, h2, h3⟩ := hx k hk
  exact ⟨b, o, vk, h1, (hb.cell (block_lt_of_cell h2)).trans h2, h3.below hb⟩
theorem Wds.at_ {w : World} {A : Option Addr} {n c k : Nat} {wss : List (List Int)} (h : Wds w (.slice A n c) wss) (hk : k < wss.length) : ∃ b o vk, A = some ⟨b, o, none⟩ ∧ w.cell? ⟨b, o + k, none⟩ = some vk ∧ Ints w vk wss[k] := by
  obtain ⟨A', c', hv, hx⟩ := h
  injection hv with e1 e2 e3
  subst e1
  exact hx k hk
def vldC (gens : Int) (comp : List Int) : Bool := comp.all fun k => decide (0 ≤ k ∧ k < gens)
def vldS (gens : Int) (wss : List (List Int)) : Bool := wss.all fun ws => vldW ws gens
def vldG (gens : Int) (comp : List Int) (wss : List (List Int)) : Bool := decide (0 ≤ gens ∧ gens ≤ 1000 ∧ (comp.length : Int) = gens) && (vldC gens comp && vldS gens wss)
theorem all_snoc {α : Type} {f : α → Bool} {l : List α} {k : Nat} (hk : k < l.length) : (l.take (k + 1)).all f = ((l.take k).all f && f l[k]) := by
  rw [← List.take_append_getElem hk, List.all_append]
  simp
theorem all_bad {α : Type} {f : α → Bool} {l : List α} {k : Nat} (hk : k < l.length) (h : f l[k] = false) : l.all f = false := by
  rw [List.all_eq_false]
  exact ⟨l[k], List.getElem_mem hk, by rw [h]; simp⟩
set_option maxHeartbeats 2000000 in
set_option maxRecDepth 100000 in
theorem gvalid_any (gens : Int) (vc vs : Value) (comp : List Int) (wss : List (List Int)) (w : World) (hc : Ints w vc comp) (hs : Wds w vs wss) (lc : comp.length ≤ 4611686018427387904) (ls : wss.length ≤ 4611686018427387904) (lw : ∀ ws ∈ wss, ws.length ≤ 4611686018427387904) :
    Calls Tryd.prog 18 #[.agg #[.int .i64 gens, vc, vs]] w fun e w' => e = .returned (.bool (vldG gens comp wss)) ∧ Below w.heap.size w w' := by
  have HC := Lib.hid hc
  have HS := Lib.hid hs
  have HLW := Lib.hid lw
  obtain ⟨A1, c1, rfl, -, -⟩ := hc
  obtain ⟨A2, c2, rfl, -⟩ := hs
  clear lw
  obtain ⟨V, hV⟩ : ∃ V, V = vldG gens comp wss := ⟨_, rfl⟩
  rw [← hV]
  have HV := Lib.hid hV
  clear hV
  have hW : ∀ W, W = (w.alloc (.cells #[.int .i64 gens, .slice A1 comp.length c1, .slice A2 wss.length c2] 41)) → Arr W w.heap.size 41 [.int .i64 gens, .slice A1 comp.length c1, .slice A2 wss.length c2] ∧ Below w.heap.size w W := by
    intro W hW
    subst hW
    exact ⟨Arr.new _ _ [_, _, _], (Below.refl _ _).alloc (Nat.le_refl _) _⟩
  go_enter Tryd.func18, Tryd.ntmps18
  go_upto_region 1 with fail
  generalize (w.alloc (.cells #[.int .i64 gens, .slice A1 comp.length c1, .slice A2 wss.length c2] 41)) = w3 at hW ⊢
  obtain ⟨qg, hb3⟩ := hW w3 rfl
  have y0 := qg.cell 0
  have y1 := qg.cell 1
  have y2 := qg.cell 2
  have HB := Lib.hid hb3
  have HC3 := Lib.hid (HC.out.below hb3)
  have HS3 := Lib.hid (HS.out.below hb3)
  clear hW hb3 qg HC HS
  by_cases g1 : gens < 0
  · have HE := Lib.hid (show V = false from by rw [HV.out]; unfold vldG; rw [decide_eq_false (by omega)]; rfl)
    go_wp2_with fail
    go_ret
    exact ⟨by rw [HE.out]; rfl, HB.out⟩
  by_cases g2 : gens > 1000
  · have HE := Lib.hid (show V = false from by rw [HV.out]; unfold vldG; rw [decide_eq_false (by omega)]; rfl)
    go_wp2_with fail
    go_ret
    exact ⟨by rw [HE.out]; rfl, HB.out⟩
  by_cases g3 : (comp.length : Int) = gens
  · have z3 : ((comp.length : Int) != gens) = false := by simp [g3]
    have HV2 := Lib.hid (show V = (vldC gens comp && vldS gens wss) from by rw [HV.out]; unfold vldG; rw [decide_eq_true (by omega), Bool.true_and])
    have HG3 := Lib.hid g3
    clear HV g3
    go_wp2_with fail
    go_loopg [4, 26] comp.length (fun gk s4 s26 wr => ∃ k : Nat, k ≤ comp.length ∧ gk = comp.length - k ∧ s26 = .int .i64 (k : Int) ∧ Hid (((comp.take k).all fun k => decide (0 ≤ k ∧ k < gens)) = true) ∧ w3 = wr)
    case atStart => exact ⟨0, Nat.zero_le _, rfl, rfl, Lib.hid (by simp), rfl⟩
    case round =>
      obtain ⟨k, hk, rfl, rfl, HK, rfl⟩ := hrel
      by_cases hlt : k < comp.length
      · have z1 : (k : Int) < (comp.length : Int) := by omega
        obtain ⟨b, o, ⟨c', hv⟩, hbl, hcell⟩ := ints_at HC3.out hlt
        injection hv with hv1 hv2 hv3
        subst hv1 hv3
        clear hv2 hbl
        have HBA := Lib.hid (fun (h : ¬ (0 ≤ comp[k] ∧ comp[k] < gens)) => (show V = false from by rw [HV2.out]; unfold vldC; rw [all_bad hlt (decide_eq_false h)]; rfl))
        have HGO := Lib.hid (fun (h : 0 ≤ comp[k] ∧ comp[k] < gens) => (show ((comp.take (k + 1)).all fun k => decide (0 ≤ k ∧ k < gens)) = true from by rw [all_snoc hlt, HK.out, decide_eq_true h]; rfl))
        generalize comp[k] = x at *
        by_cases c1 : x < 0
        · have HE := Lib.hid (HBA.out (by omega))
          clear HBA HGO
          go_wp2_with fail
          go_ret
          exact ⟨by rw [HE.out]; rfl, HB.out⟩
        · by_cases c2 : x ≥ gens
          · have HE := Lib.hid (HBA.out (by omega))
            clear HBA HGO
            go_wp2_with fail
            go_ret
            exact ⟨by rw [HE.out]; rfl, HB.out⟩
          · have HE := Lib.hid (HGO.out (by omega))
            clear HBA HGO
            go_wp2_with fail
            go_roundg (comp.length - (k + 1))
            case measure => omega
            case rel => exact ⟨k + 1, by omega, rfl, by go_num, HE, rfl⟩
      · have z1 : ¬ (k : Int) < (comp.length : Int) := by omega
        have hkk : comp.take k = comp := List.take_of_length_le (by omega)
        have HV3 := Lib.hid (show V = vldS gens wss from by
          rw [HV2.out]
          have := HK.out
          rw [hkk] at this
          unfold vldC
          rw [this]; rfl)
        clear HK hkk HV2 HC3
        go_wp2_with fail
        go_loopg [6, 42] wss.length (fun gk s6 s42 wr => ∃ k : Nat, k ≤ wss.length ∧ gk = wss.length - k ∧ s42 = .int .i64 (k : Int) ∧ Hid (((wss.take k).all fun ws => vldW ws gens) = true) ∧ w3 = wr)
        case atStart => exact ⟨0, Nat.zero_le _, rfl, rfl, Lib.hid (by simp), rfl⟩
        case round =>
          obtain ⟨q, hq, rfl, rfl, HK, rfl⟩ := hrel
          by_cases hlt2 : q < wss.length
          · have z4 : (q : Int) < (wss.length : Int) := by omega
            obtain ⟨b, o, vk, rfl, hcell, hik⟩ := HS3.out.at_ hlt2
            have HI := Lib.hid hik
            obtain ⟨A5, c5, rfl, -, -⟩ := hik
            have HWV := Lib.hid (wvalid_any _ wss[q] gens w3 HI.out (by omega) (HLW.out _ (List.getElem_mem hlt2)))
            have HBA := Lib.hid (fun (h : vldW wss[q] gens = false) => (show V = false from by rw [HV3.out]; unfold vldS; exact all_bad hlt2 h))
            have HGO := Lib.hid (fun (h : vldW wss[q] gens = true) => (show ((wss.take (q + 1)).all fun ws => vldW ws gens) = true from by rw [all_snoc hlt2, HK.out, h]; rfl))
            generalize vldW wss[q] gens = B at *
            cases B with
            | false =>
              have HE := Lib.hid (HBA.out rfl)
              clear HBA HGO
              go_wp2_with (go_at_call 31; refine HWV.out.mono ?_; rintro e w4 ⟨rfl, rfl⟩)
              go_ret
              exact ⟨by rw [HE.out]; rfl, HB.out⟩
            | true =>
              have HE := Lib.hid (HGO.out rfl)
              clear HBA HGO
              go_wp2_with (go_at_call 31; refine HWV.out.mono ?_; rintro e w4 ⟨rfl, rfl⟩)
              go_roundg (wss.length - (q + 1))
              case measure => omega
              case rel => exact ⟨q + 1, by omega, rfl, by go_num, HE, rfl⟩
          · have z4 : ¬ (q : Int) < (wss.length : Int) := by omega
            have hkk : wss.take q = wss := List.take_of_length_le (by omega)
            have HE := Lib.hid (show V = true from by
              rw [HV3.out]
              have := HK.out
              rw [hkk] at this
              exact this)
            clear HK hkk
            go_wp2_with fail
            go_ret
            exact ⟨by rw [HE.out]; rfl, HB.out⟩
  · have z3 : ((comp.length : Int) != gens) = true := by simp [g3]
    have HE := Lib.hid (show V = false from by rw [HV.out]; unfold vldG; rw [decide_eq_false (by omega)]; rfl)
    clear g3
    go_wp2_with fail
    go_ret
    exact ⟨by rw [HE.out]; rfl, HB.out⟩
end Go.Proofs.YtlbihllmpbhhcaaDoor
