/- connect.cross, outgoing, end, beside. -/
/- connect.cross, outgoing, end. -/
import Derived.Test.YtcjaloddgilnpaaZPhs
import Derived.Test.YtcjaloddgilnpaaZMrp
import Derived.BigRegion
namespace Go.Proofs.Ytcjaloddgilnpaa
open Go.RowKit
set_option linter.unusedVariables false

theorem OwnI.ltB {e : TypeId} {base : Nat} {w : World} {v : Value} {xs : List Int} (h : OwnI e base w v xs) : ∀ k, v.ownBlock = some k → k < w.heap.size := by
  intro k hk
  rcases h.2 with ⟨rfl, h0⟩ | ⟨g, cap, cur, rfl, hg, hh, r⟩
  · simp [Value.ownBlock] at hk
  · simp [Value.ownBlock] at hk
    subst hk
    rcases Nat.lt_or_ge g w.heap.size with hlt | hge
    · exact hlt
    · rw [Array.getElem?_eq_none hge] at hh; cases hh
theorem OwnI.base {e : TypeId} {b b2 : Nat} {w : World} {v : Value} {xs : List Int} (h : OwnI e b w v xs) (hb : b2 ≤ b) : OwnI e b2 w v xs := by
  refine ⟨h.1, ?_⟩
  rcases h.2 with h0 | ⟨g, cap, cur, rfl, hg, r⟩
  · exact .inl h0
  · exact .inr ⟨g, cap, cur, rfl, Nat.le_trans hb hg, r⟩
/-- a block of another type lies apart -/
theorem OwnI.apart {e t : TypeId} {b g : Nat} {w : World} {v : Value} {xs : List Int} {cs : List Value} (h : OwnI e b w v xs) (hg : Arr w g t cs) (hne : e ≠ t) : v.ownBlock ≠ some g := by
  intro hk
  rcases h.2 with ⟨rfl, h0⟩ | ⟨k, cap, cur, rfl, _, hh, r⟩
  · simp [Value.ownBlock] at hk
  · simp [Value.ownBlock] at hk
    subst hk
    unfold Arr at hg
    rw [hg] at hh
    injection hh with hh
    injection hh with _ h2 _
    exact hne h2.symm
theorem OwnI.far {e : TypeId} {b g j : Nat} {w : World} {v : Value} {xs : List Int} (h : OwnI e b w v xs) (hg : v.ownBlock ≠ some g) (u : Value) : OwnI e b (w.setCell ⟨g, j, none⟩ u) v xs := by
  refine ⟨h.1, ?_⟩
  rcases h.2 with h0 | ⟨k, cap, cur, rfl, hk, hh, r⟩
  · exact .inl h0
  · refine .inr ⟨k, cap, cur, rfl, hk, ?_, r⟩
    rw [Below.heap_setCell w ⟨g, j, none⟩ u k (fun e => hg (by rw [e]; rfl))]; exact hh
theorem OwnI.setAt {e : TypeId} {base n c i : Nat} {w : World} {A : Option Addr} {xs : List Int} (h : OwnI e base w (.slice A n c) xs) (hi : i < xs.length) : ∃ b, A = some ⟨b, 0, none⟩ ∧ base ≤ b ∧ n = xs.length ∧ w.cell? ⟨b, i, none⟩ = some (.int .i64 xs[i]) ∧ w.frozen? ⟨b, i, none⟩ = false ∧ ∀ y, OwnI e base (w.setCell ⟨b, i, none⟩ (.int .i64 y)) (.slice A n c) (xs.set i y) := by
  have hin := h.ints
  obtain ⟨A', c', hv, hc, hx⟩ := hin
  injection hv with e1 e2 e3
  subst e1 e2 e3
  rcases h.2 with ⟨h1, h0⟩ | ⟨b, cap, cur, hv, hb, hh, hn, hm, hc', ht⟩
  · omega
  · injection hv with e1 _ e3
    subst e1 e3
    refine ⟨b, rfl, hb, rfl, ?_, frozen_of_row w b i _ e hh, fun y => ?_⟩
    · obtain ⟨b', o', hA, hcell⟩ := hx i xs[i] (List.getElem?_eq_getElem hi)
      injection hA with hA
      injection hA with hb' ho'
      subst hb'
      rw [← ho', Nat.zero_add] at hcell
      exact hcell
    · unfold OwnI
      rw [List.length_set]
      refine ⟨by rw [List.length_map, List.length_set, Nat.mul_one], .inr ⟨b, c, cur.setIfInBounds i (.int .i64 y), rfl, hb, ?_, hn, hm, by rw [Array.size_setIfInBounds]; exact hc', ?_⟩⟩
      · exact heap_setCell_same w b i _ e _ hh
      · rw [Array.toList_setIfInBounds, List.map_set, ← ht, List.take_set]
/-- the mates of both, the first k of the second moved -/
def uMk (Ma Mb : List Int) (k : Nat) : List Int := Ma ++ ((Mb.take k).map (fun z => z + (Ma.length : Int)) ++ Mb.drop k)
theorem uMk_length (Ma Mb : List Int) (k : Nat) : (uMk Ma Mb k).length = Ma.length + Mb.length := by unfold uMk; simp; omega
theorem uMk_get {Ma Mb : List Int} {k : Nat} (hk : k < Mb.length) (h : Ma.length + k < (uMk Ma Mb k).length) : (uMk Ma Mb k)[Ma.length + k] = Mb[k] := by
  apply Option.some.inj
  rw [← List.getElem?_eq_getElem h]
  unfold uMk
  rw [List.getElem?_append_right (by omega), Nat.add_sub_cancel_left, List.getElem?_append_right (by simp; omega)]
  simp only [List.length_map, List.length_take, Nat.min_eq_left (Nat.le_of_lt hk), Nat.sub_self, List.getElem?_drop, Nat.add_zero]
  exact List.getElem?_eq_getElem hk
theorem uMk_set {Ma Mb : List Int} {k : Nat} (hk : k < Mb.length) : (uMk Ma Mb k).set (Ma.length + k) (Mb[k] + (Ma.length : Int)) = uMk Ma Mb (k + 1) := by
  unfold uMk
  rw [List.set_append_right _ _ (by omega), Nat.add_sub_cancel_left, List.set_append_right _ _ (by simp; omega)]
  congr 1
  rw [List.drop_eq_getElem_cons hk, List.take_add_one, List.getElem?_eq_getElem hk]
  simp only [List.length_map, List.length_take, Nat.min_eq_left (Nat.le_of_lt hk), Nat.sub_self, List.set_cons_zero, Option.toList_some, List.map_append, List.map_cons, List.map_nil, List.append_assoc, List.singleton_append]
theorem uMk_all (Ma Mb : List Int) : uMk Ma Mb Mb.length = uM Ma Mb := by unfold uMk uM; rw [List.take_length, List.drop_length, List.append_nil]
theorem uMk_zero (Ma Mb : List Int) : uMk Ma Mb 0 = Ma ++ Mb := by unfold uMk; simp

set_option maxHeartbeats 4000000 in
set_option maxRecDepth 100000 in
theorem beside_new (vsa vma vsb vmb : Value) (Sa Ma Sb Mb : List Int) (L : Int) (w : World) (hSa : Ints w vsa Sa) (hMa : Ints w vma Ma) (hSb : Ints w vsb Sb) (hMb : Ints w vmb Mb) (La Lb : Int) (la : Sa.length ≤ 1000) (lb : Sb.length ≤ 1000) (lma : Ma.length ≤ 1000) (lmb : Mb.length ≤ 1000)
    (hn : Sa.length + Sb.length ≤ 64) (hL : L ≤ 64) (hmb : ∀ k (h : k < Mb.length), 0 ≤ Mb[k] ∧ Mb[k] ≤ 1000) (SS : List Int) (HSQ : Hid (SS = Sa ++ Sb)) :
    Calls Try.prog 58 #[.agg #[vsa, vma, .int .i64 La], .agg #[vsb, vmb, .int .i64 Lb], .int .i64 L] w fun e w' => ∃ v1 v2, e = .returned (.tuple #[.agg #[v1, v2, .int .i64 L], .int .i64 0]) ∧ OwnI 3 w.heap.size w' v1 SS ∧ OwnI 3 w.heap.size w' v2 (uM Ma Mb) ∧ (∀ k, v1.ownBlock = some k → v2.ownBlock ≠ some k) ∧ Below w.heap.size w w' := by
  have hW : ∀ W, W = ((w.alloc (.cells #[vsa, vma, .int .i64 La] 24)).alloc (.cells #[vsb, vmb, .int .i64 Lb] 24)).alloc (.cells #[.slice none 0 0, .slice none 0 0, .int .i64 0] 24) → Arr W w.heap.size 24 [vsa, vma, .int .i64 La] ∧ Arr W (w.heap.size + 1) 24 [vsb, vmb, .int .i64 Lb] ∧ Arr W (w.heap.size + 2) 24 [.slice none 0 0, .slice none 0 0, .int .i64 0] ∧ Below w.heap.size w W ∧ W.heap.size = w.heap.size + 3 := by
    intro W hW
    subst hW
    exact ⟨((Arr.new _ _ [_, _, _]).alloc _).alloc _, (Arr.newAt (w.alloc _) _ [_, _, _] _ (by simp)).alloc _, Arr.newAt ((w.alloc _).alloc _) _ [_, _, _] _ (by simp), (((Below.refl _ _).alloc (Nat.le_refl _) _).alloc (by simp) _).alloc (by simp <;> omega) _, by simp⟩
  have GSA := Lib.hid (fun W (hb : Below w.heap.size w W) => hSa.below hb)
  have GMA := Lib.hid (fun W (hb : Below w.heap.size w W) => hMa.below hb)
  have GSB := Lib.hid (fun W (hb : Below w.heap.size w W) => hSb.below hb)
  have GMB := Lib.hid (fun W (hb : Below w.heap.size w W) => hMb.below hb)
  obtain ⟨A, c, rfl, hc, hx⟩ := hSa
  obtain ⟨A2, c2, rfl, hc2, hx2⟩ := hMa
  obtain ⟨A3, c3, rfl, hc3, hx3⟩ := hSb
  obtain ⟨A4, c4, rfl, hc4, hx4⟩ := hMb
  clear hx hx2 hx3 hx4
  have z1 : ¬ ((64 : Int) < (Sa.length : Int) + (Sb.length : Int)) := by omega
  have z2 : ¬ ((64 : Int) < L) := by omega
  go_enter Try.func58, Try.ntmps58
  go_upto_region 1 with fail
  generalize (((w.alloc (.cells #[.slice A Sa.length c, .slice A2 Ma.length c2, .int .i64 La] 24)).alloc (.cells #[.slice A3 Sb.length c3, .slice A4 Mb.length c4, .int .i64 Lb] 24)).alloc (.cells #[.slice none 0 0, .slice none 0 0, .int .i64 0] 24)) = w3 at hW ⊢
  obtain ⟨qa, qb, qr, hb3, hs3⟩ := hW w3 rfl
  clear hW
  have y0 := qa.cell 0
  have y1 := qb.cell 0
  go_upto_region 3 with fail
  clear y0 y1 z1 z2
  obtain ⟨H, hH⟩ : ∃ H, H = w3.heap.size := ⟨_, rfl⟩
  have HSA := Lib.hid (fun W (hb : Below H w3 W) => GSA.out W (hb3.trans (hb.mono (by rw [hH]; exact hb3.size))))
  have HMA := Lib.hid (fun W (hb : Below H w3 W) => GMA.out W (hb3.trans (hb.mono (by rw [hH]; exact hb3.size))))
  have HSB := Lib.hid (fun W (hb : Below H w3 W) => GSB.out W (hb3.trans (hb.mono (by rw [hH]; exact hb3.size))))
  have HMB := Lib.hid (fun W (hb : Below H w3 W) => GMB.out W (hb3.trans (hb.mono (by rw [hH]; exact hb3.size))))
  clear GSA GMA GSB GMB
  subst hH
  refine wp_region_phis 15 (by kernel_rfl) (by kernel_rfl) (by kernel_rfl) (by kernel_rfl) (by kernel_rfl) rfl (by kernel_rfl) (phiT (fun i => ([some (.pointer (some ⟨w.heap.size, 0, none⟩)), some (.slice A Sa.length c), some (.pointer (some ⟨w.heap.size + 1, 0, none⟩)), some (.slice A3 Sb.length c3), none, none, some (.pointer (some ⟨w.heap.size, 1, none⟩)), some (.slice A2 Ma.length c2), some (.pointer (some ⟨w.heap.size + 1, 1, none⟩)), some (.slice A4 Mb.length c4), none, none, some (.int .i64 L), none, none, some (undef)] : List (Option Value)).getD i none) (fun i v w => (if i = 4 then (fun (v : Value) (w : World) => ∃ b, v = .slice (some ⟨b, 0, none⟩) 2 2 ∧ Arr w b 22 [.slice A Sa.length c, .slice A3 Sb.length c3]) v w else (if i = 5 then (fun (v : Value) (w : World) => OwnI 3 w3.heap.size w v (Sa ++ Sb)) v w else (if i = 10 then (fun (v : Value) (w : World) => ∃ b, v = .slice (some ⟨b, 0, none⟩) 2 2 ∧ Arr w b 22 [.slice A2 Ma.length c2, .slice A4 Mb.length c4]) v w else (if i = 11 then (fun (v : Value) (w : World) => OwnI 3 w3.heap.size w v (Ma ++ Mb)) v w else (if i = 13 then (fun (v : Value) (w : World) => ∃ v1 v2, v = .agg #[v1, v2, .int .i64 L] ∧ OwnI 3 w3.heap.size w v1 (Sa ++ Sb) ∧ OwnI 3 w3.heap.size w v2 (Ma ++ Mb) ∧ ∀ k, v1.ownBlock = some k → v2.ownBlock ≠ some k) v w else (if i = 14 then (fun (v : Value) (w : World) => ∃ g, v = .pointer (some ⟨g, 0, none⟩) ∧ w3.heap.size ≤ g ∧ Arr w g 24 [.slice none 0 0, .slice none 0 0, .int .i64 0]) v w else True)))))))) (fun i v w w' h hb => ?_) (fun i => decide (i = 5) || decide (i = 11)) (fun i v w hi h k hk => ?_) (fun x w => ∃ g v1 v2, x 14 = .pointer (some ⟨g, 0, none⟩) ∧ w3.heap.size ≤ g ∧ Arr w g 24 [v1, v2, .int .i64 L] ∧ OwnI 3 w3.heap.size w v1 (Sa ++ Sb) ∧ OwnI 3 w3.heap.size w v2 (Ma ++ Mb) ∧ (∀ k, v1.ownBlock = some k → v2.ownBlock ≠ some k) ∧ Below w3.heap.size w3 w) ⟨?_, ?_, ?_, ?_, ?_, ?_, ?_, ?_, ?_, ?_, ?_, ?_, ?_, ?_, ?_, ?_, trivial⟩ ?_
  · unfold phiT at h ⊢
    split
    · next u hu => rw [hu] at h; exact h
    · next hu =>
      rw [hu] at h
      simp only at h ⊢
      by_cases q4 : i = 4
      · rw [if_pos q4] at h ⊢; exact (by obtain ⟨b, e, h1⟩ := (show ∃ b, v = .slice (some ⟨b, 0, none⟩) 2 2 ∧ Arr w b 22 [.slice A Sa.length c, .slice A3 Sb.length c3] from h); exact ⟨b, e, h1.below hb h1.lt⟩)
      · rw [if_neg q4] at h ⊢
        by_cases q5 : i = 5
        · rw [if_pos q5] at h ⊢; exact (show OwnI 3 w3.heap.size w v (Sa ++ Sb) from h).below hb (Nat.le_refl _)
        · rw [if_neg q5] at h ⊢
          by_cases q10 : i = 10
          · rw [if_pos q10] at h ⊢; exact (by obtain ⟨b, e, h1⟩ := (show ∃ b, v = .slice (some ⟨b, 0, none⟩) 2 2 ∧ Arr w b 22 [.slice A2 Ma.length c2, .slice A4 Mb.length c4] from h); exact ⟨b, e, h1.below hb h1.lt⟩)
          · rw [if_neg q10] at h ⊢
            by_cases q11 : i = 11
            · rw [if_pos q11] at h ⊢; exact (show OwnI 3 w3.heap.size w v (Ma ++ Mb) from h).below hb (Nat.le_refl _)
            · rw [if_neg q11] at h ⊢
              by_cases q13 : i = 13
              · rw [if_pos q13] at h ⊢; exact (by obtain ⟨v1, v2, e, h1, h2, h3⟩ := (show ∃ v1 v2, v = .agg #[v1, v2, .int .i64 L] ∧ OwnI 3 w3.heap.size w v1 (Sa ++ Sb) ∧ OwnI 3 w3.heap.size w v2 (Ma ++ Mb) ∧ ∀ k, v1.ownBlock = some k → v2.ownBlock ≠ some k from h); exact ⟨v1, v2, e, h1.below hb (Nat.le_refl _), h2.below hb (Nat.le_refl _), h3⟩)
              · rw [if_neg q13] at h ⊢
                by_cases q14 : i = 14
                · rw [if_pos q14] at h ⊢; exact (by obtain ⟨g, e, h1, h2⟩ := (show ∃ g, v = .pointer (some ⟨g, 0, none⟩) ∧ w3.heap.size ≤ g ∧ Arr w g 24 [.slice none 0 0, .slice none 0 0, .int .i64 0] from h); exact ⟨g, e, h1, h2.below hb h2.lt⟩)
                · rw [if_neg q14] at h ⊢
                  trivial
  · simp only [Bool.or_eq_true, decide_eq_true_eq] at hi
    rcases hi with rfl | rfl
    · have h2 : (fun (v : Value) (w : World) => OwnI 3 w3.heap.size w v (Sa ++ Sb)) v w := h
      exact h2.ltB k hk
    · have h2 : (fun (v : Value) (w : World) => OwnI 3 w3.heap.size w v (Ma ++ Mb)) v w := h
      exact h2.ltB k hk
  · intro x w1 bA hbel hdep hdap hold hb
    refine ⟨fun _ => ?_, fun h => absurd h (by decide)⟩
    have e3 : bA.tmps[3]?.getD undef = .pointer (some ⟨w.heap.size, 0, none⟩) := hb 3
    refine phf_run (.pointer (some ⟨w.heap.size, 0, none⟩)) rfl ?_ rfl
    clear hb hdep hdap hold
    go_simp
  · intro x w1 bA hbel hdep hdap hold hb
    refine ⟨fun _ => ?_, fun h => absurd h (by decide)⟩
    have e23 : bA.tmps[23]?.getD undef = .pointer (some ⟨w.heap.size, 0, none⟩) := (hb 23).trans (hdep 0 (by decide))
    have u0 := (qa.below hbel qa.lt).cell 0
    refine phf_run (.slice A Sa.length c) rfl ?_ rfl
    clear hb hdep hdap hold
    go_simp
  · intro x w1 bA hbel hdep hdap hold hb
    refine ⟨fun _ => ?_, fun h => absurd h (by decide)⟩
    have e4 : bA.tmps[4]?.getD undef = .pointer (some ⟨w.heap.size + 1, 0, none⟩) := hb 4
    refine phf_run (.pointer (some ⟨w.heap.size + 1, 0, none⟩)) rfl ?_ rfl
    clear hb hdep hdap hold
    go_simp
  · intro x w1 bA hbel hdep hdap hold hb
    refine ⟨fun _ => ?_, fun h => absurd h (by decide)⟩
    have e25 : bA.tmps[25]?.getD undef = .pointer (some ⟨w.heap.size + 1, 0, none⟩) := (hb 25).trans (hdep 2 (by decide))
    have u0 := (qb.below hbel qb.lt).cell 0
    refine phf_run (.slice A3 Sb.length c3) rfl ?_ rfl
    clear hb hdep hdap hold
    go_simp
  · intro x w1 bA hbel hdep hdap hold hb
    refine ⟨fun _ => ?_, fun h => absurd h (by decide)⟩
    have e24 : bA.tmps[24]?.getD undef = .slice A Sa.length c := (hb 24).trans (hdep 1 (by decide))
    have e26 : bA.tmps[26]?.getD undef = .slice A3 Sb.length c3 := (hb 26).trans (hdep 3 (by decide))
    refine phf_make (.slice (some ⟨w1.heap.size, 0, none⟩) 2 2) (w1.alloc (.cells #[.slice A Sa.length c, .slice A3 Sb.length c3] 22)) ?_ ((Below.refl _ _).alloc (Nat.le_refl _) _) ((show ∃ b, Value.slice (some ⟨w1.heap.size, 0, none⟩) 2 2 = .slice (some ⟨b, 0, none⟩) 2 2 ∧ Arr _ b 22 [.slice A Sa.length c, .slice A3 Sb.length c3] from ⟨_, rfl, Arr.new _ _ [_, _]⟩)) (fun h => Bool.noConfusion h)
    clear hb hdep hdap hold
    go_simp
  · intro x w1 bA hbel hdep hdap hold hb
    refine ⟨fun _ => ?_, fun h => absurd h (by decide)⟩
    have p27 := hdep 4 (by decide)
    have e27 : bA.tmps[27]?.getD undef = x 4 := hb 27
    generalize x 4 = x27 at *
    have P27 := Lib.hid (show (fun (v : Value) (w : World) => ∃ b, v = .slice (some ⟨b, 0, none⟩) 2 2 ∧ Arr w b 22 [.slice A Sa.length c, .slice A3 Sb.length c3]) x27 w1 from p27)
    clear p27
    obtain ⟨b, rfl, hab⟩ := P27.out
    have HC := Lib.hid (concat_any b _ _ Sa Sb w1 hab (HSA.out _ hbel) (HSB.out _ hbel) la lb)
    refine phf_call ?_ (HC.out.mono fun e w' ⟨v, he, ho, hb'⟩ => ⟨v, he, hb', ho.base hbel.size, fun _ => ho.block⟩)
    clear hb hdep hdap hold
    go_simp
  · intro x w1 bA hbel hdep hdap hold hb
    refine ⟨fun _ => ?_, fun h => absurd h (by decide)⟩
    have e3 : bA.tmps[3]?.getD undef = .pointer (some ⟨w.heap.size, 0, none⟩) := hb 3
    refine phf_run (.pointer (some ⟨w.heap.size, 1, none⟩)) rfl ?_ rfl
    clear hb hdep hdap hold
    go_simp
  · intro x w1 bA hbel hdep hdap hold hb
    refine ⟨fun _ => ?_, fun h => absurd h (by decide)⟩
    have e29 : bA.tmps[29]?.getD undef = .pointer (some ⟨w.heap.size, 1, none⟩) := (hb 29).trans (hdep 6 (by decide))
    have u0 := (qa.below hbel qa.lt).cell 1
    refine phf_run (.slice A2 Ma.length c2) rfl ?_ rfl
    clear hb hdep hdap hold
    go_simp
  · intro x w1 bA hbel hdep hdap hold hb
    refine ⟨fun _ => ?_, fun h => absurd h (by decide)⟩
    have e4 : bA.tmps[4]?.getD undef = .pointer (some ⟨w.heap.size + 1, 0, none⟩) := hb 4
    refine phf_run (.pointer (some ⟨w.heap.size + 1, 1, none⟩)) rfl ?_ rfl
    clear hb hdep hdap hold
    go_simp
  · intro x w1 bA hbel hdep hdap hold hb
    refine ⟨fun _ => ?_, fun h => absurd h (by decide)⟩
    have e31 : bA.tmps[31]?.getD undef = .pointer (some ⟨w.heap.size + 1, 1, none⟩) := (hb 31).trans (hdep 8 (by decide))
    have u0 := (qb.below hbel qb.lt).cell 1
    refine phf_run (.slice A4 Mb.length c4) rfl ?_ rfl
    clear hb hdep hdap hold
    go_simp
  · intro x w1 bA hbel hdep hdap hold hb
    refine ⟨fun _ => ?_, fun h => absurd h (by decide)⟩
    have e30 : bA.tmps[30]?.getD undef = .slice A2 Ma.length c2 := (hb 30).trans (hdep 7 (by decide))
    have e32 : bA.tmps[32]?.getD undef = .slice A4 Mb.length c4 := (hb 32).trans (hdep 9 (by decide))
    refine phf_make (.slice (some ⟨w1.heap.size, 0, none⟩) 2 2) (w1.alloc (.cells #[.slice A2 Ma.length c2, .slice A4 Mb.length c4] 22)) ?_ ((Below.refl _ _).alloc (Nat.le_refl _) _) ((show ∃ b, Value.slice (some ⟨w1.heap.size, 0, none⟩) 2 2 = .slice (some ⟨b, 0, none⟩) 2 2 ∧ Arr _ b 22 [.slice A2 Ma.length c2, .slice A4 Mb.length c4] from ⟨_, rfl, Arr.new _ _ [_, _]⟩)) (fun h => Bool.noConfusion h)
    clear hb hdep hdap hold
    go_simp
  · intro x w1 bA hbel hdep hdap hold hb
    refine ⟨fun _ => ?_, fun h => absurd h (by decide)⟩
    have p33 := hdep 10 (by decide)
    have e33 : bA.tmps[33]?.getD undef = x 10 := hb 33
    generalize x 10 = x33 at *
    have P33 := Lib.hid (show (fun (v : Value) (w : World) => ∃ b, v = .slice (some ⟨b, 0, none⟩) 2 2 ∧ Arr w b 22 [.slice A2 Ma.length c2, .slice A4 Mb.length c4]) x33 w1 from p33)
    clear p33
    obtain ⟨b, rfl, hab⟩ := P33.out
    have HC := Lib.hid (concat_any b _ _ Ma Mb w1 hab (HMA.out _ hbel) (HMB.out _ hbel) (by omega) (by omega))
    refine phf_call ?_ (HC.out.mono fun e w' ⟨v, he, ho, hb'⟩ => ⟨v, he, hb', ho.base hbel.size, fun _ => ho.block⟩)
    clear hb hdep hdap hold
    go_simp
  · intro x w1 bA hbel hdep hdap hold hb
    refine ⟨fun _ => ?_, fun h => absurd h (by decide)⟩
    have e2 : bA.tmps[2]?.getD undef = .int .i64 L := hb 2
    refine phf_run (.int .i64 L) rfl ?_ rfl
    clear hb hdep hdap hold
    go_simp
  · intro x w1 bA hbel hdep hdap hold hb
    refine ⟨fun _ => ?_, fun h => absurd h (by decide)⟩
    have ap28_34 := hdap 5 (by decide) 11 (by decide) (by decide) rfl rfl
    have ap34_28 := hdap 11 (by decide) 5 (by decide) (by decide) rfl rfl
    have p28 := hdep 5 (by decide)
    have e28 : bA.tmps[28]?.getD undef = x 5 := hb 28
    generalize x 5 = x28 at *
    have P28 := Lib.hid (show (fun (v : Value) (w : World) => OwnI 3 w3.heap.size w v (Sa ++ Sb)) x28 w1 from p28)
    clear p28
    have p34 := hdep 11 (by decide)
    have e34 : bA.tmps[34]?.getD undef = x 11 := hb 34
    generalize x 11 = x34 at *
    have P34 := Lib.hid (show (fun (v : Value) (w : World) => OwnI 3 w3.heap.size w v (Ma ++ Mb)) x34 w1 from p34)
    clear p34
    have e35 : bA.tmps[35]?.getD undef = .int .i64 L := (hb 35).trans (hdep 12 (by decide))
    obtain ⟨B1, n1, rfl⟩ := P28.out.form
    obtain ⟨B2, n2, rfl⟩ := P34.out.form
    refine phf_make (_) (w1) ?_ (Below.refl _ _) (⟨_, _, rfl, P28.out, P34.out, ap28_34⟩) (fun h => Bool.noConfusion h)
    clear hb hdep hdap hold
    go_simp
  · intro x w1 bA hbel hdep hdap hold hb
    refine ⟨fun _ => ?_, fun h => absurd h (by decide)⟩
    refine phf_make (.pointer (some ⟨w1.heap.size, 0, none⟩)) (w1.alloc (.cells #[.slice none 0 0, .slice none 0 0, .int .i64 0] 24)) ?_ ((Below.refl _ _).alloc (Nat.le_refl _) _) (⟨_, rfl, hbel.size, Arr.new _ _ [_, _, _]⟩) (fun h => Bool.noConfusion h)
    clear hb hdep hdap hold
    go_simp
  · intro x w1 bA hbel hdep hdap hold hb
    refine ⟨fun h => absurd h (by decide), fun _ hall => ?_⟩
    have e8 : bA.tmps[8]?.getD undef = x 14 := hb 8
    have e36 : bA.tmps[36]?.getD undef = x 13 := hb 36
    have p27 := Lib.hid (show (fun (v : Value) (w : World) => ∃ b, v = .slice (some ⟨b, 0, none⟩) 2 2 ∧ Arr w b 22 [.slice A Sa.length c, .slice A3 Sb.length c3]) (x 4) w1 from hall 4 (by decide))
    have p28 := Lib.hid (show (fun (v : Value) (w : World) => OwnI 3 w3.heap.size w v (Sa ++ Sb)) (x 5) w1 from hall 5 (by decide))
    have p33 := Lib.hid (show (fun (v : Value) (w : World) => ∃ b, v = .slice (some ⟨b, 0, none⟩) 2 2 ∧ Arr w b 22 [.slice A2 Ma.length c2, .slice A4 Mb.length c4]) (x 10) w1 from hall 10 (by decide))
    have p34 := Lib.hid (show (fun (v : Value) (w : World) => OwnI 3 w3.heap.size w v (Ma ++ Mb)) (x 11) w1 from hall 11 (by decide))
    have p36 := Lib.hid (show (fun (v : Value) (w : World) => ∃ v1 v2, v = .agg #[v1, v2, .int .i64 L] ∧ OwnI 3 w3.heap.size w v1 (Sa ++ Sb) ∧ OwnI 3 w3.heap.size w v2 (Ma ++ Mb) ∧ ∀ k, v1.ownBlock = some k → v2.ownBlock ≠ some k) (x 13) w1 from hall 13 (by decide))
    have p8 := Lib.hid (show (fun (v : Value) (w : World) => ∃ g, v = .pointer (some ⟨g, 0, none⟩) ∧ w3.heap.size ≤ g ∧ Arr w g 24 [.slice none 0 0, .slice none 0 0, .int .i64 0]) (x 14) w1 from hall 14 (by decide))
    clear hb hdep hdap hold
    obtain ⟨v1, v2, e36b, o1, o2, o3⟩ := p36.out
    obtain ⟨g, e8b, hg, ag⟩ := p8.out
    rw [e36b] at e36
    rw [e8b] at e8
    have O1 := Lib.hid o1
    have O2 := Lib.hid o2
    obtain ⟨B1, n1, rfl⟩ := o1.form
    obtain ⟨B2, n2, rfl⟩ := o2.form
    have c0 := ag.cell 0
    have c1 := ag.cell 1
    have c2 := ag.cell 2
    have f0 := ag.frozen 0
    have f1 := ag.frozen 1
    have f2 := ag.frozen 2
    have AG := Lib.hid ag
    clear ag o1 o2 p27 p28 p33 p34 p36 p8
    have hg1 := O1.out.apart AG.out (by decide)
    have hg2 := O2.out.apart AG.out (by decide)
    refine phs_store (R := fun x w => ∃ g v1 v2, x 14 = .pointer (some ⟨g, 0, none⟩) ∧ w3.heap.size ≤ g ∧ Arr w g 24 [v1, v2, .int .i64 L] ∧ OwnI 3 w3.heap.size w v1 (Sa ++ Sb) ∧ OwnI 3 w3.heap.size w v2 (Ma ++ Mb) ∧ (∀ k, v1.ownBlock = some k → v2.ownBlock ≠ some k) ∧ Below w3.heap.size w3 w) (((w1.setCell ⟨g, 0, none⟩ (.slice B1 (Sa ++ Sb).length n1)).setCell ⟨g, 1, none⟩ (.slice B2 (Ma ++ Mb).length n2)).setCell ⟨g, 2, none⟩ (.int .i64 L)) ?_ rfl (fun v => ⟨g, _, _, e8b, hg, ((AG.out.set 0 _).set 1 _).set 2 _, ((O1.out.far hg1 _).far hg1 _).far hg1 _, ((O2.out.far hg2 _).far hg2 _).far hg2 _, o3, ((hbel.setCell (p := ⟨g, 0, none⟩) hg _).setCell (p := ⟨g, 1, none⟩) hg _).setCell (p := ⟨g, 2, none⟩) hg _⟩)
    clear e36b e8b
    go_simp
  intro x w5 hR
  obtain ⟨g, v1, v2, e14, hg, ag, o1, o2, o3, hb5⟩ := hR
  rw [← HSQ.out] at o1
  simp only [putAll, dstOf, Act.put, List.map_cons, List.map_nil, List.setIfInBounds_toArray, List.set_cons_succ, List.set_cons_zero, Nat.reduceAdd, e14]
  clear e14
  have qa5 := qa.below hb5 qa.lt
  have qb5 := qb.below hb5 qb.lt
  have qr5 := qr.below hb5 qr.lt
  have hbw := hb3.trans (hb5.mono hb3.size)
  have HH := Lib.hid (show w.heap.size + 3 ≤ g from by omega)
  have O1 := Lib.hid (o1.base (b2 := w.heap.size + 3) (by omega))
  have O2 := Lib.hid (o2.base (b2 := w.heap.size + 3) (by omega))
  have O3 := Lib.hid o3
  have HMBV := Lib.hid hmb
  obtain ⟨B1, n1, rfl⟩ := o1.form
  obtain ⟨B2, n2, rfl⟩ := o2.form
  have e2 : (Ma ++ Mb).length = Ma.length + Mb.length := List.length_append
  rw [e2] at O2 O3 ag
  clear o1 o2 o3 hg hmb qa qb qr hb3 hb5 hs3 e2 HSA HMA HSB HMB
  obtain ⟨NM, hNM⟩ : ∃ N, N = Ma.length + Mb.length := ⟨_, rfl⟩
  rw [← hNM] at O2 O3 ag
  rw [← uMk_zero] at O2
  have HNM := Lib.hid hNM
  clear hNM
  have y0 := qb5.cell 1
  go_wp2_with fail
  clear y0
  go_loopg [9, 40] Mb.length (fun gk s9 s40 wr => ∃ k : Nat, k ≤ Mb.length ∧ gk = Mb.length - k ∧ s40 = .int .i64 (k : Int) ∧ OwnI 3 (w.heap.size + 3) wr (.slice B1 SS.length n1) SS ∧ OwnI 3 (w.heap.size + 3) wr (.slice B2 NM n2) (uMk Ma Mb k) ∧ Arr wr g 24 [.slice B1 SS.length n1, .slice B2 NM n2, .int .i64 L] ∧ Arr wr w.heap.size 24 [.slice A Sa.length c, .slice A2 Ma.length c2, .int .i64 La] ∧ Arr wr (w.heap.size + 1) 24 [.slice A3 Sb.length c3, .slice A4 Mb.length c4, .int .i64 Lb] ∧ Arr wr (w.heap.size + 2) 24 [.slice none 0 0, .slice none 0 0, .int .i64 0] ∧ Below w.heap.size w wr)
  case atStart => exact ⟨0, Nat.zero_le _, rfl, rfl, O1.out, O2.out, ag, qa5, qb5, qr5, hbw⟩
  case round =>
    clear O1 O2 ag qa5 qb5 qr5 hbw
    obtain ⟨k, hk, rfl, rfl, o1, o2, ag, qa5, qb5, qr5, hbw⟩ := hrel
    by_cases hlt : k < Mb.length
    · have z1 : (k : Int) < (Mb.length : Int) := by omega
      have hln := uMk_length Ma Mb k
      obtain ⟨bk, hB, hb1, hn1, hcell, hfro, hset⟩ := o2.setAt (i := Ma.length + k) (by omega)
      subst hB
      rw [uMk_get hlt] at hcell
      have hmk := HMBV.out k hlt
      have HST := Lib.hid (show OwnI 3 (w.heap.size + 3) (wr.setCell ⟨bk, Ma.length + k, none⟩ (.int .i64 (Mb[k] + (Ma.length : Int)))) (.slice (some ⟨bk, 0, none⟩) NM n2) (uMk Ma Mb (k + 1)) from by have h := hset (Mb[k] + (Ma.length : Int)); rw [uMk_set hlt] at h; exact h)
      have hne1 : bk ≠ g := fun e => (o2.apart ag (by decide)) (by rw [e]; rfl)
      have hn3 := HH.out
      have hne2 : (Value.slice B1 SS.length n1).ownBlock ≠ some bk := fun e => O3.out bk e rfl
      have O1 := Lib.hid o1
      have hNM := HNM.out
      have z2 : (Ma.length : Int) + (k : Int) < (NM : Int) := by omega
      have e1 : (Ma.length : Int) + (k : Int) = ((Ma.length + k : Nat) : Int) := by omega
      obtain ⟨ak, hak⟩ : ∃ a, a = Ma.length + k := ⟨_, rfl⟩
      rw [← hak] at HST hcell hfro e1
      have z3 : (ak : Int) < (NM : Int) := by omega
      generalize Mb[k] = mv at *
      have HAK := Lib.hid hak
      clear o1 o2 hset hln hn1 hNM hak
      go_upto_region 7 with fail
      have y0 := ag.cell 1
      have y1 := qa5.cell 1
      refine wp_region_table 14 (by kernel_rfl) (by kernel_rfl) (by kernel_rfl) (by kernel_rfl) (by kernel_rfl) rfl (by kernel_rfl) (fun i => [Value.pointer (some ⟨g, 1, none⟩), Value.slice (some ⟨bk, 0, none⟩) NM n2, Value.pointer (some ⟨w.heap.size, 1, none⟩), Value.slice A2 Ma.length c2, Value.int .i64 (Ma.length : Int), Value.int .i64 (k : Int), Value.int .i64 (ak : Int), Value.pointer (some ⟨bk, ak, none⟩), Value.int .i64 mv, Value.pointer (some ⟨w.heap.size, 1, none⟩), Value.slice A2 Ma.length c2, Value.int .i64 (Ma.length : Int), Value.int .i64 (mv + (Ma.length : Int)), Value.pointer (some ⟨bk, ak, none⟩), undef].getD i undef) (fun W => W.setCell ⟨bk, ak, none⟩ (.int .i64 (mv + (Ma.length : Int)))) ⟨?_, ?_, ?_, ?_, ?_, ?_, ?_, ?_, ?_, ?_, ?_, ?_, ?_, ?_, ?_, trivial⟩ ?_
      · intro m b hb
        have e8 : b.tmps[8]?.getD undef = Value.pointer (some ⟨g, 0, none⟩) := hb 8 rfl
        refine tab_run (by decide) (Value.pointer (some ⟨g, 1, none⟩)) rfl ?_
        clear hb
        go_simp
      · intro m b hb
        have e43 : b.tmps[43]?.getD undef = Value.pointer (some ⟨g, 1, none⟩) := hb 43 rfl
        refine tab_run (by decide) (Value.slice (some ⟨bk, 0, none⟩) NM n2) rfl ?_
        clear hb
        go_simp
      · intro m b hb
        have e3 : b.tmps[3]?.getD undef = Value.pointer (some ⟨w.heap.size, 0, none⟩) := hb 3 rfl
        refine tab_run (by decide) (Value.pointer (some ⟨w.heap.size, 1, none⟩)) rfl ?_
        clear hb
        go_simp
      · intro m b hb
        have e45 : b.tmps[45]?.getD undef = Value.pointer (some ⟨w.heap.size, 1, none⟩) := hb 45 rfl
        refine tab_run (by decide) (Value.slice A2 Ma.length c2) rfl ?_
        clear hb
        go_simp
      · intro m b hb
        have e46 : b.tmps[46]?.getD undef = Value.slice A2 Ma.length c2 := hb 46 rfl
        refine tab_run (by decide) (Value.int .i64 (Ma.length : Int)) rfl ?_
        clear hb
        go_simp
      · intro m b hb
        have e9 : b.tmps[9]?.getD undef = Value.int .i64 (k : Int) := hb 9 rfl
        refine tab_run (by decide) (Value.int .i64 (k : Int)) rfl ?_
        clear hb
        go_simp
      · intro m b hb
        have e47 : b.tmps[47]?.getD undef = Value.int .i64 (Ma.length : Int) := hb 47 rfl
        have e48 : b.tmps[48]?.getD undef = Value.int .i64 (k : Int) := hb 48 rfl
        refine tab_run (by decide) (Value.int .i64 (ak : Int)) rfl ?_
        clear hb
        go_simp
        exact IntWalk.i64_in _ (by omega)
      · intro m b hb
        have e44 : b.tmps[44]?.getD undef = Value.slice (some ⟨bk, 0, none⟩) NM n2 := hb 44 rfl
        have e49 : b.tmps[49]?.getD undef = Value.int .i64 (ak : Int) := hb 49 rfl
        refine tab_run (by decide) (Value.pointer (some ⟨bk, ak, none⟩)) rfl ?_
        clear hb
        go_simp
      · intro m b hb
        have e50 : b.tmps[50]?.getD undef = Value.pointer (some ⟨bk, ak, none⟩) := hb 50 rfl
        refine tab_run (by decide) (Value.int .i64 mv) rfl ?_
        clear hb
        go_simp
      · intro m b hb
        have e3 : b.tmps[3]?.getD undef = Value.pointer (some ⟨w.heap.size, 0, none⟩) := hb 3 rfl
        refine tab_run (by decide) (Value.pointer (some ⟨w.heap.size, 1, none⟩)) rfl ?_
        clear hb
        go_simp
      · intro m b hb
        have e52 : b.tmps[52]?.getD undef = Value.pointer (some ⟨w.heap.size, 1, none⟩) := hb 52 rfl
        refine tab_run (by decide) (Value.slice A2 Ma.length c2) rfl ?_
        clear hb
        go_simp
      · intro m b hb
        have e53 : b.tmps[53]?.getD undef = Value.slice A2 Ma.length c2 := hb 53 rfl
        refine tab_run (by decide) (Value.int .i64 (Ma.length : Int)) rfl ?_
        clear hb
        go_simp
      · intro m b hb
        have e51 : b.tmps[51]?.getD undef = Value.int .i64 mv := hb 51 rfl
        have e54 : b.tmps[54]?.getD undef = Value.int .i64 (Ma.length : Int) := hb 54 rfl
        refine tab_run (by decide) (Value.int .i64 (mv + (Ma.length : Int))) rfl ?_
        clear hb
        go_simp
        exact IntWalk.i64_in _ (by omega)
      · intro m b hb
        have e44 : b.tmps[44]?.getD undef = Value.slice (some ⟨bk, 0, none⟩) NM n2 := hb 44 rfl
        have e49 : b.tmps[49]?.getD undef = Value.int .i64 (ak : Int) := hb 49 rfl
        refine tab_run (by decide) (Value.pointer (some ⟨bk, ak, none⟩)) rfl ?_
        clear hb
        go_simp
      · intro m b hb
        have e55 : b.tmps[55]?.getD undef = Value.int .i64 (mv + (Ma.length : Int)) := hb 55 rfl
        have e56 : b.tmps[56]?.getD undef = Value.pointer (some ⟨bk, ak, none⟩) := hb 56 rfl
        refine tab_store undef rfl _ rfl ?_ rfl
        clear hb
        go_simp
      intro m
      simp only [putAll, dstOf, Act.put, List.map_cons, List.map_nil, List.setIfInBounds_toArray, List.set_cons_succ, List.set_cons_zero, Nat.reduceAdd, List.getD_cons_succ, List.getD_cons_zero]
      clear y0 y1
      go_wp2_with fail
      go_roundg (Mb.length - (k + 1))
      case measure => omega
      case rel =>
        exact ⟨k + 1, by omega, rfl, by go_num, (O1.out.far hne2 _).drewN _, (HST.out).drewN _, (ag.far (p := ⟨bk, ak, none⟩) (by show g ≠ bk; omega) _).drewN _, (qa5.far (p := ⟨bk, ak, none⟩) (by show w.heap.size ≠ bk; omega) _).drewN _, (qb5.far (p := ⟨bk, ak, none⟩) (by show w.heap.size + 1 ≠ bk; omega) _).drewN _, (qr5.far (p := ⟨bk, ak, none⟩) (by show w.heap.size + 2 ≠ bk; omega) _).drewN _, bdrewN (hbw.setCell (p := ⟨bk, ak, none⟩) (by show w.heap.size ≤ bk; omega) _) _⟩
    · have z1 : ¬ ((k : Int) < (Mb.length : Int)) := by omega
      obtain rfl : k = Mb.length := by omega
      rw [uMk_all] at o2
      have hg1 := (o1.apart qr5 (by decide))
      have hg2 := (o2.apart qr5 (by decide))
      have O1 := Lib.hid o1
      have O2 := Lib.hid o2
      clear o1 o2 hlt
      have hres := Lib.hid (((qr5.set 0 (.slice B1 SS.length n1)).set 1 (.slice B2 NM n2)).set 2 (.int .i64 L))
      have y0 := ag.cell 0
      have y1 := ag.cell 1
      have y2 := ag.cell 2
      have x0 := qr5.cell 0
      have x1 := qr5.cell 1
      have x2 := qr5.cell 2
      have f0 := qr5.frozen 0
      have f1 := qr5.frozen 1
      have f2 := qr5.frozen 2
      go_wp2_with fail
      refine bodyPost_ret (v := .tuple #[.agg #[.slice B1 SS.length n1, .slice B2 NM n2, .int .i64 L], .int .i64 0]) (results_ct Try.results58 _ _ (w.heap.size + 2) 24 _ _ rfl hres.out Try.underlying24 rfl info_diag) rfl ?_
      exact ⟨_, _, rfl, (((O1.out.far hg1 _).far hg1 _).far hg1 _).base (by omega), (((O2.out.far hg2 _).far hg2 _).far hg2 _).base (by omega), O3.out, ((hbw.setCell (p := ⟨w.heap.size + 2, 0, none⟩) (by simp) _).setCell (p := ⟨w.heap.size + 2, 1, none⟩) (by simp) _).setCell (p := ⟨w.heap.size + 2, 2, none⟩) (by simp) _⟩
end Go.Proofs.Ytcjaloddgilnpaa

namespace Go.Proofs.Ytcjaloddgilnpaa
open Go.RowKit
set_option linter.unusedVariables false

/-- four cells of one block written -/
def w4 (w : World) (b : Nat) (i1 i2 i3 i4 : Nat) (a1 a2 a3 a4 : Int) : World := (((w.setCell ⟨b, i1, none⟩ (.int .i64 a1)).setCell ⟨b, i2, none⟩ (.int .i64 a2)).setCell ⟨b, i3, none⟩ (.int .i64 a3)).setCell ⟨b, i4, none⟩ (.int .i64 a4)
theorem Arr.w4 {w : World} {b g i1 i2 i3 i4 : Nat} {a1 a2 a3 a4 : Int} {t : TypeId} {cs : List Value} (h : Arr w g t cs) (hg : g ≠ b) : Arr (Go.Proofs.Ytcjaloddgilnpaa.w4 w b i1 i2 i3 i4 a1 a2 a3 a4) g t cs :=
  (((h.far (p := ⟨b, i1, none⟩) hg _).far (p := ⟨b, i2, none⟩) hg _).far (p := ⟨b, i3, none⟩) hg _).far (p := ⟨b, i4, none⟩) hg _
theorem OwnI.w4 {w : World} {b base i1 i2 i3 i4 : Nat} {a1 a2 a3 a4 : Int} {t : TypeId} {v : Value} {xs : List Int} (h : OwnI t base w v xs) (hg : v.ownBlock ≠ some b) : OwnI t base (Go.Proofs.Ytcjaloddgilnpaa.w4 w b i1 i2 i3 i4 a1 a2 a3 a4) v xs := (((h.far hg _).far hg _).far hg _).far hg _
theorem Below.w4 {w a : World} {b B i1 i2 i3 i4 : Nat} {a1 a2 a3 a4 : Int} (h : Below B a w) (hg : B ≤ b) : Below B a (Go.Proofs.Ytcjaloddgilnpaa.w4 w b i1 i2 i3 i4 a1 a2 a3 a4) :=
  (((h.setCell (p := ⟨b, i1, none⟩) hg _).setCell (p := ⟨b, i2, none⟩) hg _).setCell (p := ⟨b, i3, none⟩) hg _).setCell (p := ⟨b, i4, none⟩) hg _
theorem mt_cast {M : List Int} {i : Nat} (hi : i < M.length) (h0 : 0 ≤ M[i]) : M[i] = ((mt M i : Nat) : Int) := by
  unfold mt
  rw [List.getElem?_eq_getElem hi]
  show M[i] = ((M[i].toNat : Nat) : Int)
  omega
theorem cross_facts {A : Option Addr} {n c base : Nat} {M : List Int} {x y : Nat} {w : World} (h : OwnI 3 base w (.slice A n c) M) (hx : x < M.length) (hy : y < M.length) (hp : mt M x < M.length) (hq : mt M y < M.length) (h0x : 0 ≤ M[x]) (h0y : 0 ≤ M[y]) :
    ∃ b, A = some ⟨b, 0, none⟩ ∧ base ≤ b ∧ n = M.length ∧ w.cell? ⟨b, x, none⟩ = some (.int .i64 (mt M x : Nat)) ∧ w.cell? ⟨b, y, none⟩ = some (.int .i64 (mt M y : Nat)) ∧ (∀ i, w.frozen? ⟨b, i, none⟩ = false) ∧ (∀ i, i < M.length → w.cell? ⟨b, i, none⟩ = some (.int .i64 (M[i]?.getD 0))) ∧ OwnI 3 base (w4 w b x (mt M y) y (mt M x) (mt M y : Nat) (x : Nat) (mt M x : Nat) (y : Nat)) (.slice A n c) (crM M x y) := by
  obtain ⟨b, hA, hb, hn, hcx, hf0, hs1⟩ := h.setAt hx
  obtain ⟨b', hA', _, _, hcy, hf1, _⟩ := h.setAt hy
  rw [hA] at hA'
  injection hA' with hA'
  injection hA' with hA' _
  subst hA'
  rw [mt_cast hx h0x] at hcx
  rw [mt_cast hy h0y] at hcy
  have same : ∀ k, some (⟨b, 0, none⟩ : Addr) = some ⟨k, 0, none⟩ → k = b := fun k e => by injection e with e; injection e with e _; exact e.symm
  obtain ⟨k2, hk2, _, _, _, _, g2⟩ := (hs1 (mt M y : Nat)).setAt (i := mt M y) (by simpa using hq)
  rw [hA] at hk2
  have e2 := same k2 hk2
  rw [e2] at g2
  obtain ⟨k3, hk3, _, _, _, _, g3⟩ := (g2 (x : Nat)).setAt (i := y) (by simpa using hy)
  rw [hA] at hk3
  have e3 := same k3 hk3
  rw [e3] at g3
  obtain ⟨k4, hk4, _, _, _, _, g4⟩ := (g3 (mt M x : Nat)).setAt (i := mt M x) (by simpa using hp)
  rw [hA] at hk4
  have e4 := same k4 hk4
  rw [e4] at g4
  refine ⟨b, hA, hb, hn, hcx, hcy, fun i => ?_, fun i hi => ?_, g4 (y : Nat)⟩
  rotate_left
  · obtain ⟨k5, hk5, _, _, hc5, _, _⟩ := h.setAt hi
    rw [hA] at hk5
    have e5 := same k5 hk5
    rw [e5] at hc5
    rw [hc5, List.getElem?_eq_getElem hi]; rfl
  rcases h.2 with ⟨h1, h0⟩ | ⟨g, cap, cur, hv, _, hh, r⟩
  · injection h1 with h1; rw [hA] at h1; cases h1
  · injection hv with hv
    rw [hA] at hv
    have eg := same g hv
    subst eg
    exact frozen_of_row w g i _ 3 hh
set_option maxHeartbeats 2000000 in
theorem cross_any (A : Option Addr) (n c base : Nat) (M : List Int) (x y : Nat) (w : World) (h : OwnI 3 base w (.slice A n c) M) (hx : x < M.length) (hy : y < M.length) (hp : mt M x < M.length) (hq : mt M y < M.length) (h0x : 0 ≤ M[x]) (h0y : 0 ≤ M[y]) (d1 : x ≠ y) (d2 : x ≠ mt M x) (d3 : x ≠ mt M y) (d4 : y ≠ mt M x) (d5 : y ≠ mt M y) (d6 : mt M x ≠ mt M y) :
    Calls Try.prog 59 #[.slice A n c, .int .i64 (x : Nat), .int .i64 (y : Nat)] w fun e w' => e = .returned (.tuple #[]) ∧ OwnI 3 base w' (.slice A n c) (crM M x y) ∧ ∃ b q, A = some ⟨b, 0, none⟩ ∧ base ≤ b ∧ w' = w4 (w.drewN q) b x (mt M y) y (mt M x) (mt M y : Nat) (x : Nat) (mt M x : Nat) (y : Nat) := by
  obtain ⟨b, rfl, hb, rfl, hcx, hcy, hf, hcc, hF⟩ := cross_facts h hx hy hp hq h0x h0y
  have HF := Lib.hid hF
  clear hF h h0x h0y
  have c2 := hcc _ hp
  have c3 := hcc _ hq
  clear hcc
  have z1 : (x : Int) < (M.length : Int) := by omega
  have z2 : (y : Int) < (M.length : Int) := by omega
  have z3 : ((mt M x : Nat) : Int) < (M.length : Int) := by omega
  have z4 : ((mt M y : Nat) : Int) < (M.length : Int) := by omega
  generalize mt M x = p at *
  generalize mt M y = q at *
  generalize crM M x y = R at *
  generalize M[p]?.getD 0 = vp at *
  generalize M[q]?.getD 0 = vq at *
  have d1' := d1.symm
  have d2' := d2.symm
  have d3' := d3.symm
  have d4' := d4.symm
  have d5' := d5.symm
  have d6' := d6.symm
  have f0 := hf x
  have f1 := hf y
  have f2 := hf p
  have f3 := hf q
  clear hf
  go_enter Try.func59, Try.ntmps59
  go_wp2_with fail
  go_quiet (fail)
  go_wp2_with fail
  go_end0
  exact ⟨rfl, HF.out, b, _, rfl, hb, rfl⟩
/-- some bool -/
def SomeB (e : Ending) : Prop := ∃ o : Bool, e = .returned (.bool o)
set_option maxHeartbeats 2000000 in
theorem outgoing_any (vs vm : Value) (S M : List Int) (L : Int) (x : Nat) (w : World) (hS : Ints w vs S) (hM : Ints w vm M) (hx : x < 4 * S.length) (hn : S.length ≤ 1000) :
    Calls Try.prog 75 #[.agg #[vs, vm, .int .i64 L], .int .i64 (x : Nat)] w fun e w' => SomeB e ∧ Below w.heap.size w w' := by
  have hW : Arr (w.alloc (.cells #[vs, vm, .int .i64 L] 24)) w.heap.size 24 [vs, vm, .int .i64 L] ∧ Below w.heap.size w (w.alloc (.cells #[vs, vm, .int .i64 L] 24)) := ⟨Arr.new w _ _, (Below.refl _ _).alloc (Nat.le_refl _) _⟩
  obtain ⟨A, c, rfl, hc, hxS⟩ := hS
  obtain ⟨A2, c2, rfl, hc2, hx2⟩ := hM
  clear hx2
  obtain ⟨b, o, hA, hcell⟩ := hxS (x / 4) (gi S (x / 4)) (by unfold gi; rw [List.getElem?_eq_getElem (by omega)]; rfl)
  subst hA
  clear hxS
  have hb : b < w.heap.size := block_lt_of_cell hcell
  have hc1 := fun W (hb2 : Below w.heap.size w W) => (hb2.cell (p := ⟨b, o + x / 4, none⟩) hb).trans hcell
  generalize gi S (x / 4) = s at *
  obtain ⟨k, hk⟩ : ∃ k, k = x / 4 := ⟨_, rfl⟩
  have e4 : (x : Int) / 4 = (k : Int) := by omega
  have z1 : (k : Int) < (S.length : Int) := by omega
  rw [← hk] at hcell hc1
  have HC := Lib.hid hc1
  clear hk hc1 hcell
  go_enter Try.func75, Try.ntmps75
  go_upto_region 1 with fail
  generalize (w.alloc (.cells #[.slice (some ⟨b, o, none⟩) S.length c, .slice A2 M.length c2, .int .i64 L] 24)) = w4 at hW ⊢
  obtain ⟨q0, hb4⟩ := hW
  have y0 := q0.cell 0
  have y1 := HC.out w4 hb4
  clear HC
  rcases (by omega : x % 4 = 0 ∨ x % 4 = 1 ∨ x % 4 = 2 ∨ x % 4 = 3) with q | q | q | q
  · have q1 : (x : Int) % 4 = 0 := by omega
    go_wp2_with fail
    all_goals
      go_ret
      exact ⟨⟨_, rfl⟩, hb4⟩
  · have q1 : (x : Int) % 4 = 1 := by omega
    go_wp2_with fail
    all_goals
      go_ret
      exact ⟨⟨_, rfl⟩, hb4⟩
  · have q1 : (x : Int) % 4 = 2 := by omega
    go_wp2_with fail
    all_goals
      go_ret
      exact ⟨⟨_, rfl⟩, hb4⟩
  · have q1 : (x : Int) % 4 = 3 := by omega
    go_wp2_with fail
    all_goals
      go_ret
      exact ⟨⟨_, rfl⟩, hb4⟩
/-- what end tells -/
def EndP (L x : Int) (N : Nat) (e : Ending) : Prop := ∃ o : Bool, e = .returned (.bool o) ∧ (o = true → (x = -1 ∧ 0 < L) ∨ (0 ≤ x ∧ x < (N : Int)))
set_option maxHeartbeats 2000000 in
theorem end_any (vs vm : Value) (S M : List Int) (L x : Int) (w : World) (hS : Ints w vs S) (hM : Ints w vm M) (hm : M.length = 4 * S.length) (hn : S.length ≤ 1000) :
    Calls Try.prog 57 #[.agg #[vs, vm, .int .i64 L], .int .i64 x] w fun e w' => EndP L x M.length e ∧ Below w.heap.size w w' := by
  have hW : Arr (w.alloc (.cells #[vs, vm, .int .i64 L] 24)) w.heap.size 24 [vs, vm, .int .i64 L] ∧ Below w.heap.size w (w.alloc (.cells #[vs, vm, .int .i64 L] 24)) := ⟨Arr.new w _ _, (Below.refl _ _).alloc (Nat.le_refl _) _⟩
  have HO := Lib.hid (fun (k : Nat) (hk : k < 4 * S.length) W (hb : Below w.heap.size w W) => outgoing_any vs vm S M L k W (hS.below hb) (hM.below hb) hk hn)
  obtain ⟨A, c, rfl, hc, hx⟩ := hS
  obtain ⟨A2, c2, rfl, hc2, hx2⟩ := hM
  clear hx hx2
  have HM := Lib.hid hm
  clear hm
  by_cases h1 : x = -1
  · have z1 : (x == -1) = true := by simp [h1]
    by_cases h2 : 0 < L
    · go_enter Try.func57, Try.ntmps57
      go_wp2_with fail
      go_ret
      exact ⟨⟨_, rfl, fun _ => .inl ⟨h1, h2⟩⟩, hW.2⟩
    · go_enter Try.func57, Try.ntmps57
      go_wp2_with fail
      go_ret
      exact ⟨⟨_, rfl, fun h => by cases h⟩, hW.2⟩
  · have z1 : (x == -1) = false := by simp [h1]
    by_cases h2 : 0 ≤ x
    · by_cases h3 : x < (M.length : Int)
      · obtain ⟨k, rfl⟩ : ∃ k : Nat, x = (k : Int) := ⟨x.toNat, by omega⟩
        have HO1 := Lib.hid (HO.out k (by have := HM.out; omega))
        clear HO h1
        go_enter Try.func57, Try.ntmps57
        go_upto_region 1 with fail
        generalize (w.alloc (.cells #[.slice A S.length c, .slice A2 M.length c2, .int .i64 L] 24)) = w4 at hW ⊢
        obtain ⟨q0, hb4⟩ := hW
        have y0 := q0.cell 0
        have y1 := q0.cell 1
        have y2 := q0.cell 2
        go_wp2_with (go_at_call 75; refine (HO1.out _ hb4).mono ?_; rintro e w5 ⟨⟨o, rfl⟩, hb5⟩)
        go_ret
        exact ⟨⟨_, rfl, fun _ => .inr ⟨h2, h3⟩⟩, hb4.trans (hb5.mono hb4.size)⟩
      · go_enter Try.func57, Try.ntmps57
        go_wp2_with fail
        go_ret
        exact ⟨⟨_, rfl, fun h => by cases h⟩, hW.2⟩
    · go_enter Try.func57, Try.ntmps57
      go_wp2_with fail
      go_ret
      exact ⟨⟨_, rfl, fun h => by cases h⟩, hW.2⟩
end Go.Proofs.Ytcjaloddgilnpaa
