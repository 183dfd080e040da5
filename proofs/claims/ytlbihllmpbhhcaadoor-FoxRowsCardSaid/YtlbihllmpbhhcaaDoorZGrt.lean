/- The fundamental formula and the chain rule of Fox derivatives: plain. -/
/- the laws' great, fits; the reference's Degree. -/
import Derived.Test.YtlbihllmpbhhcaaDoorZCv
import Derived.Test.YtlbihllmpbhhcaaDoorZFde
import Derived.Test.YtlbihllmpbhhcaaDoorZPsh
namespace Go.Proofs.YtlbihllmpbhhcaaDoor
set_option linter.unusedVariables false

def dl (a e : Int) : Int := if a = e then 1 else 0
/-- the sum of the derivatives, each times the image of its generator less 1 -/
def fsm (comp w : List Int) : Nat → Int → Int
  | 0, _ => 0
  | k + 1, e => fsm comp w k e + (dF comp (k : Int) w (e - cg comp (k : Int)) - dF comp (k : Int) w e)
theorem dF_cons (comp : List Int) (g x : Int) (w : List Int) (e : Int) : dF comp g (x :: w) e = dF comp g [x] e + dF comp g w (e - dg comp [x]) := dF_append comp g [x] w e
theorem dg_cons (comp : List Int) (x : Int) (w : List Int) : dg comp (x :: w) = dg comp [x] + dg comp w := dg_append comp [x] w
theorem fsm_cons (comp : List Int) (x : Int) (w : List Int) : ∀ (n : Nat) (e : Int), fsm comp (x :: w) n e = fsm comp [x] n e + fsm comp w n (e - dg comp [x])
  | 0, _ => rfl
  | k + 1, e => by
    rw [fsm, fsm, fsm, fsm_cons comp x w k, dF_cons, dF_cons comp _ x w e, show e - cg comp (k : Int) - dg comp [x] = e - dg comp [x] - cg comp (k : Int) by omega]
    omega
theorem fsm_nil (comp : List Int) : ∀ (n : Nat) (e : Int), fsm comp [] n e = 0
  | 0, _ => rfl
  | k + 1, e => by rw [fsm, fsm_nil comp k, dF_nil, dF_nil]; rfl
theorem fsm_one (comp : List Int) {x : Int} : ∀ (n : Nat) (e : Int), fsm comp [x] n e = if 0 ≤ gnr x ∧ gnr x < n then dl (dg comp [x]) e - dl 0 e else 0
  | 0, e => by rw [if_neg (by omega)]; rfl
  | k + 1, e => by
    rw [fsm, fsm_one comp k]
    by_cases h : gnr x = (k : Int)
    · rw [if_neg (by omega), if_pos (by omega), dF_one, dF_one, if_pos h, if_pos h, dg_one]
      unfold gnr at h
      by_cases hx : 0 < x
      · rw [if_pos hx] at h
        rw [if_pos hx, if_pos hx, if_pos hx, h]
        unfold dl
        split <;> split <;> split <;> split <;> omega
      · rw [if_neg hx] at h
        rw [if_neg hx, if_neg hx, if_neg hx, h]
        unfold dl
        split <;> split <;> split <;> split <;> omega
    · rw [dF_one, dF_one, if_neg h, if_neg h]
      by_cases h2 : 0 ≤ gnr x ∧ gnr x < k
      · rw [if_pos h2, if_pos (by omega)]; omega
      · rw [if_neg h2, if_neg (by omega)]; rfl
/-- the fundamental formula -/
theorem fund (comp : List Int) (n : Nat) : ∀ (w : List Int), (∀ x ∈ w, 0 ≤ gnr x ∧ gnr x < n) → ∀ e, fsm comp w n e = dl (dg comp w) e - dl 0 e
  | [], _, e => by rw [fsm_nil, dg_nil]; omega
  | x :: w, h, e => by
    rw [fsm_cons, fsm_one, if_pos (h x (List.mem_cons_self ..)), fund comp n w (fun y hy => h y (List.mem_cons_of_mem _ hy)), dg_cons comp x w]
    have e1 : dl 0 (e - dg comp [x]) = dl (dg comp [x]) e := by
      unfold dl
      by_cases h1 : dg comp [x] = e
      · rw [if_pos h1, if_pos (by omega)]
      · rw [if_neg h1, if_neg (by omega)]
    have e2 : dl (dg comp w) (e - dg comp [x]) = dl (dg comp [x] + dg comp w) e := by
      unfold dl
      by_cases h1 : dg comp [x] + dg comp w = e
      · rw [if_pos h1, if_pos (by omega)]
      · rw [if_neg h1, if_neg (by omega)]
    rw [e1, e2]
    omega
theorem gnr_bd {x : Int} {n : Nat} (h0 : x ≠ 0) (h1 : x ≤ n) (h2 : -(n : Int) ≤ x) : 0 ≤ gnr x ∧ gnr x < n := by unfold gnr; split <;> omega
theorem dF_bd (comp : List Int) (g : Int) (w : List Int) (e : Int) : (dF comp g w e).natAbs ≤ w.length := by
  unfold dF
  have h1 : ∀ t ∈ drv comp g w 0, t.2.natAbs ≤ 1 := by
    intro t ht
    have key : ∀ (w : List Int) (d : Int), ∀ t ∈ drv comp g w d, t.2.natAbs ≤ 1 := by
      intro w
      induction w with
      | nil => intro d t ht; cases ht
      | cons x w ih =>
        intro d t ht
        rw [drv] at ht
        rcases List.mem_append.1 ht with ht | ht
        · split at ht
          · rw [List.mem_singleton.1 ht]; unfold trm; split <;> exact Nat.le_refl _
          · cases ht
        · exact ih _ t ht
    exact key w 0 t ht
  have h2 := cf_natAbs_le h1 e
  have h3 := drv_len comp g w 0
  omega
theorem fsm_bd (comp w : List Int) : ∀ (n : Nat) (e : Int), (fsm comp w n e).natAbs ≤ n * (2 * w.length)
  | 0, e => by rw [fsm]; simp
  | k + 1, e => by
    have h1 := fsm_bd comp w k e
    have h2 := dF_bd comp (k : Int) w e
    have h3 := dF_bd comp (k : Int) w (e - cg comp (k : Int))
    rw [fsm, Nat.succ_mul]; omega
/-- a summand of the fundamental formula -/
theorem cv_gen {p l : List (Int × Int)} {x : Int} (h : ∀ e, cf l e = dl x e - dl 0 e) (e : Int) : cv p l e = cf p (e - x) - cf p e := by
  have h1 : ∀ y, cf l y = cf [(x, 1), (0, -1)] y := fun y => by
    rw [h, cf_cons, cf_one]
    unfold dl
    split <;> split <;> omega
  rw [cv_congr (fun _ => rfl) h1]
  simp only [cv, cvF]
  rw [Int.sub_zero]; omega
/-- words into which words are substituted -/
def sbs (im : List (List Int)) : List Int → List Int
  | [] => []
  | x :: w => (if 0 < x then im[(x - 1).toNat]?.getD [] else invW (im[(-x - 1).toNat]?.getD [])) ++ sbs im w
theorem sbs_append (im : List (List Int)) (u v : List Int) : sbs im (u ++ v) = sbs im u ++ sbs im v := by
  induction u with
  | nil => rfl
  | cons x u ih => rw [List.cons_append, sbs, sbs, ih, List.append_assoc]
theorem sbs_mem {im : List (List Int)} {w : List Int} {y : Int} (h : y ∈ sbs im w) : ∃ m ∈ im, y ∈ m ∨ -y ∈ m := by
  induction w with
  | nil => cases h
  | cons x w ih =>
    rw [sbs] at h
    rcases List.mem_append.1 h with h | h
    · split at h
      · cases hc : im[(x - 1).toNat]? with
        | none => rw [hc] at h; cases h
        | some m => rw [hc] at h; exact ⟨m, List.mem_of_getElem? hc, .inl h⟩
      · cases hc : im[(-x - 1).toNat]? with
        | none => rw [hc] at h; cases h
        | some m =>
          rw [hc] at h
          refine ⟨m, List.mem_of_getElem? hc, .inr ?_⟩
          have h2 : y ∈ invW m := h
          unfold invW at h2
          rw [List.mem_reverse, List.mem_map] at h2
          obtain ⟨z, hz, rfl⟩ := h2
          rw [Int.neg_neg]; exact hz
    · exact ih h
theorem sbs_len {im : List (List Int)} {N : Nat} (h : ∀ m ∈ im, m.length ≤ N) : ∀ w, (sbs im w).length ≤ w.length * N
  | [] => by simp [sbs]
  | x :: w => by
    have ih := sbs_len h w
    have key : ∀ k : Nat, (im[k]?.getD []).length ≤ N := fun k => by
      cases hc : im[k]? with
      | none => simp
      | some m => exact h m (List.mem_of_getElem? hc)
    have k1 := key (x - 1).toNat
    have k2 := key (-x - 1).toNat
    rw [sbs, List.length_append, List.length_cons, Nat.succ_mul]
    split
    · omega
    · have : (invW (im[(-x - 1).toNat]?.getD [])).length = (im[(-x - 1).toNat]?.getD []).length := by unfold invW; simp
      omega
/-- the sum of the chain rule -/
def csm (comp inner : List Int) (g : Int) (im : List (List Int)) (w : List Int) : Nat → Int → Int
  | 0, _ => 0
  | k + 1, e => csm comp inner g im w k e + cvF (dF inner (k : Int) w) (drv comp g (im[k]?.getD []) 0) e
theorem csm_cons (comp inner : List Int) (g : Int) (im : List (List Int)) (x : Int) (w : List Int) : ∀ (n : Nat) (e : Int), csm comp inner g im (x :: w) n e = csm comp inner g im [x] n e + csm comp inner g im w n (e - dg inner [x])
  | 0, _ => rfl
  | k + 1, e => by
    rw [csm, csm, csm, csm_cons comp inner g im x w k, cvF_congr (fun y => dF_cons inner (k : Int) x w y), cvF_add, cvF_shift (dF inner (k : Int) w)]
    omega
theorem csm_nil (comp inner : List Int) (g : Int) (im : List (List Int)) : ∀ (n : Nat) (e : Int), csm comp inner g im [] n e = 0
  | 0, _ => rfl
  | k + 1, e => by rw [csm, csm_nil comp inner g im k, cvF_congr (fun y => dF_nil inner (k : Int) y), cvF_zero]; rfl
/-- the degrees of the images -/
def inn (comp : List Int) (im : List (List Int)) : List Int := im.map (dg comp)
theorem cg_inn (comp : List Int) (im : List (List Int)) (k : Nat) (h : k < im.length) : cg (inn comp im) (k : Int) = dg comp (im[k]?.getD []) := by
  unfold cg inn
  rw [show ((k : Int)).toNat = k by omega, List.getElem?_map, List.getElem?_eq_getElem h]; rfl
def img1 (im : List (List Int)) (x : Int) : List Int := if 0 < x then im[(x - 1).toNat]?.getD [] else invW (im[(-x - 1).toNat]?.getD [])
theorem im_ne {im : List (List Int)} (h : ∀ m ∈ im, ∀ x ∈ m, x ≠ 0) (k : Nat) : ∀ x ∈ im[k]?.getD [], x ≠ 0 := by
  intro x hx
  cases hc : im[k]? with
  | none => rw [hc] at hx; cases hx
  | some m => rw [hc] at hx; exact h m (List.mem_of_getElem? hc) x hx
theorem csm_one (comp : List Int) (g : Int) (im : List (List Int)) (hne : ∀ m ∈ im, ∀ x ∈ m, x ≠ 0) {x : Int} (hx : x ≠ 0) : ∀ (n : Nat), n ≤ im.length → ∀ (e : Int), csm comp (inn comp im) g im [x] n e = if 0 ≤ gnr x ∧ gnr x < n then dF comp g (img1 im x) e else 0
  | 0, _, e => by rw [if_neg (by omega)]; rfl
  | k + 1, hk, e => by
    rw [csm, csm_one comp g im hne hx k (by omega)]
    by_cases h : gnr x = (k : Int)
    · rw [if_neg (by omega), if_pos (by omega)]
      unfold img1
      by_cases h0 : 0 < x
      · have hk2 : (x - 1).toNat = k := by unfold gnr at h; rw [if_pos h0] at h; omega
        have h1 : ∀ y, dF (inn comp im) (k : Int) [x] y = if (0 : Int) = y then (1 : Int) else 0 := fun y => by
          rw [dF_one, if_pos h, if_pos h0]
          by_cases hy : y = 0
          · rw [if_pos hy, if_pos hy.symm]
          · rw [if_neg hy, if_neg (fun q => hy q.symm)]
        rw [cvF_congr h1, cvF_single (0, 1), if_pos h0, hk2]
        show 0 + 1 * cf (drv comp g (im[k]?.getD []) 0) (e - 0) = dF comp g _ e
        unfold dF
        rw [Int.sub_zero]; omega
      · have hk2 : (-x - 1).toNat = k := by unfold gnr at h; rw [if_neg h0] at h; omega
        have hk3 : -x - 1 = (k : Int) := by unfold gnr at h; rw [if_neg h0] at h; omega
        have h1 : ∀ y, dF (inn comp im) (k : Int) [x] y = if -dg comp (im[k]?.getD []) = y then (-1 : Int) else 0 := fun y => by
          rw [dF_one, if_pos h, if_neg h0, hk3, cg_inn comp im k (by omega)]
          by_cases hy : y = -dg comp (im[k]?.getD [])
          · rw [if_pos hy, if_pos hy.symm]
          · rw [if_neg hy, if_neg (fun q => hy q.symm)]
        rw [cvF_congr h1, cvF_single (-dg comp (im[k]?.getD []), -1), if_neg h0, hk2, dF_invW comp g (im_ne hne k)]
        show 0 + -1 * cf (drv comp g (im[k]?.getD []) 0) (e - -dg comp (im[k]?.getD [])) = -dF comp g _ _
        unfold dF
        rw [show e - -dg comp (im[k]?.getD []) = e + dg comp (im[k]?.getD []) by omega]; omega
    · have h1 : ∀ y, dF (inn comp im) (k : Int) [x] y = 0 := fun y => by rw [dF_one, if_neg h]
      rw [cvF_congr h1, cvF_zero]
      by_cases h2 : 0 ≤ gnr x ∧ gnr x < k
      · rw [if_pos h2, if_pos (by omega)]; omega
      · rw [if_neg h2, if_neg (by omega)]; rfl
theorem dg_img1 (comp : List Int) (im : List (List Int)) (hne : ∀ m ∈ im, ∀ x ∈ m, x ≠ 0) {x : Int} (hb : 0 ≤ gnr x ∧ gnr x < im.length) : dg (inn comp im) [x] = dg comp (img1 im x) := by
  rw [dg_one]
  unfold img1
  unfold gnr at hb
  by_cases h0 : 0 < x
  · rw [if_pos h0] at hb
    rw [if_pos h0, if_pos h0]
    have := cg_inn comp im (x - 1).toNat (by omega)
    rw [show ((x - 1).toNat : Int) = x - 1 by omega] at this
    exact this
  · rw [if_neg h0] at hb
    rw [if_neg h0, if_neg h0, dg_invW comp (im_ne hne _)]
    have := cg_inn comp im (-x - 1).toNat (by omega)
    rw [show ((-x - 1).toNat : Int) = -x - 1 by omega] at this
    rw [this]
/-- the chain rule -/
theorem chain (comp : List Int) (g : Int) (im : List (List Int)) (hne : ∀ m ∈ im, ∀ x ∈ m, x ≠ 0) : ∀ (w : List Int), (∀ x ∈ w, x ≠ 0 ∧ 0 ≤ gnr x ∧ gnr x < im.length) → ∀ e, csm comp (inn comp im) g im w im.length e = dF comp g (sbs im w) e
  | [], _, e => by rw [csm_nil]; rfl
  | x :: w, h, e => by
    have hx := h x (List.mem_cons_self ..)
    rw [csm_cons, csm_one comp g im hne hx.1 _ (Nat.le_refl _), if_pos hx.2, chain comp g im hne w (fun y hy => h y (List.mem_cons_of_mem _ hy)), dg_img1 comp im hne hx.2]
    show _ = dF comp g (img1 im x ++ sbs im w) e
    rw [dF_append]
theorem cvF_dF_bd (comp inner : List Int) (i g : Int) (w m : List Int) (e : Int) : (cvF (dF inner i w) (drv comp g m 0) e).natAbs ≤ w.length * m.length := by
  have h1 : ∀ t ∈ drv comp g m 0, t.2.natAbs ≤ 1 := by
    have key : ∀ (w : List Int) (d : Int), ∀ t ∈ drv comp g w d, t.2.natAbs ≤ 1 := by
      intro w
      induction w with
      | nil => intro d t ht; cases ht
      | cons x w ih =>
        intro d t ht
        rw [drv] at ht
        rcases List.mem_append.1 ht with ht | ht
        · split at ht
          · rw [List.mem_singleton.1 ht]; unfold trm; split <;> exact Nat.le_refl _
          · cases ht
        · exact ih _ t ht
    exact key m 0
  have h2 := cvF_bd (fun x => dF_bd inner i w x) h1 e
  have h3 := drv_len comp g m 0
  have h4 : 1 * w.length * (drv comp g m 0).length ≤ w.length * m.length := by rw [Nat.one_mul]; exact Nat.mul_le_mul_left _ h3
  omega
/-- the product of two derivatives as lists -/
theorem cv_der {p q : List (Int × Int)} {inner comp w m : List Int} {i g : Int} (hp : ∀ x, cf p x = dF inner i w x) (hq : ∀ x, cf q x = dF comp g m x) (e : Int) : cv p q e = cvF (dF inner i w) (drv comp g m 0) e := by
  rw [cv_congr (fun _ => rfl) (q' := drv comp g m 0) (fun x => hq x)]
  exact cvF_congr hp _ e
/-- where the terms of a derivative lie -/
theorem der_ex {p : List (Int × Int)} {comp w : List Int} {g : Int} {N : Int} (k : Can p) (hp : ∀ x, cf p x = dF comp g w x) (hN : 0 ≤ N) (h : ∀ c ∈ comp, -N ≤ c ∧ c ≤ N) : ∀ t ∈ p, -(N * w.length) ≤ t.1 ∧ t.1 ≤ N * w.length := fun t ht => by
  have h1 := k.ne ht
  rw [hp] at h1
  unfold dF at h1
  obtain ⟨s, hs, he⟩ := cf_ne h1
  have := drv_bd hN h g w 0 s hs
  omega
end Go.Proofs.YtlbihllmpbhhcaaDoor

namespace Go.Proofs.YtlbihllmpbhhcaaDoor
open Go.RowKit
set_option linter.unusedVariables false

theorem fitB_g1 {ws comp : List Int} {gen : Int} (h : gen < 0) : fitB ws comp gen = false := by
  unfold fitB
  rw [decide_eq_false (by omega : ¬ 0 ≤ gen)]; simp
theorem fitB_g2 {ws comp : List Int} {gen : Int} (h : (comp.length : Int) ≤ gen) : fitB ws comp gen = false := by
  unfold fitB
  rw [decide_eq_false (by omega : ¬ gen < comp.length)]; simp
theorem fitB_v {ws comp : List Int} {gen : Int} (h : vldW ws comp.length = false) : fitB ws comp gen = false := by
  unfold fitB
  rw [h]; simp
theorem fitB_c {ws comp : List Int} {gen c : Int} (hm : c ∈ comp) (h : 1000 < c ∨ c < -1000) : fitB ws comp gen = false := by
  unfold fitB
  have : comp.all (fun c => decide (-1000 ≤ c ∧ c ≤ 1000)) = false := by
    rw [List.all_eq_false]
    exact ⟨c, hm, by simp; omega⟩
  rw [this]; simp
set_option maxHeartbeats 2000000 in
set_option maxRecDepth 100000 in
theorem fits_any (vw vc : Value) (ws comp : List Int) (gen : Int) (w : World) (hw : Ints w vw ws) (hc : Ints w vc comp) (hl : ws.length ≤ 4611686018427387904) (hcl : comp.length ≤ 1000000) :
    Calls Tryd.prog 12 #[vw, .int .i64 gen, vc] w fun e w' => e = .returned (.bool (fitB ws comp gen)) ∧ w = w' := by
  obtain ⟨V, hV⟩ : ∃ V, V = fitB ws comp gen := ⟨_, rfl⟩
  rw [← hV]
  have HV := Lib.hid hV
  have HW := Lib.hid hw
  have HC := Lib.hid hc
  clear hV
  obtain ⟨A, c, rfl, _, _⟩ := hw
  obtain ⟨A2, c2, rfl, _, _⟩ := hc
  by_cases c1 : gen < 0
  · have HF := Lib.hid (HV.out.trans (fitB_g1 c1))
    go_enter Tryd.func12, Tryd.ntmps12
    go_wp2_with fail
    go_ret
    exact ⟨by rw [HF.out]; rfl, rfl⟩
  by_cases c3 : gen ≥ (comp.length : Int)
  · have HF := Lib.hid (HV.out.trans (fitB_g2 c3))
    go_enter Tryd.func12, Tryd.ntmps12
    go_wp2_with fail
    go_ret
    exact ⟨by rw [HF.out]; rfl, rfl⟩
  go_enter Tryd.func12, Tryd.ntmps12
  go_wp2_with fail
  go_loopg [8, 21] comp.length (fun gk s8 s21 wr => ∃ k : Nat, k ≤ comp.length ∧ gk = comp.length - k ∧ s21 = .int .i64 (k : Int) ∧ Hid (∀ x ∈ comp.take k, -1000 ≤ x ∧ x ≤ 1000) ∧ w = wr)
  case atStart => exact ⟨0, Nat.zero_le _, rfl, rfl, Lib.hid (fun x hx => by simp at hx), rfl⟩
  case round =>
    obtain ⟨k, hk, rfl, rfl, HK, rfl⟩ := hrel
    by_cases hlt : k < comp.length
    · have z1 : (k : Int) < (comp.length : Int) := by omega
      obtain ⟨b, o, ⟨c', hv⟩, hbl, hcell⟩ := ints_at HC.out hlt
      injection hv with hv1 hv2 hv3
      subst hv1 hv3
      clear hv2
      have HBB := Lib.hid (fun h => fitB_c (ws := ws) (gen := gen) (List.getElem_mem hlt) h)
      have HKN := Lib.hid (fun (h : -1000 ≤ comp[k] ∧ comp[k] ≤ 1000) => (show ∀ x ∈ comp.take (k + 1), -1000 ≤ x ∧ x ≤ 1000 from fun x hx => by
        rw [take_snocI hlt] at hx
        rcases List.mem_append.1 hx with hx | hx
        · exact HK.out x hx
        · rw [List.mem_singleton.1 hx]; exact h))
      clear HK
      generalize comp[k] = x at *
      by_cases c4 : x < -1000
      · have HE := Lib.hid (HV.out.trans (HBB.out (.inr c4)))
        clear HBB HKN
        go_wp2_with fail
        go_ret
        exact ⟨by rw [HE.out]; rfl, rfl⟩
      · by_cases c5 : x > 1000
        · have HE := Lib.hid (HV.out.trans (HBB.out (.inl c5)))
          clear HBB HKN
          go_wp2_with fail
          go_ret
          exact ⟨by rw [HE.out]; rfl, rfl⟩
        · have HK2 := Lib.hid (HKN.out (by omega))
          clear HBB HKN
          go_wp2_with fail
          go_roundg (comp.length - (k + 1))
          case measure => omega
          case rel => exact ⟨k + 1, by omega, rfl, by go_num, HK2, rfl⟩
    · have z1 : ¬ ((k : Int) < (comp.length : Int)) := by omega
      have hkn : k = comp.length := by omega
      have HCC := Lib.hid (show ∀ x ∈ comp, -1000 ≤ x ∧ x ≤ 1000 from fun x hx => HK.out x (by rw [hkn, List.take_length]; exact hx))
      clear hkn HK
      go_wp2_with fail
      go_loopg [10, 34] ws.length (fun gk s10 s34 wr => ∃ j : Nat, j ≤ ws.length ∧ gk = ws.length - j ∧ s34 = .int .i64 (j : Int) ∧ Hid (∀ x ∈ ws.take j, x ≠ 0 ∧ x ≤ comp.length ∧ -(comp.length : Int) ≤ x) ∧ w = wr)
      case atStart => exact ⟨0, Nat.zero_le _, rfl, rfl, Lib.hid (fun x hx => by simp at hx), rfl⟩
      case round =>
        obtain ⟨j, hj, rfl, rfl, HJ, rfl⟩ := hrel
        by_cases hlt : j < ws.length
        · have z2 : (j : Int) < (ws.length : Int) := by omega
          obtain ⟨b, o, ⟨c', hv⟩, hbl, hcell⟩ := ints_at HW.out hlt
          injection hv with hv1 hv2 hv3
          subst hv1 hv3
          clear hv2
          have HBB := Lib.hid (fun (h : badL comp.length ws[j] = true) => (show V = false from HV.out.trans (fitB_v (any_take_bad hlt h))))
          have HJN := Lib.hid (fun (h : ws[j] ≠ 0 ∧ ws[j] ≤ comp.length ∧ -(comp.length : Int) ≤ ws[j]) => (show ∀ x ∈ ws.take (j + 1), x ≠ 0 ∧ x ≤ comp.length ∧ -(comp.length : Int) ≤ x from fun x hx => by
            rw [take_snocI hlt] at hx
            rcases List.mem_append.1 hx with hx | hx
            · exact HJ.out x hx
            · rw [List.mem_singleton.1 hx]; exact h))
          clear HJ
          generalize ws[j] = x at *
          by_cases d1 : x = 0
          · have z3 : (x == 0) = true := by simp [d1]
            have HE := Lib.hid (HBB.out (badL_true (.inr (.inl d1))))
            clear HBB HJN d1
            go_wp2_with fail
            go_ret
            exact ⟨by rw [HE.out]; rfl, rfl⟩
          · have z3 : (x == 0) = false := by simp [d1]
            by_cases d2 : x > (comp.length : Int)
            · have HE := Lib.hid (HBB.out (badL_true (.inr (.inr (.inl d2)))))
              clear HBB HJN
              go_wp2_with fail
              go_ret
              exact ⟨by rw [HE.out]; rfl, rfl⟩
            · by_cases d3 : x < -(comp.length : Int)
              · have HE := Lib.hid (HBB.out (badL_true (.inr (.inr (.inr d3)))))
                clear HBB HJN
                go_wp2_with fail
                go_ret
                exact ⟨by rw [HE.out]; rfl, rfl⟩
              · have HJ2 := Lib.hid (HJN.out ⟨d1, by omega, by omega⟩)
                clear HBB HJN d1
                go_wp2_with fail
                go_roundg (ws.length - (j + 1))
                case measure => omega
                case rel => exact ⟨j + 1, by omega, rfl, by go_num, HJ2, rfl⟩
        · have z2 : ¬ ((j : Int) < (ws.length : Int)) := by omega
          have hjn : j = ws.length := by omega
          have HE := Lib.hid (show V = true from HV.out.trans (fitB_ok (by omega) (by omega) (vldW_iff.2 fun x hx => by
            have := HJ.out x (by rw [hjn, List.take_length]; exact hx)
            exact ⟨by omega, this.1, this.2.1, this.2.2⟩) HCC.out))
          clear hjn HJ
          go_wp2_with fail
          go_ret
          exact ⟨by rw [HE.out]; rfl, rfl⟩
/-- great: words of more than 40 letters, or more than 8 generators -/
def grB (vs : List (Option Addr × Nat × Nat)) (n : Nat) : Bool := vs.any (fun p => decide (40 < p.2.1)) || decide (8 < n)
def slv (p : Option Addr × Nat × Nat) : Value := .slice p.1 p.2.1 p.2.2
set_option maxHeartbeats 2000000 in
set_option maxRecDepth 100000 in
theorem great_any (A : Option Addr) (n c : Nat) (b : Nat) (vs : List (Option Addr × Nat × Nat)) (w : World) (ha : Arr w b 42 (vs.map slv)) (hn : n ≤ 9223372036854775807) (hvl : vs.length ≤ 1000) (hv : ∀ p ∈ vs, p.2.1 ≤ 9223372036854775807) :
    Calls Tryd.prog 10 #[.slice A n c, .slice (some ⟨b, 0, none⟩) vs.length vs.length] w fun e w' => e = .returned (.bool (grB vs n)) ∧ w = w' := by
  obtain ⟨V, hV⟩ : ∃ V, V = grB vs n := ⟨_, rfl⟩
  rw [← hV]
  have HV := Lib.hid hV
  have HA := Lib.hid ha
  have HB := Lib.hid hv
  clear hV ha hv
  go_enter Tryd.func10, Tryd.ntmps10
  go_wp2_with fail
  go_loopg [6, 9] vs.length (fun gk s6 s9 wr => ∃ k : Nat, k ≤ vs.length ∧ gk = vs.length - k ∧ s9 = .int .i64 (k : Int) ∧ Hid (∀ p ∈ vs.take k, p.2.1 ≤ 40) ∧ w = wr)
  case atStart => exact ⟨0, Nat.zero_le _, rfl, rfl, Lib.hid (fun x hx => by simp at hx), rfl⟩
  case round =>
    obtain ⟨k, hk, rfl, rfl, HK, rfl⟩ := hrel
    by_cases hlt : k < vs.length
    · have z1 : (k : Int) < (vs.length : Int) := by omega
      have hcell : w.cell? ⟨b, k, none⟩ = some (slv vs[k]) := by rw [HA.out.cell, List.getElem?_map, List.getElem?_eq_getElem hlt]; rfl
      have HBB := Lib.hid (fun (h : 40 < vs[k].2.1) => (show V = true from by
        rw [HV.out]; unfold grB
        rw [List.any_eq_true.2 ⟨vs[k], List.getElem_mem hlt, decide_eq_true h⟩]; rfl))
      have HKN := Lib.hid (fun (h : vs[k].2.1 ≤ 40) => (show ∀ p ∈ vs.take (k + 1), p.2.1 ≤ 40 from fun x hx => by
        rw [List.take_add_one, List.getElem?_eq_getElem hlt] at hx
        rcases List.mem_append.1 hx with hx | hx
        · exact HK.out x hx
        · simp at hx; rw [hx]; exact h))
      have hb2 := HB.out vs[k] (List.getElem_mem hlt)
      clear HK
      generalize vs[k] = p at *
      obtain ⟨p1, p2, p3⟩ := p
      unfold slv at hcell
      dsimp only at *
      by_cases c4 : (p2 : Int) > 40
      · have HE := Lib.hid (HBB.out (by omega))
        clear HBB HKN
        go_wp2_with fail
        go_ret
        exact ⟨by rw [HE.out]; rfl, rfl⟩
      · have HK2 := Lib.hid (HKN.out (by omega))
        clear HBB HKN
        go_wp2_with fail
        go_roundg (vs.length - (k + 1))
        case measure => omega
        case rel => exact ⟨k + 1, by omega, rfl, by go_num, HK2, rfl⟩
    · have z1 : ¬ ((k : Int) < (vs.length : Int)) := by omega
      have hkn : k = vs.length := by omega
      have HE := Lib.hid (show V = decide ((n : Int) > 8) from by
        rw [HV.out]; unfold grB
        have : vs.any (fun p => decide (40 < p.2.1)) = false := by
          rw [List.any_eq_false]
          intro p hp
          have := HK.out p (by rw [hkn, List.take_length]; exact hp)
          simp; omega
        rw [this, Bool.false_or]
        exact decide_eq_decide.2 (by omega))
      clear hkn HK
      go_wp2_with fail
      go_ret
      exact ⟨by rw [HE.out]; rfl, rfl⟩
end Go.Proofs.YtlbihllmpbhhcaaDoor
