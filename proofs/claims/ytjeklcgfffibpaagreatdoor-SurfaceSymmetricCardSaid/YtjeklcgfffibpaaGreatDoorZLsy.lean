/- Normal forms of Laurent polynomials (plain); the normal form of a determinant read backwards. -/
/- unravelref26.Transpose at a square matrix. -/
/- SurfaceSymmetric: the law's walk. -/
import Derived.Test.YtjeklcgfffibpaaGreatDoorZFpl
import Derived.Test.YtjeklcgfffibpaaGreatDoorZEnd
import Derived.Test.YtjeklcgfffibpaaGreatDoorZEql
namespace Go.Proofs.YtjeklcgfffibpaaGreatDoor
open Go.RowKit
set_option linter.unusedVariables false

structure Nor (l q : LP) : Prop where
  can : Can q
  ex : ∃ (τ N : Int), (τ = 1 ∨ τ = -1) ∧ ∀ e, cf q e = τ * cf l (e + N)
  low : q = [] ∨ (0 < cf q 0 ∧ ∀ e, e < 0 → cf q e = 0)
theorem can_nil_of {q : LP} (h : Can q) (hz : ∀ e, cf q e = 0) : q = [] := h.ext Can.nil fun e => by rw [hz]; rfl
theorem Nor.uniq {l q q' : LP} (h : Nor l q) (k : Nor l q') : q = q' := by
  obtain ⟨τ, N, ht, he⟩ := h.ex
  obtain ⟨σ, M, hs, ke⟩ := k.ex
  have e1 : ∀ e, cf q e = τ * σ * cf q' (e + (N - M)) := fun e => by
    rw [he, ke, show e + (N - M) + M = e + N by omega]
    rcases ht with rfl | rfl <;> rcases hs with rfl | rfl <;> omega
  have e2 : ∀ e, cf q' e = τ * σ * cf q (e - (N - M)) := fun e => by
    rw [he, ke, show e - (N - M) + N = e + M by omega]
    rcases ht with rfl | rfl <;> rcases hs with rfl | rfl <;> omega
  rcases h.low with rfl | ⟨h1, h2⟩
  · exact (can_nil_of k.can fun e => by rw [e2]; simp [cf]).symm
  · rcases k.low with rfl | ⟨k1, k2⟩
    · exact can_nil_of h.can fun e => by rw [e1]; simp [cf]
    · have a1 : 0 ≤ N - M := by
        rcases Int.lt_or_le (N - M) 0 with z | z
        · have := e1 0
          rw [Int.zero_add, k2 _ z, Int.mul_zero] at this
          omega
        · exact z
      have a2 : N - M ≤ 0 := by
        rcases Int.lt_or_le 0 (N - M) with z | z
        · have := e2 0
          rw [h2 _ (by omega), Int.mul_zero] at this
          omega
        · exact z
      have a3 : N - M = 0 := by omega
      rw [a3] at e1
      refine h.can.ext k.can fun e => ?_
      have b0 := e1 0
      have be := e1 e
      rw [Int.add_zero] at b0 be
      rcases ht with rfl | rfl <;> rcases hs with rfl | rfl <;> omega
theorem cf_mvS (l : LP) (n e : Int) : cf (l.map (mvT (fun x => x + n))) e = cf l (e - n) := by
  induction l with
  | nil => rfl
  | cons t l ih =>
    rw [List.map_cons, cf_cons, cf_cons, ih]
    unfold mvT
    by_cases h : t.1 = e - n
    · rw [if_pos h, if_pos (show t.1 + n = e by omega)]
    · rw [if_neg h, if_neg (show ¬ t.1 + n = e by omega)]
theorem nsL_cf (l : LP) : ∃ τ : Int, (τ = 1 ∨ τ = -1) ∧ (∀ e, cf (nsL l) e = τ * cf l e) ∧ 0 ≤ cf (nsL l) (lowL l) := by
  unfold nsL
  split
  · next h => exact ⟨-1, .inr rfl, fun e => by rw [cf_negL]; omega, by rw [cf_negL]; omega⟩
  · next h => exact ⟨1, .inl rfl, fun e => by omega, by omega⟩
theorem nsL_can {l : LP} (h : Can l) : Can (nsL l) := by
  unfold nsL; split
  · exact negL_can h
  · exact h
theorem low_least {l : LP} (h : Can l) : ∀ t ∈ l, lowL l ≤ t.1 := by
  intro t ht
  cases l with
  | nil => cases ht
  | cons s l =>
    show s.1 ≤ t.1
    rcases List.mem_cons.1 ht with rfl | ht
    · exact Int.le_refl _
    · have := (List.pairwise_cons.1 h.srt).1 t ht
      omega
theorem norP_nor {l q : LP} (h : Can l) (hn : norP (some l) = some q) : Nor l q := by
  rw [norP_some] at hn
  split at hn
  · next h0 =>
    have : l = [] := List.eq_nil_of_length_eq_zero h0
    subst this
    injection hn with hn
    subst hn
    exact ⟨Can.nil, ⟨1, 0, .inl rfl, fun e => by simp [cf]⟩, .inl rfl⟩
  · next h0 =>
    change (if ((nsL l).all fun t => wiB (t.1 + -lowL l) 1048576) = true then some ((nsL l).map (mvT fun e => e + -lowL l)) else none) = some q at hn
    split at hn
    · injection hn with hn
      subst hn
      obtain ⟨τ, ht, hc, hp⟩ := nsL_cf l
      refine ⟨can_mvS (nsL_can h) _, ⟨τ, lowL l, ht, fun e => by rw [cf_mvS, hc, show e - -lowL l = e + lowL l by omega]⟩, .inr ⟨?_, fun e he => ?_⟩⟩
      · rw [cf_mvS, show (0 : Int) - -lowL l = lowL l by omega]
        have hne : cf l (lowL l) ≠ 0 := by
          cases l with
          | nil => simp at h0
          | cons t l => exact h.ne (List.mem_cons_self)
        have := hc (lowL l)
        rcases ht with rfl | rfl <;> omega
      · rw [cf_mvS, hc, cf_out fun t ht => ?_, Int.mul_zero]
        have := low_least h t ht
        omega
    · cases hn
/-- the exponents are small -/
def Ex1 (l : LP) : Prop := ∀ t ∈ l, -1000 ≤ t.1 ∧ t.1 ≤ 1000
theorem norP_ex {l : LP} (h : Ex1 l) : ∃ q, norP (some l) = some q := by
  rw [norP_some]
  split
  · exact ⟨_, rfl⟩
  · next h0 =>
    refine ⟨(nsL l).map (mvT fun e => e + -lowL l), if_pos (List.all_eq_true.2 fun t ht => wiB_iff.2 ?_)⟩
    have hl : -1000 ≤ lowL l ∧ lowL l ≤ 1000 := by
      cases l with
      | nil => simp at h0
      | cons s l => exact h s List.mem_cons_self
    have ht2 : ∃ s ∈ l, s.1 = t.1 := by
      unfold nsL at ht
      split at ht
      · obtain ⟨s, hs, rfl⟩ := List.mem_map.1 ht
        exact ⟨s, hs, rfl⟩
      · exact ⟨t, ht, rfl⟩
    obtain ⟨s, hs, e⟩ := ht2
    have := h s hs
    show -1048576 ≤ t.1 + -lowL l ∧ t.1 + -lowL l ≤ 1048576
    omega
theorem Nor.norP {l q : LP} (h : Nor l q) (hc : Can l) (hx : Ex1 l) : norP (some l) = some q := by
  obtain ⟨q', hq⟩ := norP_ex hx
  rw [hq, (norP_nor hc hq).uniq h]
theorem Nor.self {l q : LP} (h : Nor l q) : Nor q q := ⟨h.can, ⟨1, 0, .inl rfl, fun e => by rw [Int.add_zero]; omega⟩, h.low⟩
theorem cf_rev (l : LP) (e : Int) : cf l.reverse e = cf l e := by
  induction l with
  | nil => rfl
  | cons t l ih => rw [List.reverse_cons, cf_append, ih, cf_cons, cf_cons]; simp [cf]; omega
theorem cf_flip (l : LP) (e : Int) : cf (l.map (mvT (fun x => -x))) e = cf l (-e) := by
  induction l with
  | nil => rfl
  | cons t l ih =>
    rw [List.map_cons, cf_cons, cf_cons, ih]
    unfold mvT
    by_cases h : t.1 = -e
    · rw [if_pos h, if_pos (show -t.1 = e by omega)]
    · rw [if_neg h, if_neg (show ¬ -t.1 = e by omega)]
def flL (l : LP) : LP := (l.map (mvT (fun x => -x))).reverse
theorem flL_can {l : LP} (h : Can l) : Can (flL l) := by
  refine ⟨?_, fun t ht => ?_⟩
  · unfold Srt flL
    rw [List.pairwise_reverse, List.pairwise_map]
    exact h.srt.imp fun {a b} hab => by show -b.1 < -a.1; omega
  · obtain ⟨s, hs, rfl⟩ := List.mem_map.1 (List.mem_reverse.1 ht)
    exact h.nz s hs
theorem flL_mem {l : LP} {t : Int × Int} (ht : t ∈ flL l) : ∃ s ∈ l, t = (-s.1, s.2) := by
  obtain ⟨s, hs, rfl⟩ := List.mem_map.1 (List.mem_reverse.1 ht)
  exact ⟨s, hs, rfl⟩
theorem flip_some {l : LP} (h : Lim l) : movN (fun e => -e) (some l) = some (flL l) := by
  unfold movN
  exact if_pos (List.all_eq_true.2 fun t ht => wiB_iff.2 (by have := h.ex t ht; show -1048576 ≤ -t.1 ∧ -t.1 ≤ 1048576; omega))
theorem flL_lim {l : LP} (h : Lim l) : Lim (flL l) := by
  refine ⟨fun t ht => ?_, fun t ht => ?_⟩
  · obtain ⟨s, hs, rfl⟩ := flL_mem ht; exact h.co s hs
  · obtain ⟨s, hs, rfl⟩ := flL_mem ht; have := h.ex s hs; show -1048576 ≤ -s.1 ∧ -s.1 ≤ 1048576; omega
/-- the plain law: the normal form of the determinant, flipped, has the same normal form -/
theorem sym_plain {m : List (List Int)} (hn : m.length ≤ 12) {D : LP} (hc : Can D) (hl : Lim D) (h0 : ∀ t ∈ D, 0 ≤ t.1) (hv : ∀ x, 1 ≤ x → evQ 0 x D = detE 0 (alM m) x) :
    ∃ p, norP (some D) = some p ∧ Can p ∧ Lim p ∧ norP (some (flL p)) = some p ∧ norP (some p) = some p := by
  have hD := D_is hc h0 hv
  have hb : ∀ t ∈ D, 0 ≤ t.1 ∧ t.1 ≤ 12 := fun t ht => by
    refine ⟨h0 t ht, ?_⟩
    rcases Int.lt_or_le 12 t.1 with z | z
    · exfalso
      have h1 := hc.ne ht
      rw [hD] at h1
      refine h1 ?_
      rw [cf_ofL t.1 _ 0 (h0 t ht), List.getElem?_eq_none (by have := LS_len m m.length 1; omega)]; rfl
    · exact z
  have hx : Ex1 D := fun t ht => by have := hb t ht; omega
  obtain ⟨p, hp⟩ := norP_ex hx
  have hN := norP_nor hc hp
  have okp : Can p ∧ Lim p := by have := okP_nor hc hl; rw [hp] at this; exact this
  obtain ⟨τ, N, ht, he⟩ := hN.ex
  have hsup : ∀ e, cf D e ≠ 0 → 0 ≤ e ∧ e ≤ 12 := fun e hne => by
    obtain ⟨t, ht, e1⟩ := cf_ne hne
    rw [← e1]; exact hb t ht
  -- the exponents of p lie within 12 of 0
  have hpx : ∀ t ∈ p, 0 ≤ t.1 ∧ t.1 ≤ 12 := by
    intro t htp
    have h1 := okp.1.ne htp
    rcases hN.low with rfl | ⟨k1, k2⟩
    · cases htp
    · have a0 : 0 ≤ t.1 := by
        rcases Int.lt_or_le t.1 0 with z | z
        · exact absurd (k2 _ z) h1
        · exact z
      have a1 := hsup (t.1 + N) (fun z => h1 (by rw [he, z, Int.mul_zero]))
      have a2 := hsup (0 + N) (fun z => by have := he 0; rw [z, Int.mul_zero] at this; omega)
      omega
  have hpe : Ex1 p := fun t ht => by have := hpx t ht; omega
  have hfe : Ex1 (flL p) := fun t ht => by
    obtain ⟨s, hs, rfl⟩ := flL_mem ht
    have := hpx s hs
    show -1000 ≤ -s.1 ∧ -s.1 ≤ 1000
    omega
  refine ⟨p, hp, okp.1, okp.2, ?_, hN.self.norP okp.1 hpe⟩
  refine Nor.norP ⟨okp.1, ?_, hN.low⟩ (flL_can okp.1) hfe
  have hpal : ∀ e, cf D ((m.length : Int) - e) = (-1) ^ m.length * cf D e := fun e => by rw [hD]; exact D_pal e
  have hsg : ((-1 : Int) ^ m.length = 1 ∨ (-1 : Int) ^ m.length = -1) := by
    rcases Nat.mod_two_eq_zero_or_one m.length with z | z
    · left
      obtain ⟨k, hk⟩ : ∃ k, m.length = 2 * k := ⟨m.length / 2, by omega⟩
      rw [hk, Int.pow_mul]; simp [Int.one_pow]
    · right
      obtain ⟨k, hk⟩ : ∃ k, m.length = 2 * k + 1 := ⟨m.length / 2, by omega⟩
      rw [hk, Int.pow_succ, Int.pow_mul]; simp [Int.one_pow]
  refine ⟨(-1) ^ m.length, 2 * N - (m.length : Int), hsg, fun e => ?_⟩
  rw [flL, cf_rev, cf_flip, he, he]
  have h1 := hpal (e + N)
  rw [show -(e + (2 * N - (m.length : Int))) + N = (m.length : Int) - (e + N) by omega, h1]
  generalize (-1 : Int) ^ m.length = s at *
  rcases hsg with rfl | rfl <;> rcases ht with rfl | rfl <;> omega
end Go.Proofs.YtjeklcgfffibpaaGreatDoor

namespace Go.Proofs.YtjeklcgfffibpaaGreatDoor
open Go.RowKit
set_option linter.unusedVariables false

def eI5 (x : Int) : List Value := [.int .i64 x]
theorem elI5 : ElA Tryz.prog 3 1 eI5 where
  ex := by
    obtain ⟨i, hi, hz, hs, hb⟩ := info_parts info_i64
    exact ⟨i, _, 8, hi, hz, hs, hb, rfl, by omega⟩
  pos := by omega
  len := fun x => rfl
  one := fun x q h => by unfold eI5 at h; simp at h; subst h; rfl
theorem elR5 : ElA Tryz.prog 22 1 eS where
  ex := by
    obtain ⟨i, hi, hz, hs, hb⟩ := info_parts info_isl
    exact ⟨i, _, 24, hi, hz, hs, hb, rfl, by omega⟩
  pos := by omega
  len := fun x => rfl
  one := fun x q h => by unfold eS at h; simp at h; subst h; rfl
theorem flat_eI5 (r : List Int) : r.flatMap eI5 = r.map (Value.int .i64) := by
  induction r with
  | nil => rfl
  | cons x r ih => rw [List.flatMap_cons, ih, List.map_cons]; rfl
theorem flat_eS5 (r : List SVt) : r.flatMap eS = r.map vS := by
  induction r with
  | nil => rfl
  | cons x r ih => rw [List.flatMap_cons, ih, List.map_cons]; rfl
theorem own5_ints {B : Nat} {w : World} {v : Value} {r : List Int} (h : OwnA 3 1 eI5 B w v r) : Ints w v r := by
  obtain ⟨A, c, e, hc, hx⟩ := h.sl
  refine ⟨A, c, e, hc, fun k x hk => hx k _ ?_⟩
  rw [flat_eI5, List.getElem?_map, hk]; rfl
theorem own5_mat {B : Nat} {w : World} {v : Value} {es : List SVt} {k : List (List Int)} (h : OwnA 22 1 eS B w v es) (hl : es.length = k.length) (hr : ∀ (j : Nat) s, es[j]? = some s → ∀ r, k[j]? = some r → Ints w (vS s) r) : MatI w v k := by
  obtain ⟨A, c, e, hc, hx⟩ := h.sl
  refine ⟨A, c, by rw [e, hl], by omega, fun i r hi => ?_⟩
  have hil : i < es.length := by have := (List.getElem?_eq_some_iff.1 hi).1; omega
  obtain ⟨b, o, hA, hcell⟩ := hx i (vS es[i]) (by rw [flat_eS5, List.getElem?_map, List.getElem?_eq_getElem hil]; rfl)
  exact ⟨b, o, hA, _, hcell, hr i _ (List.getElem?_eq_getElem hil) r hi⟩
def trR (m : List (List Int)) (i : Nat) : List Int := (List.range m.length).map fun k => gm m k i
def trM (m : List (List Int)) : List (List Int) := (List.range m.length).map (trR m)
theorem trM_length (m : List (List Int)) : (trM m).length = m.length := by simp [trM]
theorem trR_length (m : List (List Int)) (i : Nat) : (trR m i).length = m.length := by simp [trR]
theorem trM_get {m : List (List Int)} {i : Nat} (h : i < m.length) : (trM m)[i]? = some (trR m i) := by
  unfold trM; rw [List.getElem?_map, List.getElem?_range h]; rfl
theorem trR_get {m : List (List Int)} {i j : Nat} (h : j < m.length) : (trR m i)[j]? = some (gm m j i) := by
  unfold trR; rw [List.getElem?_map, List.getElem?_range h]; rfl
theorem trR_take {m : List (List Int)} {i j : Nat} (h : j < m.length) : (trR m i).take (j + 1) = (trR m i).take j ++ [gm m j i] := by
  rw [List.take_succ_eq_append_getElem (by rw [trR_length]; exact h)]
  congr 2
  have := trR_get (i := i) h
  rw [List.getElem?_eq_getElem (by rw [trR_length]; exact h)] at this
  injection this
theorem gm_tr {m : List (List Int)} {i j : Nat} (hi : i < m.length) (hj : j < m.length) : gm (trM m) i j = gm m j i := by
  unfold gm
  rw [trM_get hi, Option.getD_some, trR_get hj]; rfl
theorem trM_sq (m : List (List Int)) : sqM (trM m) = true := List.all_eq_true.2 fun r hr => decide_eq_true (by
  obtain ⟨i, _, rfl⟩ := List.mem_map.1 hr
  rw [trR_length, trM_length])
theorem sl5_one (w : World) (x : Int) : SlA eI5 (w.alloc (.cells #[.int .i64 x] 3)) (.slice (some ⟨w.heap.size, 0, none⟩) 1 1) [x] :=
  (OwnA.lit (e := 3) (sz := 1) (enc := eI5) (base := w.heap.size) (xs := [x]) (fun y _ => rfl) (Nat.le_refl _) (by simp) (by simp)).sl
theorem sl5_row (w : World) (s : SVt) : SlA eS (w.alloc (.cells #[vS s] 22)) (.slice (some ⟨w.heap.size, 0, none⟩) 1 1) [s] :=
  (OwnA.lit (e := 22) (sz := 1) (enc := eS) (base := w.heap.size) (xs := [s]) (fun y _ => rfl) (Nat.le_refl _) (by simp) (by simp)).sl
set_option maxHeartbeats 4000000 in
set_option maxRecDepth 100000 in
theorem Transpose_any (v : Value) (m : List (List Int)) (w : World) (h : MatI w v m) (hsq : sqM m = true) (hl : m.length ≤ 12) :
    Calls Tryz.prog 21 #[v, .int .i64 (m.length : Int)] w fun e w' => ∃ v', e = .returned v' ∧ MatI w' v' (trM m) ∧ Below w.heap.size w w' := by
  have HM := Lib.hid (fun W (hb : Below w.heap.size w W) => h.below hb)
  have HSQ := Lib.hid hsq
  obtain ⟨A, cq, rfl⟩ := h.form
  obtain ⟨n, hnn⟩ : ∃ n, n = m.length := ⟨_, rfl⟩
  rw [← hnn] at hl HM ⊢
  have HN := Lib.hid hnn
  clear h hsq hnn
  go_enter Tryz.func21, Tryz.ntmps21
  go_upto_region 3 with fail
  go_loopg [5, 6, 7, 8] n (fun gk s5 s6 s7 s8 wr => ∃ (i : Nat) (es : List SVt), i ≤ n ∧ gk = n - i ∧ s6 = .int .i64 (i : Int) ∧ OwnA 22 1 eS w.heap.size wr s5 es ∧ es.length = i ∧ (∀ (j : Nat) s, es[j]? = some s → ∃ B, OwnA 3 1 eI5 B wr (vS s) (trR m j)) ∧ Below w.heap.size w wr)
  case atStart => exact ⟨0, [], by omega, rfl, rfl, OwnA.nil _ _ _ _ _, rfl, fun j s h => by simp at h, Below.refl _ _⟩
  case round =>
    obtain ⟨i, es, hi, rfl, rfl, hown, hle, hrows, hbr⟩ := hrel
    obtain ⟨wo, rfl⟩ : ∃ wo : World, wo = wr := ⟨_, rfl⟩
    have HO := Lib.hid hown
    have HLE := Lib.hid hle
    have HRW := Lib.hid hrows
    have HBO := Lib.hid hbr
    obtain ⟨Ao, co, rfl⟩ := hown.form
    clear hown hle hrows hbr
    by_cases hit : i < n
    · have z1 : (i : Int) < (n : Int) := by omega
      go_upto_region 7 with fail
      go_loopg [7, 8] n (fun gk s7 s8 wr => ∃ k : Nat, k ≤ n ∧ gk = n - k ∧ s8 = .int .i64 (k : Int) ∧ OwnA 3 1 eI5 wo.heap.size wr s7 ((trR m i).take k) ∧ Below wo.heap.size wo wr)
      case atStart => exact ⟨0, by omega, rfl, rfl, OwnA.nil _ _ _ _ _, Below.refl _ _⟩
      case round =>
        obtain ⟨k, hk, rfl, rfl, hin, hbi⟩ := hrel
        obtain ⟨wi, rfl⟩ : ∃ wi : World, wi = wr := ⟨_, rfl⟩
        by_cases hkt : k < n
        · have z2 : (k : Int) < (n : Int) := by omega
          have hbw : Below w.heap.size w wi := HBO.out.trans (hbi.mono HBO.out.size)
          obtain ⟨A0, c0, b1, o1, A2, c2, b2, o2, hv0, rfl, q1, rfl, q2⟩ := (HM.out wi hbw).gmc HSQ.out (i := k) (j := i) (by rw [← HN.out]; exact hkt) (by rw [← HN.out]; exact hit)
          injection hv0 with e1 e2 e3
          subst e1
          rw [← HN.out] at q1
          have HT := Lib.hid (trR_take (m := m) (i := i) (j := k) (by rw [← HN.out]; exact hkt))
          have hrl : ((trR m i).take k).length = k := by rw [List.length_take, trR_length, ← HN.out]; exact Nat.min_eq_left (by omega)
          generalize gm m k i = x at *
          generalize (trR m i).take k = R at *
          have HS7 := Lib.hid (hin.below ((Below.refl _ _).alloc (Nat.le_refl _) (.cells #[.int .i64 x] 3)))
          have HSL := Lib.hid (sl5_one wi x)
          have HB7 := Lib.hid (hbi.alloc hbi.size (.cells #[.int .i64 x] 3))
          have HSZ := Lib.hid (show wo.heap.size ≤ (wi.alloc (.cells #[.int .i64 x] 3)).heap.size by have := hbi.size; simp; omega)
          have HRL := Lib.hid (show R.length + [x].length ≤ 1000000000 by simp; omega)
          have HRK := Lib.hid hrl
          obtain ⟨Ai, ci, rfl⟩ := hin.form
          rw [hrl] at HS7
          clear hin hbi hbw e2 e3 hrl
          go_wp2_with (at_builtin; go_loud (refine wpList_appA rfl elI5 (.tmp 20) (.tmp 28) 22 22 rfl Tryz.underlying22 Tryz.underlying22 (by first | rfl | (simp [Act.eval]; exact HRK.out)) HS7.out rfl HSL.out HRL.out HSZ.out ?_); go_loud (intro v' w8 h1 h2 h3 h4; have HO1 := Lib.hid h1; have HB8 := Lib.hid (HB7.out.trans h2); clear h1 h2 h3 h4))
          go_roundg (n - (k + 1))
          case measure => omega
          case rel => exact ⟨k + 1, by omega, rfl, by go_num, by rw [HT.out]; exact HO1.out, HB8.out⟩
        · have z2 : ¬ ((k : Int) < (n : Int)) := by omega
          have hrl : (trR m i).take k = trR m i := List.take_of_length_le (by rw [trR_length, ← HN.out]; omega)
          rw [hrl] at hin
          obtain ⟨Ai, ci, rfl⟩ := hin.form
          have hlr : (trR m i).length = n := by rw [trR_length, ← HN.out]
          rw [hlr] at hin ⊢
          have HIN := Lib.hid hin
          have HS7 := Lib.hid ((HO.out.below hbi).below ((Below.refl _ _).alloc (Nat.le_refl _) (.cells #[vS (Ai, n, ci)] 22)))
          have HSL := Lib.hid (sl5_row wi (Ai, n, ci))
          have hbi2 := hbi.alloc hbi.size (.cells #[vS (Ai, n, ci)] 22)
          have HB7 := Lib.hid (HBO.out.trans (hbi2.mono HBO.out.size))
          have HBI := Lib.hid hbi
          have HSZ := Lib.hid (show w.heap.size ≤ (wi.alloc (.cells #[vS (Ai, n, ci)] 22)).heap.size by have := hbi.size; have := HBO.out.size; simp; omega)
          have HRL := Lib.hid (show es.length + [((Ai, n, ci) : SVt)].length ≤ 1000000000 by have := HLE.out; simp; omega)
          clear hin hbi hbi2 hrl hlr
          go_wp2_with (at_builtin; go_loud (refine wpList_appA rfl elR5 (.tmp 30) (.tmp 32) 26 26 rfl Tryz.underlying26 Tryz.underlying26 rfl HS7.out rfl HSL.out HRL.out HSZ.out ?_); go_loud (intro v' w8 h1 h2 h3 h4; have HO1 := Lib.hid h1; have HB8 := Lib.hid (HB7.out.trans h2); have HK8 := Lib.hid h3; clear h1 h2 h3 h4))
          go_roundg (n - (i + 1))
          case measure => omega
          case rel =>
            have hkeep : ∀ (s : SVt) (r : List Int) (B : Nat), OwnA 3 1 eI5 B wi (vS s) r → OwnA 3 1 eI5 B w8 (vS s) r := fun s r B hs => by
              have hs2 := hs.below ((Below.refl _ _).alloc (Nat.le_refl _) (.cells #[vS (Ai, n, ci)] 22))
              refine hs2.keepK fun k hk => HK8.out k (hs2.lt k hk) fun e => ?_
              obtain ⟨cs1, fr1, t1⟩ := hs2.typ k hk
              obtain ⟨cs2, fr2, t2⟩ := HS7.out.typ k e
              rw [t1] at t2
              injection t2 with t2
              injection t2 with _ t2 _
              exact absurd t2 (by decide)
            refine ⟨i + 1, es ++ [(Ai, n, ci)], by omega, rfl, by go_num, HO1.out, by simp [HLE.out], fun j s hj => ?_, HB8.out⟩
            rcases Nat.lt_or_ge j es.length with z | z
            · rw [List.getElem?_append_left z] at hj
              obtain ⟨B, hB⟩ := HRW.out j s hj; exact ⟨B, hkeep s _ B (hB.below HBI.out)⟩
            · rw [List.getElem?_append_right z] at hj
              have e0 : j = i := by have := (List.getElem?_eq_some_iff.1 hj).1; simp at this; have := HLE.out; omega
              subst e0
              rw [HLE.out, Nat.sub_self] at hj
              injection hj with hj
              subst hj
              exact ⟨_, hkeep _ _ _ HIN.out⟩
    · have z1 : ¬ ((i : Int) < (n : Int)) := by omega
      have hin : i = n := by omega
      have HMT := Lib.hid (own5_mat (k := trM m) HO.out (by rw [HLE.out, trM_length, ← HN.out]; exact hin) fun j s hj r hr => by
        have hjl : j < m.length := by have := (List.getElem?_eq_some_iff.1 hr).1; rwa [trM_length] at this
        rw [trM_get hjl] at hr
        injection hr with hr
        subst hr
        obtain ⟨B, hB⟩ := HRW.out j s hj; exact own5_ints hB)
      go_wp2_with fail
      go_ret
      exact ⟨_, rfl, HMT.out, HBO.out⟩
end Go.Proofs.YtjeklcgfffibpaaGreatDoor

namespace Go.Proofs.YtjeklcgfffibpaaGreatDoor
open Go.RowKit
set_option linter.unusedVariables false

theorem trM_small {m : List (List Int)} (h : smM m = true) : smM (trM m) = true := List.all_eq_true.2 fun r hr => List.all_eq_true.2 fun x hx => by
  obtain ⟨i, _, rfl⟩ := List.mem_map.1 hr
  obtain ⟨k, _, rfl⟩ := List.mem_map.1 hx
  have := gm_small h k i
  unfold sfB
  exact decide_eq_true this
theorem alex_two {m : List (List Int)} (hn : m.length ≤ 12) {w : World} {e : Ending} {w' : World} (h : AlxP m w e w') :
    Below w.heap.size w w' ∧ ((∃ g : Int, g ≠ 0 ∧ e = .returned (.tuple #[.agg #[.bool false, .slice none 0 0], .int .i64 g])) ∨
      (sqM m = true ∧ smM m = true ∧ ∃ v D p, e = .returned (.tuple #[v, .int .i64 0]) ∧ PolyV w' v (some p) ∧ norP (some D) = some p ∧ (Can D ∧ Lim D ∧ (∀ t ∈ D, 0 ≤ t.1) ∧ ∀ x, 1 ≤ x → evQ 0 x D = detE 0 (alM m) x) ∧ Can p ∧ Lim p ∧ norP (some (flL p)) = some p ∧ norP (some p) = some p)) := by
  obtain ⟨hb, h⟩ := h
  refine ⟨hb, ?_⟩
  rcases h with ⟨_, rfl⟩ | ⟨_, _, rfl⟩ | ⟨h1, h2, h⟩
  · exact .inl ⟨1, by decide, rfl⟩
  · exact .inl ⟨9, by decide, rfl⟩
  · rcases h with ⟨v, D, he, hv, hc, hl, h0, hx⟩ | ⟨rfl, _⟩
    · obtain ⟨p, hp, cp, lp, k1, k2⟩ := sym_plain hn hc hl h0 hx
      rw [hp] at hv
      exact .inr ⟨h1, h2, v, D, p, he, hv, hp, ⟨hc, hl, h0, hx⟩, cp, lp, k1, k2⟩
    · exact .inl ⟨9, by decide, rfl⟩
theorem alex_tr {m : List (List Int)} {D p : LP} (h2 : smM m = true) (hD : Can D ∧ Lim D ∧ (∀ t ∈ D, 0 ≤ t.1) ∧ ∀ x, 1 ≤ x → evQ 0 x D = detE 0 (alM m) x) (hp : norP (some D) = some p) {w : World} {e : Ending} {w' : World} (h : AlxP (trM m) w e w') :
    ∃ v, e = .returned (.tuple #[v, .int .i64 0]) ∧ PolyV w' v (some p) ∧ Below w.heap.size w w' :=
  alex_is (trM_sq m) (trM_small h2) hD.1 hD.2.1 hD.2.2.1 (fun x hx => (hD.2.2.2 x hx).trans (detE_tr (trM_length m) (fun i j hi hj => gm_tr hi hj) x).symm) hp h
theorem NormP {p : LP} (hp : Can p ∧ Lim p) {q : LP} (hq : norP (some p) = some q) (v : Value) (w : World) (h : PolyV w v (some p)) : Calls Tryz.prog 19 #[v] w fun e w' => ∃ v, e = .returned v ∧ PolyV w' v (some q) ∧ Below w.heap.size w w' := by
  have := Normal_any v (some p) w h hp
  rw [hq] at this
  exact this
theorem FlipP {p : LP} (hp : Can p ∧ Lim p) (v : Value) (w : World) (h : PolyV w v (some p)) : Calls Tryz.prog 22 #[v] w fun e w' => ∃ v, e = .returned v ∧ PolyV w' v (some (flL p)) ∧ Below w.heap.size w w' := by
  have := Flip_any v (some p) w h hp
  rw [flip_some hp.2] at this
  exact this
theorem EqP {p : LP} (hp : Can p ∧ Lim p) (v u : Value) (w : World) (h : PolyV w v (some p)) (k : PolyV w u (some p)) : Calls Tryz.prog 18 #[v, u] w fun e w' => e = .returned (.bool true) ∧ Below w.heap.size w w' :=
  (Equal_any v u _ _ w h k hp hp).mono fun e w' ⟨he, hb⟩ => ⟨by rw [he]; simp [eqP], hb⟩
set_option maxHeartbeats 8000000 in
set_option maxRecDepth 100000 in
theorem symm_law38 (v : Value) (m : List (List Int)) (w : World) (h : MatI w v m) (hl : m.length ≤ 9223372036854775807) (hr : ∀ r ∈ m, r.length ≤ 9223372036854775807) (hz : ∀ r ∈ m, ∀ x ∈ r, -9223372036854775808 ≤ x ∧ x ≤ 9223372036854775807) (ht : Tb w) (ht6 : Tb6 w) :
    Calls Tryz.prog 5 #[v] w (LawT5 w) := by
  have HAW := Lib.hid (fun W (hb : Below w.heap.size w W) => awake38 W (ht.below hb) (ht6.below hb))
  have HT6 := Lib.hid (fun W (hb : Below w.heap.size w W) => ht6.below hb)
  have HM := Lib.hid (fun W (hb : Below w.heap.size w W) => h.below hb)
  have HR := Lib.hid hr
  obtain ⟨A, cq, rfl⟩ := h.form
  obtain ⟨n, hnn⟩ : ∃ n, n = m.length := ⟨_, rfl⟩
  rw [← hnn] at hl HM ⊢
  have HN := Lib.hid hnn
  clear h hr hz ht ht6 hnn
  by_cases hbig : 12 < n
  · have z1 : (12 : Int) < (n : Int) := by omega
    go_enter Tryz.func5, Tryz.ntmps5
    go_upto_region 2 with (go_at_call 7; refine (HAW.out w (Below.refl _ _)).mono ?_; rintro e w1 ⟨rfl, hb1⟩)
    have HB1 := Lib.hid hb1
    clear hb1
    go_wp2_with (go_at_call 7; refine (HAW.out w1 HB1.out).mono ?_; rintro e w2 ⟨rfl, hb2⟩)
    go_ret
    exact ⟨rfl, HB1.out.trans (hb2.mono HB1.out.size)⟩
  have z1 : ¬ ((12 : Int) < (n : Int)) := by omega
  have HN12 := Lib.hid (show m.length ≤ 12 by have := HN.out; omega)
  go_enter Tryz.func5, Tryz.ntmps5
  go_upto_region 3 with (go_at_call 7; refine (HAW.out w (Below.refl _ _)).mono ?_; rintro e w1 ⟨rfl, hb1⟩)
  have HB1 := Lib.hid hb1
  have HAL := Lib.hid ((Alexander_any _ m w1 (HM.out _ hb1) HN12.out HR.out (HT6.out _ hb1)).mono fun e w' hd => alex_two HN12.out hd)
  clear hb1 HAW z1
  go_wp2_with fail
  refine HAL.out.mono ?_
  rintro e w2 ⟨hb2, hcs⟩
  rcases hcs with ⟨g, hg, rfl⟩ | ⟨hsq, hsm, v1, D, p, rfl, hp, hnp, hD, cp, lp, hfl, hid⟩
  · have z2 : ((g : Int) != 0) = true := by simp [hg]
    have HB2 := Lib.hid (HB1.out.trans (hb2.mono HB1.out.size))
    have hal := (Below.refl w2.heap.size w2).alloc (Nat.le_refl _) (.cells #[.bool false, .slice none 0 0] 39)
    have HQ := Lib.hid (show Arr (w2.alloc (.cells #[.bool false, .slice none 0 0] 39)) w2.heap.size 39 [.bool false, .slice none 0 0] from Arr.new w2 _ [_, _])
    have HB3 := Lib.hid (HB2.out.trans (hal.mono HB2.out.size))
    clear hb2 hal HAL hg
    go_upto_region 4 with fail
    generalize w2.alloc (.cells #[.bool false, .slice none 0 0] 39) = w3 at *
    generalize w2.heap.size = gp at *
    have y0 := HQ.out.cell 0
    have y1 := HQ.out.cell 1
    have HZE := Lib.hid (Zero5 w3)
    go_wp2_with (go_at_call 20; refine HZE.out.mono ?_; rintro e wz ⟨rfl, hbz⟩)
    go_ret
    exact ⟨rfl, HB3.out.trans (hbz.mono HB3.out.size)⟩
  have HB2 := Lib.hid (HB1.out.trans (hb2.mono HB1.out.size))
  have HOK := Lib.hid (show Can p ∧ Lim p from ⟨cp, lp⟩)
  have HOF := Lib.hid (show Can (flL p) ∧ Lim (flL p) from ⟨flL_can cp, flL_lim lp⟩)
  have HFL := Lib.hid hfl
  have HID := Lib.hid hid
  have HNP := Lib.hid hnp
  have HDD := Lib.hid hD
  have HSQ := Lib.hid hsq
  have HSM := Lib.hid hsm
  obtain ⟨bp, Ap, np, cpp, rfl, -, -⟩ := hp.parts
  have hal := (Below.refl w2.heap.size w2).alloc (Nat.le_refl _) (.cells #[.bool bp, .slice Ap np cpp] 39)
  have HQ1 := Lib.hid (show Arr (w2.alloc (.cells #[.bool bp, .slice Ap np cpp] 39)) w2.heap.size 39 [.bool bp, .slice Ap np cpp] from Arr.new w2 _ [_, _])
  have HP1 := Lib.hid (hp.below hal)
  have HB3 := Lib.hid (HB2.out.trans (hal.mono HB2.out.size))
  clear hal hp hb2 HAL HB1 HB2 hnp hD cp lp hfl hid hsq hsm
  go_upto_region 4 with fail
  generalize w2.alloc (.cells #[.bool bp, .slice Ap np cpp] 39) = w3 at *
  generalize w2.heap.size = gp at *
  have HTR := Lib.hid (by have := Transpose_any _ m w3 (HM.out _ HB3.out) HSQ.out HN12.out; rw [← HN.out] at this; exact this)
  go_upto_region 6 with fail
  go_wp2_with fail
  refine HTR.out.mono ?_
  rintro e w4 ⟨v4, rfl, hm4, hb4⟩
  have HB4 := Lib.hid (HB3.out.trans (hb4.mono HB3.out.size))
  have HA2 := Lib.hid ((Alexander_any v4 (trM m) w4 hm4 (by rw [trM_length]; exact HN12.out) (fun r hr => by
    obtain ⟨i, _, rfl⟩ := List.mem_map.1 hr
    rw [trR_length]; have := HN12.out; omega) (HT6.out _ HB4.out)).mono fun e w' hd => alex_tr HSM.out HDD.out HNP.out hd)
  obtain ⟨A4, c4, rfl⟩ := hm4.form
  have HB34 := Lib.hid hb4
  clear hm4 hb4 HTR
  go_wp2_with fail
  refine HA2.out.mono ?_
  rintro e w5 ⟨v5, rfl, hp5, hb5⟩
  have hb35 := HB34.out.trans (hb5.mono HB34.out.size)
  have hb05 := HB3.out.trans (hb35.mono HB3.out.size)
  obtain ⟨bt, At, nt, ct, rfl, -, -⟩ := hp5.parts
  have hal := (Below.refl w5.heap.size w5).alloc (Nat.le_refl _) (.cells #[.bool bt, .slice At nt ct] 39)
  have hb36 := hb35.trans (hal.mono hb35.size)
  have HQP := Lib.hid (HQ1.out.below hb36 HQ1.out.lt)
  have HPP := Lib.hid (HP1.out.below hb36)
  have HQT := Lib.hid (show Arr (w5.alloc (.cells #[.bool bt, .slice At nt ct] 39)) w5.heap.size 39 [.bool bt, .slice At nt ct] from Arr.new w5 _ [_, _])
  have HPT := Lib.hid (hp5.below hal)
  have HB6 := Lib.hid (hb05.trans (hal.mono hb05.size))
  clear hal hp5 hb5 HA2 hb35 hb05 hb36 HB34 HB4 HB3 HQ1 HP1
  go_upto_region 7 with fail
  generalize w5.alloc (.cells #[.bool bt, .slice At nt ct] 39) = w6 at *
  generalize w5.heap.size = gt at *
  refine wp_region_phy (fun a b => Below a.heap.size a b) (fun h k => h.trans (k.mono h.size)) ((Below.refl _ _).drew) (by kernel_rfl) (by kernel_rfl) (by kernel_rfl) (by kernel_rfl) (phiT (fun i => ([some (.agg #[.bool bp, .slice Ap np cpp]), none, none, some (.agg #[.bool bp, .slice Ap np cpp]), some (.bool true), some (.bool true), some (.int .i64 0), some (.bool false), some (.bool false), some (.int .i64 0), some (.bool true), some (.bool true), some (.agg #[.bool bt, .slice At nt ct]), some (.agg #[.bool bp, .slice Ap np cpp]), some (.bool true), some (.bool true), some (.bool true), some (.bool true), some (.bool true), some (.agg #[.bool bp, .slice Ap np cpp]), none, some (.agg #[.bool bp, .slice Ap np cpp]), some (.bool true), some (.bool true), some (.bool true)] : List (Option Value)).getD i none) (fun i v w => (if i = 1 then (fun v w => PolyV w v (some (flL p))) v w else (if i = 2 then (fun v w => PolyV w v (some p)) v w else (if i = 20 then (fun v w => PolyV w v (some p)) v w else True))))) (fun i v w w' h hb => ?_) ⟨?_, ?_, ?_, ?_, ?_, ?_, ?_, ?_, ?_, ?_, ?_, ?_, ?_, ?_, ?_, ?_, ?_, ?_, ?_, ?_, ?_, ?_, ?_, ?_, ?_, trivial⟩ ?_
  · unfold phiT at h ⊢
    split
    · next u hu => rw [hu] at h; exact h
    · next hu =>
      rw [hu] at h
      simp only at h ⊢
      by_cases q1 : i = 1
      · rw [if_pos q1] at h ⊢; exact PolyV.below h hb
      · rw [if_neg q1] at h ⊢
        by_cases q2 : i = 2
        · rw [if_pos q2] at h ⊢; exact PolyV.below h hb
        · rw [if_neg q2] at h ⊢
          by_cases q20 : i = 20
          · rw [if_pos q20] at h ⊢; exact PolyV.below h hb
          · rw [if_neg q20] at h ⊢
            trivial
  · intro x w1 bA hT hdep hold hb
    refine .inl ⟨trivial, ?_⟩
    have e3 : bA.tmps[3]?.getD undef = .pointer (some ⟨gp, 0, none⟩) := hb 3
    have cc0 := (HQP.out.below hT HQP.out.lt).cell 0
    have cc1 := (HQP.out.below hT HQP.out.lt).cell 1
    refine phx_run (.agg #[.bool bp, .slice Ap np cpp]) ?_ (Below.refl _ _) rfl
    clear hb hdep hold
    go_simp
  · intro x w1 bA hT hdep hold hb
    refine .inl ⟨trivial, ?_⟩
    have e32 : bA.tmps[32]?.getD undef = .agg #[.bool bp, .slice Ap np cpp] := (hb 32).trans (hdep 0 (by decide))
    refine phx_call ?_ ((FlipP HOK.out (.agg #[.bool bp, .slice Ap np cpp]) w1 (HPP.out.below hT)).mono fun e w' h => (by obtain ⟨v, he, hv, hb'⟩ := h; exact ⟨v, he, hb', hv⟩))
    clear hb hdep hold
    go_simp
  · intro x w1 bA hT hdep hold hb
    refine .inl ⟨trivial, ?_⟩
    have p33 := hdep 1 (by decide)
    have e33 : bA.tmps[33]?.getD undef = x 1 := hb 33
    generalize x 1 = x33 at *
    have P33 := Lib.hid (show (fun v w => PolyV w v (some (flL p))) x33 w1 from p33)
    clear p33
    refine phx_call ?_ ((NormP HOF.out HFL.out x33 w1 P33.out).mono fun e w' h => (by obtain ⟨v, he, hv, hb'⟩ := h; exact ⟨v, he, hb', hv⟩))
    clear hb hdep hold
    go_simp
  · intro x w1 bA hT hdep hold hb
    refine .inl ⟨trivial, ?_⟩
    have e3 : bA.tmps[3]?.getD undef = .pointer (some ⟨gp, 0, none⟩) := hb 3
    have cc0 := (HQP.out.below hT HQP.out.lt).cell 0
    have cc1 := (HQP.out.below hT HQP.out.lt).cell 1
    refine phx_run (.agg #[.bool bp, .slice Ap np cpp]) ?_ (Below.refl _ _) rfl
    clear hb hdep hold
    go_simp
  · intro x w1 bA hT hdep hold hb
    refine .inl ⟨trivial, ?_⟩
    have p34 := hdep 2 (by decide)
    have e34 : bA.tmps[34]?.getD undef = x 2 := hb 34
    generalize x 2 = x34 at *
    have P34 := Lib.hid (show (fun v w => PolyV w v (some p)) x34 w1 from p34)
    clear p34
    have e35 : bA.tmps[35]?.getD undef = .agg #[.bool bp, .slice Ap np cpp] := (hb 35).trans (hdep 3 (by decide))
    refine phx_call ?_ ((EqP HOK.out x34 (.agg #[.bool bp, .slice Ap np cpp]) w1 P34.out (HPP.out.below hT)).mono fun e w' h => ⟨_, h.1, h.2, rfl⟩)
    clear hb hdep hold
    go_simp
  · intro x w1 bA hT hdep hold hb
    refine .inl ⟨trivial, ?_⟩
    have e36 : bA.tmps[36]?.getD undef = .bool true := (hb 36).trans (hdep 4 (by decide))
    refine phx_run (.bool true) ?_ (Below.refl _ _) rfl
    clear hb hdep hold
    go_simp
  · intro x w1 bA hT hdep hold hb
    refine .inl ⟨⟨37, rfl, (hb 37).trans (hdep 5 (by decide))⟩, ?_⟩
    have e6 : bA.tmps[6]?.getD undef = .int .i64 0 := hb 6
    refine phx_run (.int .i64 0) ?_ (Below.refl _ _) rfl
    clear hb hdep hold
    go_simp
  · intro x w1 bA hT hdep hold hb
    refine .inl ⟨⟨37, rfl, (hb 37).trans (hdep 5 (by decide))⟩, ?_⟩
    have e38 : bA.tmps[38]?.getD undef = .int .i64 0 := (hb 38).trans (hdep 6 (by decide))
    refine phx_run (.bool false) ?_ (Below.refl _ _) rfl
    clear hb hdep hold
    go_simp
  · intro x w1 bA hT hdep hold hb
    refine .inl ⟨⟨37, rfl, (hb 37).trans (hdep 5 (by decide))⟩, ?_⟩
    have e39 : bA.tmps[39]?.getD undef = .bool false := (hb 39).trans (hdep 7 (by decide))
    refine phx_run (.bool false) ?_ (Below.refl _ _) rfl
    clear hb hdep hold
    go_simp
  · intro x w1 bA hT hdep hold hb
    refine .inl ⟨⟨40, rfl, (hb 40).trans (hdep 8 (by decide))⟩, ?_⟩
    have e6 : bA.tmps[6]?.getD undef = .int .i64 0 := hb 6
    refine phx_run (.int .i64 0) ?_ (Below.refl _ _) rfl
    clear hb hdep hold
    go_simp
  · intro x w1 bA hT hdep hold hb
    refine .inl ⟨⟨40, rfl, (hb 40).trans (hdep 8 (by decide))⟩, ?_⟩
    have e41 : bA.tmps[41]?.getD undef = .int .i64 0 := (hb 41).trans (hdep 9 (by decide))
    refine phx_run (.bool true) ?_ (Below.refl _ _) rfl
    clear hb hdep hold
    go_simp
  · intro x w1 bA hT hdep hold hb
    refine .inl ⟨⟨40, rfl, (hb 40).trans (hdep 8 (by decide))⟩, ?_⟩
    have e42 : bA.tmps[42]?.getD undef = .bool true := (hb 42).trans (hdep 10 (by decide))
    refine phx_run (.bool true) ?_ (Below.refl _ _) rfl
    clear hb hdep hold
    go_simp
  · intro x w1 bA hT hdep hold hb
    refine .inl ⟨⟨43, rfl, (hb 43).trans (hdep 11 (by decide))⟩, ?_⟩
    have e5 : bA.tmps[5]?.getD undef = .pointer (some ⟨gt, 0, none⟩) := hb 5
    have cc0 := (HQT.out.below hT HQT.out.lt).cell 0
    have cc1 := (HQT.out.below hT HQT.out.lt).cell 1
    refine phx_run (.agg #[.bool bt, .slice At nt ct]) ?_ (Below.refl _ _) rfl
    clear hb hdep hold
    go_simp
  · intro x w1 bA hT hdep hold hb
    refine .inl ⟨⟨43, rfl, (hb 43).trans (hdep 11 (by decide))⟩, ?_⟩
    have e3 : bA.tmps[3]?.getD undef = .pointer (some ⟨gp, 0, none⟩) := hb 3
    have cc0 := (HQP.out.below hT HQP.out.lt).cell 0
    have cc1 := (HQP.out.below hT HQP.out.lt).cell 1
    refine phx_run (.agg #[.bool bp, .slice Ap np cpp]) ?_ (Below.refl _ _) rfl
    clear hb hdep hold
    go_simp
  · intro x w1 bA hT hdep hold hb
    refine .inl ⟨⟨43, rfl, (hb 43).trans (hdep 11 (by decide))⟩, ?_⟩
    have e44 : bA.tmps[44]?.getD undef = .agg #[.bool bt, .slice At nt ct] := (hb 44).trans (hdep 12 (by decide))
    have e45 : bA.tmps[45]?.getD undef = .agg #[.bool bp, .slice Ap np cpp] := (hb 45).trans (hdep 13 (by decide))
    refine phx_call ?_ ((EqP HOK.out (.agg #[.bool bt, .slice At nt ct]) (.agg #[.bool bp, .slice Ap np cpp]) w1 (HPT.out.below hT) (HPP.out.below hT)).mono fun e w' h => ⟨_, h.1, h.2, rfl⟩)
    clear hb hdep hold
    go_simp
  · intro x w1 bA hT hdep hold hb
    refine .inl ⟨⟨40, rfl, (hb 40).trans (hdep 8 (by decide))⟩, ?_⟩
    have e43 : bA.tmps[43]?.getD undef = .bool true := (hb 43).trans (hdep 11 (by decide))
    have e46 : bA.tmps[46]?.getD undef = .bool true := (hb 46).trans (hdep 14 (by decide))
    refine phx_run (.bool true) ?_ (Below.refl _ _) rfl
    clear hb hdep hold
    go_simp
  · intro x w1 bA hT hdep hold hb
    refine .inl ⟨⟨37, rfl, (hb 37).trans (hdep 5 (by decide))⟩, ?_⟩
    have e40 : bA.tmps[40]?.getD undef = .bool false := (hb 40).trans (hdep 8 (by decide))
    have e47 : bA.tmps[47]?.getD undef = .bool true := (hb 47).trans (hdep 15 (by decide))
    refine phx_run (.bool true) ?_ (Below.refl _ _) rfl
    clear hb hdep hold
    go_simp
  · intro x w1 bA hT hdep hold hb
    refine .inl ⟨trivial, ?_⟩
    have e37 : bA.tmps[37]?.getD undef = .bool true := (hb 37).trans (hdep 5 (by decide))
    have e48 : bA.tmps[48]?.getD undef = .bool true := (hb 48).trans (hdep 16 (by decide))
    refine phx_run (.bool true) ?_ (Below.refl _ _) rfl
    clear hb hdep hold
    go_simp
  · intro x w1 bA hT hdep hold hb
    refine .inl ⟨trivial, ?_⟩
    have e49 : bA.tmps[49]?.getD undef = .bool true := (hb 49).trans (hdep 17 (by decide))
    refine phx_run (.bool true) ?_ (Below.refl _ _) rfl
    clear hb hdep hold
    go_simp
  · intro x w1 bA hT hdep hold hb
    refine .inl ⟨⟨50, rfl, (hb 50).trans (hdep 18 (by decide))⟩, ?_⟩
    have e3 : bA.tmps[3]?.getD undef = .pointer (some ⟨gp, 0, none⟩) := hb 3
    have cc0 := (HQP.out.below hT HQP.out.lt).cell 0
    have cc1 := (HQP.out.below hT HQP.out.lt).cell 1
    refine phx_run (.agg #[.bool bp, .slice Ap np cpp]) ?_ (Below.refl _ _) rfl
    clear hb hdep hold
    go_simp
  · intro x w1 bA hT hdep hold hb
    refine .inl ⟨⟨50, rfl, (hb 50).trans (hdep 18 (by decide))⟩, ?_⟩
    have e51 : bA.tmps[51]?.getD undef = .agg #[.bool bp, .slice Ap np cpp] := (hb 51).trans (hdep 19 (by decide))
    refine phx_call ?_ ((NormP HOK.out HID.out (.agg #[.bool bp, .slice Ap np cpp]) w1 (HPP.out.below hT)).mono fun e w' h => (by obtain ⟨v, he, hv, hb'⟩ := h; exact ⟨v, he, hb', hv⟩))
    clear hb hdep hold
    go_simp
  · intro x w1 bA hT hdep hold hb
    refine .inl ⟨⟨50, rfl, (hb 50).trans (hdep 18 (by decide))⟩, ?_⟩
    have e3 : bA.tmps[3]?.getD undef = .pointer (some ⟨gp, 0, none⟩) := hb 3
    have cc0 := (HQP.out.below hT HQP.out.lt).cell 0
    have cc1 := (HQP.out.below hT HQP.out.lt).cell 1
    refine phx_run (.agg #[.bool bp, .slice Ap np cpp]) ?_ (Below.refl _ _) rfl
    clear hb hdep hold
    go_simp
  · intro x w1 bA hT hdep hold hb
    refine .inl ⟨⟨50, rfl, (hb 50).trans (hdep 18 (by decide))⟩, ?_⟩
    have p52 := hdep 20 (by decide)
    have e52 : bA.tmps[52]?.getD undef = x 20 := hb 52
    generalize x 20 = x52 at *
    have P52 := Lib.hid (show (fun v w => PolyV w v (some p)) x52 w1 from p52)
    clear p52
    have e53 : bA.tmps[53]?.getD undef = .agg #[.bool bp, .slice Ap np cpp] := (hb 53).trans (hdep 21 (by decide))
    refine phx_call ?_ ((EqP HOK.out x52 (.agg #[.bool bp, .slice Ap np cpp]) w1 P52.out (HPP.out.below hT)).mono fun e w' h => ⟨_, h.1, h.2, rfl⟩)
    clear hb hdep hold
    go_simp
  · intro x w1 bA hT hdep hold hb
    refine .inl ⟨trivial, ?_⟩
    have e50 : bA.tmps[50]?.getD undef = .bool true := (hb 50).trans (hdep 18 (by decide))
    have e54 : bA.tmps[54]?.getD undef = .bool true := (hb 54).trans (hdep 22 (by decide))
    refine phx_run (.bool true) ?_ (Below.refl _ _) rfl
    clear hb hdep hold
    go_simp
  · intro x w1 bA hT hdep hold hb
    refine .inl ⟨trivial, ?_⟩
    have e55 : bA.tmps[55]?.getD undef = .bool true := (hb 55).trans (hdep 23 (by decide))
    refine phx_run (.bool true) ?_ (Below.refl _ _) rfl
    clear hb hdep hold
    go_simp
  intro x w1 hT hall
  have x24e : x 24 = .bool true := hall 24 (by decide)
  clear hall
  refine end_look 2 24 (by kernel_rfl) (by kernel_rfl) (by kernel_rfl) x24e (fun T hT2 => ?_)
  clear x24e
  have HB7 := Lib.hid (HB6.out.trans (hT.mono HB6.out.size))
  clear hT
  go_wp2_with fail
  go_ret
  exact ⟨by simp only [Array.getD_eq_getD_getElem?, hT2], HB7.out⟩
end Go.Proofs.YtjeklcgfffibpaaGreatDoor
