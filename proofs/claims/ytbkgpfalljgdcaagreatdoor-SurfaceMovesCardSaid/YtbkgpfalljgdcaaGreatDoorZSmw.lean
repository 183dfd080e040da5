/- The determinant of the transpose (plain). -/
/- det (M - t M^T) read backwards is itself, up to its sign (plain). -/
/- The Seifert matrix of a word by its letters: loops as pairs of successive letters; rotating the word (plain). -/
/- Rotating a word keeps the determinant of its Seifert matrix (plain). -/
import Derived.Test.YtbkgpfalljgdcaaGreatDoorZDeu
import Derived.Test.YtbkgpfalljgdcaaGreatDoorZApd
import Derived.Test.YtbkgpfalljgdcaaGreatDoorZSfm
namespace Go.Proofs.YtbkgpfalljgdcaaGreatDoor
set_option linter.unusedVariables false

theorem sumI_frontT (f : Nat → Int) : ∀ c : Nat, sumI (c + 1) f = f 0 + sumI c (fun k => f (k + 1))
  | 0 => by simp [sumI]
  | c + 1 => by rw [sumI, sumI_frontT f c, sumI]; omega
theorem skp_s0 (k : Nat) : skp (k + 1) 0 = 0 := by simp [skp]
theorem skp_s1 (k l : Nat) : skp (k + 1) (l + 1) = skp k l + 1 := by unfold skp; split <;> split <;> omega
/-- Laplace by the first row -/
theorem dt_row : ∀ (J : List Nat) (f : Nat → Nat → Int), J ≠ [] → dt J f = sumI J.length (fun p => sgn p * f 0 (J[p]?.getD 0) * dt (J.eraseIdx p) (fun l => f (l + 1)))
  | [], f, h => absurd rfl h
  | j :: J, f, _ => by
    have e1 : ∀ k, k < J.length → sgn (k + 1) * f (k + 1) j * dt J (fun l => f (skp (k + 1) l)) = sumI J.length (fun p => -(sgn k * sgn p * f (k + 1) j * f 0 (J[p]?.getD 0) * dt (J.eraseIdx p) (fun l => f (skp k l + 1)))) := by
      intro k hk
      rw [dt_row J _ (fun e => by rw [e] at hk; exact absurd hk (by simp)), ← sumI_mul]
      refine sumI_congr fun p hp => ?_
      simp only [skp_s0, skp_s1, sgn_succ]
      grind
    have e2 : ∀ p, p < J.length → sgn (p + 1) * f 0 ((j :: J)[p + 1]?.getD 0) * dt ((j :: J).eraseIdx (p + 1)) (fun l => f (l + 1)) = sumI J.length (fun k => -(sgn k * sgn p * f (k + 1) j * f 0 (J[p]?.getD 0) * dt (J.eraseIdx p) (fun l => f (skp k l + 1)))) := by
      intro p hp
      rw [List.eraseIdx_cons_succ, dt, List.length_eraseIdx_of_lt hp, show J.length - 1 + 1 = J.length by omega, ← sumI_mul]
      refine sumI_congr fun k hk => ?_
      rw [sgn_succ, List.getElem?_cons_succ]
      grind
    rw [dt, List.length_cons, sumI_frontT, sumI_frontT, sumI_congr e1, sumI_congr e2, sumI_swap]
    rfl
theorem dt_tr : ∀ (n : Nat) (J L : List Nat) (f : Nat → Nat → Int), J.length = n → L.length = n → dt J (fun l j => f (L[l]?.getD 0) j) = dt L (fun l j => f j (J[l]?.getD 0))
  | 0, J, L, f, hJ, hL => by
    rw [List.eq_nil_of_length_eq_zero hJ, List.eq_nil_of_length_eq_zero hL]; rfl
  | n + 1, [], L, f, hJ, hL => by simp at hJ
  | n + 1, j :: J, L, f, hJ, hL => by
    rw [dt_row L _ (fun e => by rw [e] at hL; simp at hL), dt, hL]
    rw [List.length_cons] at hJ
    rw [hJ]
    refine sumI_congr fun k hk => ?_
    have h1 : dt J (fun l c => f (L[skp k l]?.getD 0) c) = dt (L.eraseIdx k) (fun l c => f c (J[l]?.getD 0)) := by
      rw [← dt_tr n J (L.eraseIdx k) f (by omega) (by rw [List.length_eraseIdx_of_lt (by omega)]; omega)]
      refine dt_congr fun l hl c hc => ?_
      rw [List.getElem?_eraseIdx]
      unfold skp
      split <;> rfl
    exact congrArg (sgn k * f (L[k]?.getD 0) j * ·) h1
theorem dt_trans (n : Nat) (f : Nat → Nat → Int) : dt (List.range' 0 n) f = dt (List.range' 0 n) (fun l j => f j l) := by
  have hg : ∀ l, l < n → (List.range' 0 n)[l]?.getD 0 = l := fun l hl => by rw [List.getElem?_range' hl]; simp
  have h := dt_tr n (List.range' 0 n) (List.range' 0 n) f (by simp) (by simp)
  rw [dt_congr (g := f) (fun l hl j hj => by rw [hg l (by simpa using hl)])] at h
  rw [h]
  exact dt_congr fun l hl j hj => by rw [hg l (by simpa using hl)]
end Go.Proofs.YtbkgpfalljgdcaaGreatDoor

namespace Go.Proofs.YtbkgpfalljgdcaaGreatDoor
open Go.RowKit
set_option linter.unusedVariables false

theorem sumI_rev : ∀ (n : Nat) (f : Nat → Int), sumI (n + 1) f = sumI (n + 1) (fun k => f (n - k))
  | 0, f => by simp [sumI]
  | n + 1, f => by
    rw [sumI_frontT f (n + 1), sumI_rev n (fun k => f (k + 1))]
    rw [show sumI (n + 1 + 1) (fun k => f (n + 1 - k)) = sumI (n + 1) (fun k => f (n + 1 - k)) + f (n + 1 - (n + 1)) from rfl, Nat.sub_self, Int.add_comm, sumI_congr (g := fun k => f (n + 1 - k)) fun k hk => by rw [show n - k + 1 = n + 1 - k by omega]]
theorem sum_ext {N : Nat} {a b : Nat → Int} (h : ∀ y : Int, 1 ≤ y → sumI N (fun k => a k * y ^ k) = sumI N (fun k => b k * y ^ k)) (k : Nat) (hk : k < N) : a k = b k := by
  have hg : ∀ (a : Nat → Int) k, k < N → ((List.range N).map a)[k]?.getD 0 = a k := fun a k hk => by rw [List.getElem?_map, List.getElem?_range hk]; rfl
  have hs : ∀ (a : Nat → Int) (y : Int), ev ((List.range N).map a) y = sumI N (fun k => a k * y ^ k) := fun a y => by
    rw [ev_sum y _ N (by simp)]
    exact sumI_congr fun k hk => by rw [hg a k hk]
  have h1 := ev_ext (a := (List.range N).map a) (b := (List.range N).map b) 1 (fun y hy => by rw [hs, hs]; exact h y hy) k
  rw [hg a k hk, hg b k hk] at h1
  exact h1
theorem prodI_pow (s : Int) : ∀ n : Nat, prodI n (fun _ => s) = s ^ n
  | 0 => by simp [prodI]
  | n + 1 => by rw [prodI, prodI_pow s n, Int.pow_succ]
theorem sumN_ones : ∀ n : Nat, sumN n (fun _ => 1) = n
  | 0 => rfl
  | n + 1 => by rw [sumN, sumN_ones n]
/-- det (s M - t M^T) -/
def dS (m : List (List Int)) (n : Nat) (s t : Int) : Int := dt (List.range' 0 n) (fun l j => s * gm m l j - t * gm m j l)
def LS (m : List (List Int)) (n : Nat) (s : Int) : List Int := dtL (List.range' 0 n) (fun l j => [s * gm m l j, -(gm m j l)])
theorem LS_ev (m : List (List Int)) (n : Nat) (s t : Int) : ev (LS m n s) t = dS m n s t := by
  unfold LS dS
  rw [ev_dtL]
  refine dt_congr fun l hl j hj => ?_
  simp only [ev]
  grind
theorem LS_len (m : List (List Int)) (n : Nat) (s : Int) : (LS m n s).length ≤ n + 1 := by
  have h := dtL_length (List.range' 0 n) (fun l j => [s * gm m l j, -(gm m j l)]) (fun _ => 1) (fun l hl j hj => by simp)
  rw [List.length_range', sumN_ones] at h
  exact h
theorem LS_sum (m : List (List Int)) (n : Nat) (s t : Int) : dS m n s t = sumI (n + 1) (fun k => (LS m n s)[k]?.getD 0 * t ^ k) := by
  rw [← LS_ev, ev_sum t _ (n + 1) (LS_len m n s)]
theorem dS_hom (m : List (List Int)) (n : Nat) (s y : Int) : dS m n s (s * y) = s ^ n * dS m n 1 y := by
  have h := dt_rows (List.range' 0 n) (fun l j => 1 * gm m l j - y * gm m j l) (fun _ => s)
  rw [List.length_range', prodI_pow] at h
  unfold dS
  rw [← h]
  exact dt_congr fun l hl j hj => by grind
theorem dS_sym (m : List (List Int)) (n : Nat) (s t : Int) : dS m n s t = (-1) ^ n * dS m n t s := by
  have h := dt_rows (List.range' 0 n) (fun l j => t * gm m l j - s * gm m j l) (fun _ => -1)
  rw [List.length_range', prodI_pow] at h
  unfold dS
  rw [← h, dt_trans]
  exact dt_congr fun l hl j hj => by grind
theorem LS_hom (m : List (List Int)) (n : Nat) {s : Int} (hs : 1 ≤ s) (k : Nat) (hk : k < n + 1) : (LS m n s)[k]?.getD 0 = s ^ (n - k) * (LS m n 1)[k]?.getD 0 := by
  have h := sum_ext (N := n + 1) (a := fun k => (LS m n s)[k]?.getD 0 * s ^ k) (b := fun k => s ^ n * (LS m n 1)[k]?.getD 0) (fun y hy => by
    have h1 := dS_hom m n s y
    rw [LS_sum, LS_sum, ← sumI_mul] at h1
    rw [← (sumI_congr fun l hl => by rw [Int.mul_pow]; grind : sumI (n + 1) (fun k => (LS m n s)[k]?.getD 0 * (s * y) ^ k) = sumI (n + 1) (fun k => (LS m n s)[k]?.getD 0 * s ^ k * y ^ k)), h1]
    exact sumI_congr fun l hl => by grind) k hk
  have hp : s ^ k ≠ 0 := Int.pow_ne_zero (by omega)
  have e : s ^ n = s ^ (n - k) * s ^ k := by rw [← Int.pow_add, show n - k + k = n by omega]
  rw [e] at h
  exact Int.eq_of_mul_eq_mul_right hp (by rw [h]; grind)
/-- the coefficients read backwards -/
theorem LS_pal (m : List (List Int)) (n k : Nat) (hk : k < n + 1) : (LS m n 1)[n - k]?.getD 0 = (-1) ^ n * (LS m n 1)[k]?.getD 0 := by
  refine sum_ext (N := n + 1) (a := fun k => (LS m n 1)[n - k]?.getD 0) (b := fun k => (-1) ^ n * (LS m n 1)[k]?.getD 0) (fun s hs => ?_) k hk
  have h1 := dS_sym m n s 1
  rw [LS_sum m n s 1, LS_sum m n 1 s, ← sumI_mul] at h1
  rw [sumI_rev n (fun k => (LS m n 1)[n - k]?.getD 0 * s ^ k)]
  rw [show sumI (n + 1) (fun k => (-1) ^ n * (LS m n 1)[k]?.getD 0 * s ^ k) = sumI (n + 1) (fun k => (-1) ^ n * ((LS m n 1)[k]?.getD 0 * s ^ k)) from sumI_congr fun l hl => by grind, ← h1]
  refine sumI_congr fun l hl => ?_
  rw [LS_hom m n hs l hl, show n - (n - l) = l by omega, Int.one_pow]
  grind
theorem detE_dS {m : List (List Int)} (x : Int) : detE 0 (alM m) x = dS m m.length 1 x := by
  unfold detE dS
  rw [alM_length]
  refine dt_congr fun l hl j hj => ?_
  have hl' : l < m.length := by simpa using hl
  have hj' : j < m.length := by have := List.mem_range'_1.1 hj; omega
  rw [alM_get hl', Option.getD_some, alR_get hj', Option.getD_some]
  unfold alE
  rw [ev2L]
  grind
theorem D_is {m : List (List Int)} {D : LP} (hc : Can D) (h0 : ∀ t ∈ D, 0 ≤ t.1) (hv : ∀ x, 1 ≤ x → evQ 0 x D = detE 0 (alM m) x) : D = ofL 0 (LS m m.length 1) :=
  evQ_inj (N := 0) hc (ofL_can _ _) (fun t ht => by have := h0 t ht; omega) (fun t ht => by have := ofL_0 t ht; omega) fun x hx => by
    rw [hv x hx, detE_dS, ← LS_ev, evQ_ofL 0 x _ 0 (by simp)]
    simp
theorem D_pal {m : List (List Int)} (e : Int) : cf (ofL 0 (LS m m.length 1)) ((m.length : Int) - e) = (-1) ^ m.length * cf (ofL 0 (LS m m.length 1)) e := by
  have hneg : ∀ e : Int, e < 0 → cf (ofL 0 (LS m m.length 1)) e = 0 := fun e he => cf_out fun t ht => by have := ofL_0 t ht; omega
  have hbig : ∀ e : Int, (m.length : Int) < e → cf (ofL 0 (LS m m.length 1)) e = 0 := fun e he => by
    rw [cf_ofL e _ 0 (by omega), List.getElem?_eq_none (by have := LS_len m m.length 1; omega)]; rfl
  rcases Int.lt_or_le e 0 with h | h
  · rw [hneg e h, hbig _ (by omega)]; simp
  · rcases Int.lt_or_le (m.length : Int) e with h2 | h2
    · rw [hbig e h2, hneg _ (by omega)]; simp
    · rw [cf_ofL _ _ 0 (by omega), cf_ofL e _ 0 h]
      have h3 := LS_pal m m.length e.toNat (by omega)
      rw [show ((m.length : Int) - e - 0).toNat = m.length - e.toNat by omega, show (e - 0).toNat = e.toNat by omega]
      exact h3
/-- the transposed matrix has the same determinant -/
theorem detE_tr {m k : List (List Int)} (hl : k.length = m.length) (hg : ∀ i j, i < m.length → j < m.length → gm k i j = gm m j i) (x : Int) : detE 0 (alM k) x = detE 0 (alM m) x := by
  rw [detE_dS, detE_dS, hl]
  unfold dS
  rw [dt_trans]
  refine dt_congr fun l hl j hj => ?_
  have hl' : l < m.length := by simpa using hl
  have hj' : j < m.length := by have := List.mem_range'_1.1 hj; omega
  rw [hg j l hj' hl', hg l j hl' hj']
end Go.Proofs.YtbkgpfalljgdcaaGreatDoor

namespace Go.Proofs.YtbkgpfalljgdcaaGreatDoor
open Go.RowKit
set_option linter.unusedVariables false

/-! ### determinants -/
def sw6 (k i : Nat) : Nat := if i = k then k + 1 else if i = k + 1 then k else i
theorem dt_sw6 {n k : Nat} (h : k + 1 < n) (f : Nat → Nat → Int) : dt (List.range' 0 n) (fun i j => f (sw6 k i) j) = - dt (List.range' 0 n) f := by
  rw [← dt_swap_adj (f := f) (k := k) (by simpa using h)]
  congr 1
  funext i j
  unfold fup sw6
  by_cases e1 : i = k + 1
  · subst e1; simp
  · by_cases e2 : i = k
    · subst e2; simp
    · simp [e1, e2]
theorem dt_sw2 {n k : Nat} (h : k + 1 < n) (f : Nat → Nat → Int) : dt (List.range' 0 n) (fun i j => f (sw6 k i) (sw6 k j)) = dt (List.range' 0 n) f := by
  rw [dt_sw6 h (fun i j => f i (sw6 k j)), dt_trans n (fun i j => f i (sw6 k j)), dt_sw6 h (fun i j => f j i), Int.neg_neg, ← dt_trans]
/-- the place that lies at o comes to o + m -/
def cy6 (o m i : Nat) : Nat := if o ≤ i ∧ i < o + m then i + 1 else if i = o + m then o else i
theorem cy6_0 (o i : Nat) : cy6 o 0 i = i := by unfold cy6; split; omega; split <;> omega
theorem cy6_s (o m i : Nat) : cy6 o (m + 1) i = cy6 o m (sw6 (o + m) i) := by
  by_cases e1 : i = o + m
  · subst e1
    rw [show sw6 (o + m) (o + m) = o + m + 1 by unfold sw6; rw [if_pos rfl]]
    unfold cy6
    rw [if_pos (by omega), if_neg (by omega), if_neg (by omega)]
  · by_cases e2 : i = o + m + 1
    · subst e2
      rw [show sw6 (o + m) (o + m + 1) = o + m by unfold sw6; rw [if_neg (by omega), if_pos rfl]]
      unfold cy6
      rw [if_neg (by omega), if_pos (by omega), if_neg (by omega), if_pos rfl]
    · rw [show sw6 (o + m) i = i by unfold sw6; rw [if_neg e1, if_neg e2]]
      unfold cy6
      by_cases e3 : o ≤ i ∧ i < o + m
      · rw [if_pos (by omega), if_pos e3]
      · rw [if_neg (by omega), if_neg e3, if_neg (by omega), if_neg e1]
theorem dt_cy6 {n o : Nat} (f : Nat → Nat → Int) : ∀ m, o + m < n → dt (List.range' 0 n) (fun i j => f (cy6 o m i) (cy6 o m j)) = dt (List.range' 0 n) f
  | 0, _ => by simp only [cy6_0]
  | m + 1, h => by
    simp only [cy6_s]
    rw [dt_sw2 (k := o + m) (by omega) (fun i j => f (cy6 o m i) (cy6 o m j)), dt_cy6 f m (by omega)]
/-- row and column o give way to a combination -/
def rc6 (n o : Nat) (b : Nat → Int) (F : Nat → Nat → Int) (i j : Nat) : Int :=
  if i = o then (if j = o then sumI n (fun k => b k * sumI n (fun l => b l * F l k)) else sumI n (fun l => b l * F l j)) else if j = o then sumI n (fun l => b l * F i l) else F i j
theorem dt_rc6 {n o : Nat} (ho : o < n) (b : Nat → Int) (F : Nat → Nat → Int) : dt (List.range' 0 n) (rc6 n o b F) = b o * (b o * dt (List.range' 0 n) F) := by
  have hJ : o < (List.range' 0 n).length := by simpa using ho
  have h1 := dt_comb (f := F) hJ b
  rw [List.length_range'] at h1
  have h2 := dt_comb (f := fun i j => fup F o (fun j => sumI n (fun l => b l * F l j)) j i) hJ b
  rw [List.length_range'] at h2
  rw [← dt_trans n (fup F o _), h1] at h2
  rw [← h2, dt_trans]
  congr 1
  funext i j
  unfold rc6 fup
  by_cases e1 : i = o <;> by_cases e2 : j = o <;> simp [e1, e2]
/-- the new basis: row and column o + m of G' is what the rows o .. o + m of G give -/
theorem dt_basis {n o m : Nat} (hom : o + m < n) (G G' : Nat → Nat → Int) (b : Nat → Int) (hb : b o = -1)
    (h1 : ∀ i j, i < n → j < n → i ≠ o + m → j ≠ o + m → G' i j = G (cy6 o m i) (cy6 o m j))
    (h2 : ∀ j, j < n → j ≠ o + m → G' (o + m) j = sumI n (fun l => b l * G l (cy6 o m j)))
    (h3 : ∀ i, i < n → i ≠ o + m → G' i (o + m) = sumI n (fun l => b l * G (cy6 o m i) l))
    (h4 : G' (o + m) (o + m) = sumI n (fun k => b k * sumI n (fun l => b l * G l k)))
    (h5 : sumI n (fun k => b k * sumI n (fun l => b l * G k l)) = sumI n (fun k => b k * sumI n (fun l => b l * G l k))) (s t : Int) :
    dt (List.range' 0 n) (fun i j => s * G' i j - t * G' j i) = dt (List.range' 0 n) (fun i j => s * G i j - t * G j i) := by
  have e := dt_rc6 (show o < n by omega) b (fun i j => s * G i j - t * G j i)
  rw [hb, show (-1 : Int) * (-1 * dt (List.range' 0 n) (fun i j => s * G i j - t * G j i)) = dt (List.range' 0 n) (fun i j => s * G i j - t * G j i) by omega, ← dt_cy6 _ m hom] at e
  rw [← e]
  have hc : ∀ i, i ≠ o + m → cy6 o m i ≠ o := fun i hi => by unfold cy6; split <;> (try split) <;> omega
  have hcm : cy6 o m (o + m) = o := by unfold cy6; rw [if_neg (by omega), if_pos rfl]
  have lin : ∀ (u v : Nat → Int), sumI n (fun l => b l * (s * u l - t * v l)) = s * sumI n (fun l => b l * u l) - t * sumI n (fun l => b l * v l) := fun u v => by
    rw [← sumI_mul, ← sumI_sub]
    exact sumI_congr fun l hl => by grind
  refine dt_congr fun i hi j hj => ?_
  have hi' : i < n := by simpa using hi
  have hj' : j < n := by have := List.mem_range'_1.1 hj; omega
  unfold rc6
  by_cases e1 : i = o + m
  · subst e1
    rw [hcm, if_pos rfl]
    by_cases e2 : j = o + m
    · subst e2
      rw [hcm, if_pos rfl, h4]
      rw [sumI_congr (f := fun k => b k * sumI n (fun l => b l * (s * G l k - t * G k l))) (g := fun k => b k * (s * sumI n (fun l => b l * G l k) - t * sumI n (fun l => b l * G k l))) fun k hk => by rw [lin (fun l => G l k) (fun l => G k l)]]
      rw [lin, h5]
    · rw [if_neg (hc j e2), lin (fun l => G l _) (fun l => G _ l), h2 j hj' e2, h3 j hj' e2]
  · rw [if_neg (hc i e1)]
    by_cases e2 : j = o + m
    · subst e2
      rw [hcm, if_pos rfl, lin (fun l => G _ l) (fun l => G l _), h2 i hi' e1, h3 i hi' e1]
    · rw [if_neg (hc j e2), h1 i j hi' hj' e1 e2, h1 j i hj' hi' e2 e1]
/-! ### loops by letters -/
/-- consecutive pairs -/
def prs (g : Int) : List Int → List L3
  | a :: b :: t => (g, a, b) :: prs g (b :: t)
  | _ => []
def lst6 : List Int → Int
  | [] => -1
  | [a] => a
  | _ :: b :: t => lst6 (b :: t)
theorem lst6_snoc : ∀ (l : List Int) (z : Int), lst6 (l ++ [z]) = z
  | [], z => rfl
  | [a], z => rfl
  | a :: b :: t, z => by
    have := lst6_snoc (b :: t) z
    exact this
theorem prs_snoc (g : Int) : ∀ (l : List Int) (z : Int), prs g (l ++ [z]) = if l = [] then [] else prs g l ++ [(g, lst6 l, z)]
  | [], z => rfl
  | [a], z => rfl
  | a :: b :: t, z => by
    have := prs_snoc g (b :: t) z
    rw [if_neg (by simp)] at this ⊢
    show (g, a, b) :: prs g (b :: t ++ [z]) = _
    rw [this]; rfl
theorem prs_map (g : Int) : ∀ l : List Int, prs g (l.map (· + 1)) = (prs g l).map (fun x => (x.1, x.2.1 + 1, x.2.2 + 1))
  | [] => rfl
  | [a] => rfl
  | a :: b :: t => by
    have := prs_map g (b :: t)
    show (g, a + 1, b + 1) :: prs g ((b :: t).map (· + 1)) = _
    rw [this]; rfl
theorem prs_length (g : Int) : ∀ l : List Int, (prs g l).length = l.length - 1
  | [] => rfl
  | [a] => rfl
  | a :: b :: t => by
    show (prs g (b :: t)).length + 1 = _
    rw [prs_length g (b :: t)]; simp
theorem prs_get (g : Int) : ∀ (l : List Int) (k : Nat), k + 1 < l.length → (prs g l)[k]? = some (g, l[k]?.getD 0, l[k + 1]?.getD 0)
  | [], k, h => by simp at h
  | [a], k, h => by simp at h
  | a :: b :: t, 0, h => rfl
  | a :: b :: t, k + 1, h => by
    have := prs_get g (b :: t) k (by simpa using h)
    simpa [prs] using this
def oc6 (g : Int) (W : List Int) : Nat → List Int
  | 0 => []
  | k + 1 => oc6 g W k ++ (if isG g (W[k]?.getD 0) = true then [(k : Int)] else [])
theorem oc6_bd (g : Int) (W : List Int) : ∀ k, ∀ r ∈ oc6 g W k, 0 ≤ r ∧ r < (k : Int) ∧ isG g (W[r.toNat]?.getD 0) = true
  | 0, r, h => by simp [oc6] at h
  | k + 1, r, h => by
    rw [oc6] at h
    rcases List.mem_append.1 h with q | q
    · have := oc6_bd g W k r q; exact ⟨this.1, by omega, this.2.2⟩
    · split at q
      · next hg => rw [List.mem_singleton.1 q]; exact ⟨by omega, by omega, by simpa using hg⟩
      · simp at q
theorem lst6_mem : ∀ (l : List Int), l ≠ [] → lst6 l ∈ l
  | [], h => absurd rfl h
  | [a], _ => by simp [lst6]
  | a :: b :: t, _ => List.mem_cons_of_mem _ (lst6_mem (b :: t) (by simp))
theorem lpF_oc (g : Int) (W : List Int) : ∀ k, lpF g W k = (lst6 (oc6 g W k), prs g (oc6 g W k))
  | 0 => rfl
  | k + 1 => by
    rw [lpF, oc6, lpF_oc g W k]
    by_cases c : isG g (W[k]?.getD 0) = true
    · rw [if_pos c, if_pos c, lst6_snoc, prs_snoc]
      congr 1
      by_cases e : oc6 g W k = []
      · rw [if_pos e, e]; rfl
      · rw [if_neg e, if_pos (oc6_bd g W k _ (lst6_mem _ e)).1]
    · rw [if_neg c, if_neg c, List.append_nil]
theorem oc6_congr (g : Int) (W W' : List Int) : ∀ k, (∀ i, i < k → isG g (W[i]?.getD 0) = isG g (W'[i]?.getD 0)) → oc6 g W k = oc6 g W' k
  | 0, _ => rfl
  | k + 1, h => by rw [oc6, oc6, oc6_congr g W W' k fun i hi => h i (by omega), h k (by omega)]
theorem oc6_cons (g a : Int) (t : List Int) : ∀ k, oc6 g (a :: t) (k + 1) = (if isG g a = true then [0] else []) ++ (oc6 g t k).map (· + 1)
  | 0 => by
    show [] ++ (if isG g ((a :: t)[0]?.getD 0) = true then [((0 : Nat) : Int)] else []) = _
    simp [oc6]
  | k + 1 => by
    rw [oc6, oc6_cons g a t k, oc6, List.map_append, ← List.append_assoc]
    congr 1
    rw [List.getElem?_cons_succ]
    split
    · simp
    · rfl
theorem oc6_snoc (g a : Int) (t : List Int) : oc6 g (t ++ [a]) (t.length + 1) = oc6 g t t.length ++ (if isG g a = true then [(t.length : Int)] else []) := by
  rw [oc6, oc6_congr g (t ++ [a]) t t.length fun i hi => by rw [List.getElem?_append_left hi]]
  rw [List.getElem?_append_right (Nat.le_refl _), Nat.sub_self]
  rfl
end Go.Proofs.YtbkgpfalljgdcaaGreatDoor

namespace Go.Proofs.YtbkgpfalljgdcaaGreatDoor
open Go.RowKit
set_option linter.unusedVariables false

theorem isG_iff {g l : Int} : isG g l = true ↔ l = g ∨ l = -g := by unfold isG; simp
/-- a loop: two successive letters of a generator -/
structure Gd6 (W : List Int) (x : L3) : Prop where
  pos : 1 ≤ x.1
  lo : 0 ≤ x.2.1
  lt : x.2.1 < x.2.2
  hi : x.2.2 < (W.length : Int)
  p : isG x.1 (wAt W x.2.1) = true
  q : isG x.1 (wAt W x.2.2) = true
  gap : ∀ r, x.2.1 < r → r < x.2.2 → isG x.1 (wAt W r) = false
def T6 (W : List Int) (g h r s : Int) : Int := if g = h then (if s < r then 1 else if r = s ∧ wAt W r < 0 then 1 else 0) else if h = g + 1 then (if s < r then -1 else 0) else 0
def V6 (W : List Int) (x y : L3) : Int := T6 W x.1 y.1 x.2.2 y.2.2 - T6 W x.1 y.1 x.2.2 y.2.1 - T6 W x.1 y.1 x.2.1 y.2.2 + T6 W x.1 y.1 x.2.1 y.2.1
theorem T6_lt {W : List Int} {g r s : Int} (h : s < r) : T6 W g g r s = 1 := by unfold T6; rw [if_pos rfl, if_pos h]
theorem T6_gt {W : List Int} {g r s : Int} (h : r < s) : T6 W g g r s = 0 := by unfold T6; rw [if_pos rfl, if_neg (by omega), if_neg (by omega)]
theorem T6_eq {W : List Int} {g r : Int} : T6 W g g r r = if wAt W r < 0 then 1 else 0 := by
  unfold T6; rw [if_pos rfl, if_neg (by omega)]
  by_cases h : wAt W r < 0
  · rw [if_pos ⟨rfl, h⟩, if_pos h]
  · rw [if_neg (fun k => h k.2), if_neg h]
theorem T6_adj {W : List Int} {g r s : Int} : T6 W g (g + 1) r s = if s < r then -1 else 0 := by unfold T6; rw [if_neg (by omega), if_pos rfl]
theorem T6_no {W : List Int} {g h r s : Int} (h1 : g ≠ h) (h2 : h ≠ g + 1) : T6 W g h r s = 0 := by unfold T6; rw [if_neg h1, if_neg h2]
theorem sfE_V6 {W : List Int} {x y : L3} (hx : Gd6 W x) (hy : Gd6 W y) : sfE W x y = V6 W x y := by
  obtain ⟨g, p, p'⟩ := x
  obtain ⟨h, q, q'⟩ := y
  obtain ⟨x1, x2, x3, x4, x5, x6, x7⟩ := hx
  obtain ⟨y1, y2, y3, y4, y5, y6, y7⟩ := hy
  dsimp only at *
  rw [sfE_eq]
  unfold V6
  dsimp only
  by_cases e : g = h
  · subst e
    have np : wAt W p ≠ 0 := by rcases isG_iff.1 x5 with k | k <;> omega
    have np' : wAt W p' ≠ 0 := by rcases isG_iff.1 x6 with k | k <;> omega
    have k1 : ¬ (p < q ∧ q < p') := fun k => by have := x7 q k.1 k.2; rw [this] at y5; cases y5
    have k2 : ¬ (p < q' ∧ q' < p') := fun k => by have := x7 q' k.1 k.2; rw [this] at y6; cases y6
    have k3 : ¬ (q < p ∧ p < q') := fun k => by have := y7 p k.1 k.2; rw [this] at x5; cases x5
    have k4 : ¬ (q < p' ∧ p' < q') := fun k => by have := y7 p' k.1 k.2; rw [this] at x6; cases x6
    clear x5 x6 x7 y5 y6 y7
    by_cases c1 : p = q
    · subst c1
      have c2 : p' = q' := by omega
      subst c2
      rw [if_pos ⟨rfl, rfl, rfl⟩, T6_eq, T6_lt x3, T6_gt x3, T6_eq]
      generalize wAt W p = a at *
      generalize wAt W p' = b at *
      clear k1 k2 k3 k4
      by_cases z1 : 0 < a <;> by_cases z2 : 0 < b
      · rw [if_pos ⟨z1, z2⟩, if_neg (by omega), if_neg (by omega)]; rfl
      · rw [if_neg (by omega), if_neg (by omega), if_pos (by omega), if_neg (by omega)]; rfl
      · rw [if_neg (by omega), if_neg (by omega), if_neg (by omega), if_pos (by omega)]; rfl
      · rw [if_neg (by omega), if_pos (by omega), if_pos (by omega), if_pos (by omega)]; rfl
    · rw [if_neg (by omega)]
      by_cases c2 : p' = q
      · subst c2
        rw [if_pos ⟨rfl, rfl⟩, T6_gt y3, T6_eq, T6_gt (by omega), T6_gt x3]
        split <;> rfl
      · rw [if_neg (by omega)]
        by_cases c3 : p = q'
        · subst c3
          rw [if_pos ⟨rfl, rfl⟩, T6_lt x3, T6_lt (by omega), T6_eq, T6_lt y3]
          by_cases z : 0 < wAt W p
          · rw [if_pos z, if_neg (by omega)]; rfl
          · rw [if_neg z, if_pos (by omega)]; rfl
        · rw [if_neg (by omega), if_neg (by omega), if_neg (by omega)]
          rcases Int.lt_or_le p q with z | z
          · rw [T6_gt (by omega), T6_gt (by omega), T6_gt (by omega), T6_gt (by omega)]; rfl
          · rw [T6_lt (by omega), T6_lt (by omega), T6_lt (by omega), T6_lt (by omega)]; rfl
  · rw [if_neg (by omega), if_neg (by omega), if_neg (by omega)]
    by_cases f : h = g + 1
    · subst f
      have k1 : p ≠ q := fun k => by subst k; rcases isG_iff.1 x5 with k | k <;> rcases isG_iff.1 y5 with k' | k' <;> omega
      have k2 : p ≠ q' := fun k => by subst k; rcases isG_iff.1 x5 with k | k <;> rcases isG_iff.1 y6 with k' | k' <;> omega
      have k3 : p' ≠ q := fun k => by subst k; rcases isG_iff.1 x6 with k | k <;> rcases isG_iff.1 y5 with k' | k' <;> omega
      have k4 : p' ≠ q' := fun k => by subst k; rcases isG_iff.1 x6 with k | k <;> rcases isG_iff.1 y6 with k' | k' <;> omega
      clear x5 x6 x7 y5 y6 y7
      rw [T6_adj, T6_adj, T6_adj, T6_adj]
      by_cases z1 : p < q
      · rw [if_neg (show ¬ q' < p by omega), if_neg (show ¬ q < p by omega)]
        by_cases z2 : q < p'
        · by_cases z3 : p' < q'
          · rw [if_pos ⟨rfl, z1, z2, z3⟩, if_neg (by omega), if_pos z2]; rfl
          · rw [if_neg (by omega), if_neg (by omega), if_pos (by omega), if_pos z2]; rfl
        · rw [if_neg (by omega), if_neg (by omega), if_neg (by omega), if_neg z2]; rfl
      · rw [if_neg (show ¬ (g + 1 = g + 1 ∧ p < q ∧ q < p' ∧ p' < q') by omega), if_pos (show q < p' by omega), if_pos (show q < p by omega)]
        by_cases z2 : p < q'
        · by_cases z3 : q' < p'
          · rw [if_pos ⟨rfl, by omega, z2, z3⟩, if_pos z3, if_neg (by omega)]; rfl
          · rw [if_neg (by omega), if_neg z3, if_neg (by omega)]; rfl
        · rw [if_neg (by omega), if_pos (by omega), if_pos (by omega)]; rfl
    · rw [T6_no e f, T6_no e f, T6_no e f, T6_no e f, if_neg (by omega), if_neg (by omega)]
      rfl
theorem gd_oc {g : Int} (hg : 1 ≤ g) (W : List Int) : ∀ k, k ≤ W.length →
    (∀ r, lst6 (oc6 g W k) < r → r < (k : Int) → isG g (wAt W r) = false) ∧ (∀ x ∈ prs g (oc6 g W k), Gd6 W x)
  | 0, _ => ⟨fun r h1 h2 => by simp [oc6, lst6] at h1; omega, fun x h => by simp [oc6, prs] at h⟩
  | k + 1, hk => by
    obtain ⟨h1, h2⟩ := gd_oc hg W k (by omega)
    have hw : W[k]?.getD 0 = wAt W (k : Int) := by unfold wAt; rw [Int.toNat_natCast]
    rw [oc6]
    by_cases c : isG g (W[k]?.getD 0) = true
    · rw [if_pos c, lst6_snoc, prs_snoc]
      refine ⟨fun r a b => by omega, fun x hx => ?_⟩
      split at hx
      · simp at hx
      · next hne =>
        rcases List.mem_append.1 hx with q | q
        · exact h2 x q
        · rw [List.mem_singleton.1 q]
          have hl := oc6_bd g W k _ (lst6_mem _ hne)
          exact ⟨hg, hl.1, hl.2.1, by show (k : Int) < _; omega, hl.2.2, by rw [← hw]; exact c, h1⟩
    · rw [if_neg c, List.append_nil]
      refine ⟨fun r a b => ?_, h2⟩
      rcases Int.lt_or_le r (k : Int) with z | z
      · exact h1 r a z
      · rw [show r = (k : Int) by omega, ← hw]; exact Bool.eq_false_iff.2 c
def blk (g : Int) (W : List Int) : List L3 := prs g (oc6 g W W.length)
theorem lgL_blk (W : List Int) (g : Nat) : lgL W (g + 1) = lgL W g ++ blk ((g + 1 : Nat) : Int) W := by rw [lgL, lpF_oc]; rfl
theorem gd_blk {g : Int} (hg : 1 ≤ g) (W : List Int) : ∀ x ∈ blk g W, Gd6 W x := (gd_oc hg W W.length (Nat.le_refl _)).2
theorem gd_lgL (W : List Int) : ∀ g : Nat, ∀ x ∈ lgL W g, Gd6 W x
  | 0, x, h => by simp [lgL] at h
  | g + 1, x, h => by
    rw [lgL_blk] at h
    rcases List.mem_append.1 h with q | q
    · exact gd_lgL W g x q
    · exact gd_blk (by omega) W x q
def up6 (x : L3) : L3 := (x.1, x.2.1 + 1, x.2.2 + 1)
section
variable {a : Int} {t : List Int}
theorem blk_other {h : Int} (hh : isG h a = false) : blk h (a :: t) = (blk h (t ++ [a])).map up6 := by
  unfold blk
  rw [List.length_cons, oc6_cons, List.length_append, List.length_singleton, oc6_snoc, hh]
  simp only [Bool.false_eq_true, if_false, List.nil_append, List.append_nil]
  rw [prs_map]; rfl
theorem blk_here {g : Int} (hg : isG g a = true) : blk g (a :: t) = prs g (0 :: (oc6 g t t.length).map (· + 1)) ∧ blk g (t ++ [a]) = prs g (oc6 g t t.length ++ [(t.length : Int)]) := by
  unfold blk
  rw [List.length_cons, oc6_cons, List.length_append, List.length_singleton, oc6_snoc, hg]
  exact ⟨rfl, rfl⟩
theorem isG_only {g h : Nat} (hg : 1 ≤ g) (h1 : isG (g : Int) a = true) (hne : h ≠ g) : isG (h : Int) a = false := Bool.eq_false_iff.2 fun c => by
  rcases isG_iff.1 h1 with k | k <;> rcases isG_iff.1 c with k' | k' <;> omega
theorem lgL_low {g : Nat} (hg : 1 ≤ g) (h1 : isG (g : Int) a = true) : ∀ G, G < g → lgL (a :: t) G = (lgL (t ++ [a]) G).map up6
  | 0, _ => rfl
  | G + 1, h => by rw [lgL_blk, lgL_blk, List.map_append, lgL_low hg h1 G (by omega), blk_other (isG_only hg h1 (by omega))]
theorem lgL_split {g : Nat} (hg : 1 ≤ g) (h1 : isG (g : Int) a = true) : ∀ d, ∃ S : List L3,
    lgL (a :: t) (g + d) = (lgL (t ++ [a]) (g - 1)).map up6 ++ prs (g : Int) (0 :: (oc6 (g : Int) t t.length).map (· + 1)) ++ S.map up6 ∧
    lgL (t ++ [a]) (g + d) = lgL (t ++ [a]) (g - 1) ++ prs (g : Int) (oc6 (g : Int) t t.length ++ [(t.length : Int)]) ++ S
  | 0 => by
    refine ⟨[], ?_⟩
    obtain ⟨k, rfl⟩ : ∃ k, g = k + 1 := ⟨g - 1, by omega⟩
    rw [Nat.add_zero, lgL_blk, lgL_blk, (blk_here h1).1, (blk_here h1).2, lgL_low hg h1 k (by omega)]
    simp
  | d + 1 => by
    obtain ⟨S, e1, e2⟩ := lgL_split hg h1 d
    refine ⟨S ++ blk ((g + d + 1 : Nat) : Int) (t ++ [a]), ?_⟩
    rw [← Nat.add_assoc, lgL_blk, lgL_blk, e1, e2, blk_other (isG_only hg h1 (by omega)), List.map_append]
    simp
theorem wAt_up {r : Int} (h0 : 0 ≤ r) (hn : r < (t.length : Int)) : wAt (t ++ [a]) r = wAt (a :: t) (r + 1) := by
  unfold wAt
  rw [List.getElem?_append_left (by omega), show (r + 1).toNat = r.toNat + 1 by omega, List.getElem?_cons_succ]
theorem wAt_end : wAt (t ++ [a]) (t.length : Int) = wAt (a :: t) 0 := by
  unfold wAt
  rw [Int.toNat_natCast, List.getElem?_append_right (Nat.le_refl _), Nat.sub_self]; rfl
theorem T6_up (g h : Int) {r s : Int} (h0 : 0 ≤ r) (hn : r < (t.length : Int)) : T6 (t ++ [a]) g h r s = T6 (a :: t) g h (r + 1) (s + 1) := by
  unfold T6
  rw [wAt_up h0 hn]
  by_cases e : s < r <;> by_cases f : r = s <;> simp [e, f]
  all_goals (try omega)
theorem V6_up {x y : L3} (hx : Gd6 (a :: t) (up6 x)) (x0 : 0 ≤ x.2.1) : V6 (t ++ [a]) x y = V6 (a :: t) (up6 x) (up6 y) := by
  have h1 := hx.hi
  have h2 := hx.lt
  rw [List.length_cons] at h1
  unfold up6 at h1 h2
  dsimp only at h1 h2
  unfold V6 up6
  dsimp only
  rw [T6_up _ _ (by omega) (by omega), T6_up _ _ (by omega) (by omega), T6_up _ _ (by omega) (by omega), T6_up _ _ (by omega) (by omega)]
end
theorem tele6 (F : Nat → Int) (o m : Nat) : ∀ k, sumI k (fun l => (if o ≤ l ∧ l ≤ o + m then (-1 : Int) else 0) * (F (l + 1) - F l)) = if k ≤ o then 0 else if k ≤ o + m + 1 then -(F k - F o) else -(F (o + m + 1) - F o)
  | 0 => by simp [sumI]
  | k + 1 => by
    rw [sumI, tele6 F o m k]
    by_cases c1 : k < o
    · rw [if_pos (by omega), if_neg (by omega), if_pos (by omega)]; omega
    · by_cases c2 : k ≤ o + m
      · rw [if_pos (show o ≤ k ∧ k ≤ o + m by omega), if_neg (show ¬ k + 1 ≤ o by omega), if_pos (show k + 1 ≤ o + m + 1 by omega)]
        by_cases c3 : k ≤ o
        · rw [if_pos c3, show o = k by omega]; omega
        · rw [if_neg c3, if_pos (by omega)]; omega
      · rw [if_neg (show ¬ (o ≤ k ∧ k ≤ o + m) by omega), if_neg (show ¬ k + 1 ≤ o by omega), if_neg (show ¬ k + 1 ≤ o + m + 1 by omega), if_neg (show ¬ k ≤ o by omega)]
        by_cases c3 : k ≤ o + m + 1
        · rw [if_pos c3, show k = o + m + 1 by omega]; omega
        · rw [if_neg c3]; omega
theorem get3 {α : Type} (A B C : List α) (i : Nat) : (A ++ B ++ C)[i]? = if i < A.length then A[i]? else if i < A.length + B.length then B[i - A.length]? else C[i - A.length - B.length]? := by
  by_cases h : i < A.length
  · rw [if_pos h, List.append_assoc, List.getElem?_append_left h]
  · rw [if_neg h]
    by_cases h2 : i < A.length + B.length
    · rw [if_pos h2, List.getElem?_append_left (by simpa using h2), List.getElem?_append_right (by omega)]
    · rw [if_neg h2, List.getElem?_append_right (by simp; omega)]
      congr 1
      simp; omega
end Go.Proofs.YtbkgpfalljgdcaaGreatDoor
