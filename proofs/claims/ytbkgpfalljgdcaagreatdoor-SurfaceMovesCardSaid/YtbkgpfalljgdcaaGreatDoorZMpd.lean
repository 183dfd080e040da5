/- polymatrix.field.transform is a Fourier transform, and its inverse (plain). -/
/- polymatrix: what residues and interpolated find is the determinant (plain). -/
/- polymatrix.determinant: plain; interpolated for every matrix of terms. -/
import Derived.Test.YtbkgpfalljgdcaaGreatDoorZFdm
import Derived.Test.YtbkgpfalljgdcaaGreatDoorZEnd
import Derived.Test.YtbkgpfalljgdcaaGreatDoorZItp
import Derived.Test.YtbkgpfalljgdcaaGreatDoorZMpo
import Derived.Test.YtbkgpfalljgdcaaGreatDoorZItn
namespace Go.Proofs.YtbkgpfalljgdcaaGreatDoor
set_option linter.unusedVariables false

theorem Md.sumI {p : Int} {C : Nat} {f g : Nat → Int} (h : ∀ l, l < C → Md p (f l) (g l)) : Md p (Go.Proofs.YtbkgpfalljgdcaaGreatDoor.sumI C f) (Go.Proofs.YtbkgpfalljgdcaaGreatDoor.sumI C g) := sumI_mod h
theorem sumI_halves (f : Nat → Int) : ∀ h : Nat, sumI (2 * h) f = sumI h (fun i => f (2 * i)) + sumI h (fun i => f (2 * i + 1))
  | 0 => rfl
  | h + 1 => by
    rw [show 2 * (h + 1) = 2 * h + 1 + 1 by omega, sumI, sumI, sumI_halves f h, sumI, sumI]
    omega
theorem twF_md (p r : Nat) : ∀ i, Md p (twF p r i : Nat) ((r : Int) ^ i)
  | 0 => Md.refl _ _
  | i + 1 => by
    rw [twF, Int.pow_succ]
    exact Md.mulm (twF_md p r i) (Md.refl _ _)
theorem Md.npow {p r : Nat} {x : Int} (h : Md p (r : Nat) x) (n : Nat) : Md p ((r ^ n : Nat) : Int) (x ^ n) := by
  rw [Int.natCast_pow]; exact h.pow n
theorem trF_md {p : Nat} (hp : 1 < p) : ∀ (d : Nat) (c : List Nat) (r : Nat), (∀ j, gn c j < p) → (∀ e, d = e + 1 → Md p ((r : Int) ^ (2 ^ e)) (-1)) → ∀ j, j < 2 ^ d → Md p (gn (trF p d c r) j : Nat) (sumI (2 ^ d) (fun i => (gn c i : Int) * (r : Int) ^ (i * j)))
  | 0, c, r, hc, h, j, hj => by
    have : j = 0 := by simpa using hj
    subst this
    simp only [trF, Nat.pow_zero, sumI]
    refine Md.of_eq ?_
    show (gn c 0 : Int) = _
    simp
  | d + 1, c, r, hc, h, j, hj => by
    have hr := h d rfl
    have hsq : Md p ((r * r % p : Nat) : Int) ((r : Int) * r) := Md.mulm (Md.refl _ _) (Md.refl _ _)
    have hev : ∀ j, gn (evL c (2 ^ d)) j < p := map_range_lt (by omega) (fun _ => hc _)
    have hod : ∀ j, gn (odL c (2 ^ d)) j < p := map_range_lt (by omega) (fun _ => hc _)
    have hcond : ∀ e, d = e + 1 → Md p (((r * r % p : Nat) : Int) ^ (2 ^ e)) (-1) := fun e he => by
      refine (hsq.pow _).trans ?_
      rw [Int.mul_pow, ← Int.pow_add, show 2 ^ e + 2 ^ e = 2 ^ d by rw [he, Nat.pow_succ]; omega]
      exact hr
    have ihE := trF_md hp d (evL c (2 ^ d)) (r * r % p) hev hcond
    have ihO := trF_md hp d (odL c (2 ^ d)) (r * r % p) hod hcond
    have hE : ∀ k, k < 2 ^ d → Md p (gn (trF p d (evL c (2 ^ d)) (r * r % p)) k : Nat) (sumI (2 ^ d) (fun i => (gn c (2 * i) : Int) * (r : Int) ^ (2 * i * k))) := fun k hk => by
      refine (ihE k hk).trans (Md.sumI (fun l hl => ?_))
      have e1 : gn (evL c (2 ^ d)) l = gn c (2 * l) := by unfold evL; rw [gn_map_range, if_pos hl]
      rw [e1]
      refine Md.mul (Md.refl _ _) ((hsq.pow _).trans (Md.of_eq ?_))
      rw [Int.mul_pow, ← Int.pow_add]
      congr 1; grind
    have hO : ∀ k, k < 2 ^ d → Md p (gn (trF p d (odL c (2 ^ d)) (r * r % p)) k : Nat) (sumI (2 ^ d) (fun i => (gn c (2 * i + 1) : Int) * (r : Int) ^ (2 * i * k))) := fun k hk => by
      refine (ihO k hk).trans (Md.sumI (fun l hl => ?_))
      have e1 : gn (odL c (2 ^ d)) l = gn c (2 * l + 1) := by unfold odL; rw [gn_map_range, if_pos hl]
      rw [e1]
      refine Md.mul (Md.refl _ _) ((hsq.pow _).trans (Md.of_eq ?_))
      rw [Int.mul_pow, ← Int.pow_add]
      congr 1; grind
    have hOlt : ∀ k, gn (trF p d (odL c (2 ^ d)) (r * r % p)) k < p := trF_lt (by omega) d _ _ hod
    rw [trF]
    generalize trF p d (evL c (2 ^ d)) (r * r % p) = E at *
    generalize trF p d (odL c (2 ^ d)) (r * r % p) = O at *
    rw [show 2 ^ (d + 1) = 2 * 2 ^ d by rw [Nat.pow_succ, Nat.mul_comm]] at hj ⊢
    rw [gn_map_range, if_pos hj, sumI_halves]
    unfold bfly
    by_cases hk : j < 2 ^ d
    · rw [if_pos hk]
      refine Md.addF.trans ((hE j hk).add ?_)
      refine (Md.mulm (twF_md p r j) (hO j hk)).trans (Md.of_eq ?_)
      rw [← sumI_mul]
      refine sumI_congr (fun l _ => ?_)
      rw [show (2 * l + 1) * j = 2 * l * j + j by grind, Int.pow_add]
      grind
    · rw [if_neg hk]
      obtain ⟨k, rfl⟩ : ∃ k, j = 2 ^ d + k := ⟨j - 2 ^ d, by omega⟩
      rw [show 2 ^ d + k - 2 ^ d = k by omega]
      have hk2 : k < 2 ^ d := by omega
      refine (Md.subF (Nat.mod_lt _ (by omega))).trans ?_
      refine (Md.sub (hE k hk2) (Md.mulm (twF_md p r k) (hO k hk2))).trans ?_
      rw [← sumI_mul, Int.sub_eq_add_neg, show -sumI (2 ^ d) (fun l => (r : Int) ^ k * ((gn c (2 * l + 1) : Int) * (r : Int) ^ (2 * l * k))) = (-1) * sumI (2 ^ d) (fun l => (r : Int) ^ k * ((gn c (2 * l + 1) : Int) * (r : Int) ^ (2 * l * k))) by omega, ← sumI_mul]
      have hone : ∀ l, Md p ((r : Int) ^ (2 * l * 2 ^ d)) 1 := fun l => by
        rw [show 2 * l * 2 ^ d = 2 ^ d * (2 * l) by grind, Int.pow_mul, Int.pow_mul]
        have h1 := (hr.pow 2).pow l
        rw [show (-1 : Int) ^ 2 = 1 by rfl, Int.one_pow] at h1
        exact h1
      refine Md.add (Md.sumI fun l hl => ?_) (Md.sumI fun l hl => ?_)
      · rw [show 2 * l * (2 ^ d + k) = 2 * l * k + 2 * l * 2 ^ d by grind, Int.pow_add]
        refine Md.mul (Md.refl _ _) ?_
        have := Md.mul (Md.refl (p : Int) ((r : Int) ^ (2 * l * k))) (hone l).symm
        rwa [Int.mul_one] at this
      · rw [show (2 * l + 1) * (2 ^ d + k) = k + 2 * l * k + (2 * l * 2 ^ d + 2 ^ d) by grind, Int.pow_add, Int.pow_add, Int.pow_add]
        have := Md.mul (Md.refl (p : Int) ((gn c (2 * l + 1) : Int) * ((r : Int) ^ k * (r : Int) ^ (2 * l * k)))) ((hone l).mul hr)
        refine Md.trans (Md.of_eq ?_) (this.symm.trans (Md.of_eq ?_)) <;> grind
/-- Gauss: all powers of an element other than 1 -/
theorem geo_sum {p : Nat} (hp : Pr p) (h1 : 1 < p) {z : Int} {n : Nat} (hz : Md p (z ^ n) 1) (hz1 : ¬ Md p z 1) : Md p (sumI n (fun j => z ^ j)) 0 := by
  have h2 : (z - 1) * sumI n (fun j => z ^ j) = z ^ n - 1 := by
    clear hz
    induction n with
    | zero => simp [sumI]
    | succ n ih => rw [sumI, Int.mul_add, ih, Int.pow_succ]; grind
  have h3 : (p : Int) ∣ (z - 1) * sumI n (fun j => z ^ j) := by rw [h2]; exact hz
  have h4 : p ∣ ((z - 1).natAbs * (sumI n (fun j => z ^ j)).natAbs) := by
    rw [← Int.natAbs_mul]; exact Int.ofNat_dvd_left.1 h3
  have h5 : ¬ p ∣ (z - 1).natAbs := fun e => hz1 (Int.ofNat_dvd_left.2 e)
  have h6 : p ∣ (sumI n (fun j => z ^ j)).natAbs := by
    have hc := hp.coprime (m := (z - 1).natAbs) (fun e => h5 (Nat.dvd_of_mod_eq_zero e)) (by omega)
    exact Nat.Coprime.dvd_of_dvd_mul_left (Nat.coprime_comm.1 hc) h4
  exact Md.zero.2 (Int.ofNat_dvd_left.2 h6)
/-- powers of a root below its order differ -/
theorem root_inj {p R d : Nat} (h1 : 2 < p) (hR : Md p ((R : Int) ^ (2 ^ d)) (-1)) {i j : Nat} (hi : i < 2 ^ (d + 1)) (hj : j < 2 ^ (d + 1)) (h : Md p ((R : Int) ^ i) ((R : Int) ^ j)) : i = j := by
  have hm1 : R ^ (2 ^ d) % p = p - 1 := by
    refine Md.inj (Nat.mod_lt _ (by omega)) (show p - 1 < p by omega) ?_
    refine (Md.mod p _).trans ?_
    rw [Int.natCast_pow]
    exact hR.trans ⟨-1, by omega⟩
  have hN : R ^ (2 ^ (d + 1)) % p = 1 % p := by
    refine Md.inj (Nat.mod_lt _ (by omega)) (Nat.mod_lt _ (by omega)) ?_
    refine (Md.mod p _).trans (Md.trans ?_ (Md.mod p 1).symm)
    rw [Int.natCast_pow, Nat.pow_succ, Int.pow_mul]
    exact hR.pow 2
  obtain ⟨k, k0, k1, k2⟩ := order_ex R p (2 ^ (d + 1)) (Nat.two_pow_pos _) hN
  have c1 : k ∣ 2 ^ (d + 1) := order_dvd k1 k2 k0 _ hN
  have c2 : ¬ k ∣ 2 ^ d := by
    rintro ⟨t, ht⟩
    have := pow_mod_mul R p k t k1
    rw [← ht, hm1, Nat.mod_eq_of_lt (show 1 < p by omega)] at this
    omega
  have c3 := two_pow_of_dvd c1 c2
  have he : R ^ i % p = R ^ j % p := by
    refine Md.inj (Nat.mod_lt _ (by omega)) (Nat.mod_lt _ (by omega)) ?_
    refine (Md.mod p _).trans (Md.trans ?_ (Md.mod p _).symm)
    rw [Int.natCast_pow, Int.natCast_pow]; exact h
  rcases Nat.lt_trichotomy i j with q | q | q
  · exact absurd he (pow_inj k1 k2 q (by omega))
  · exact q
  · exact absurd he.symm (pow_inj k1 k2 q (by omega))
/-- from the values at the powers of a root back to the coefficients -/
theorem dft_back {p R d : Nat} (hp : Pr p) (h1 : 2 < p) (hl : p < 18446744073709551616) (hR : ∀ e, d = e + 1 → Md p ((R : Int) ^ (2 ^ e)) (-1)) (hR0 : R % p ≠ 0) (hd : 2 ^ d < p) {V : List Nat} (hV : ∀ j, gn V j < p) (D : Nat → Int) {n : Nat} (hn : n ≤ 2 ^ d)
    (hval : ∀ j, j < 2 ^ d → Md p (gn V j : Nat) (sumI n (fun k => D k * ((R : Int) ^ j) ^ k))) {m : Nat} (hm : m < n) : Md p ((gn (trF p d V (fInv p R)) m * fInv p (2 ^ d) % p : Nat) : Int) (D m) := by
  have hinv := fInv_md hp h1 hl hR0
  generalize fInv p R = s at *
  have hs : ∀ e, d = e + 1 → Md p ((s : Int) ^ (2 ^ e)) (-1) := fun e he => by
    have h2 := hinv.pow (2 ^ e)
    rw [Int.mul_pow, Int.one_pow] at h2
    have h3 := (Md.mul (hR e he) (Md.refl (p : Int) ((s : Int) ^ (2 ^ e)))).symm.trans h2
    have := h3.neg
    refine Md.trans (Md.of_eq ?_) this
    omega
  have h2 := trF_md (by omega) d V s hV hs m (by omega)
  have h3 : Md p (sumI (2 ^ d) (fun i => (gn V i : Int) * (s : Int) ^ (i * m))) (sumI (2 ^ d) (fun j => sumI n (fun k => D k * ((R : Int) ^ k * (s : Int) ^ m) ^ j))) := by
    refine Md.sumI fun j hj => ?_
    refine (Md.mul (hval j hj) (Md.refl _ _)).trans (Md.of_eq ?_)
    rw [← sumI_mulr]
    refine sumI_congr fun k _ => ?_
    rw [Int.mul_pow, ← Int.pow_mul, ← Int.pow_mul, ← Int.pow_mul, Nat.mul_comm j k, Nat.mul_comm j m]
    grind
  rw [sumI_swap] at h3
  have h4 : Md p (sumI n (fun k => sumI (2 ^ d) (fun j => D k * ((R : Int) ^ k * (s : Int) ^ m) ^ j))) (sumI n (fun k => if k = m then D m * (2 ^ d : Nat) else 0)) := by
    refine Md.sumI fun k hk => ?_
    rw [sumI_mul]
    by_cases e : k = m
    · subst e
      rw [if_pos rfl]
      refine Md.mul (Md.refl _ _) ?_
      have hz : Md p ((R : Int) ^ k * (s : Int) ^ k) 1 := by
        rw [← Int.mul_pow]
        have := hinv.pow k
        rwa [Int.one_pow] at this
      refine (Md.sumI (g := fun _ => 1) fun j _ => ?_).trans (Md.of_eq ?_)
      · have := hz.pow j
        rwa [Int.one_pow] at this
      · have : ∀ N : Nat, sumI N (fun _ => (1 : Int)) = N := by
          intro N
          induction N with
          | zero => rfl
          | succ N ih => rw [sumI, ih]; omega
        exact this _
    · rw [if_neg e]
      have hd1 : ∃ e, d = e + 1 := by
        rcases Nat.eq_zero_or_pos d with q | q
        · subst q
          have : n ≤ 1 := hn
          omega
        · exact ⟨d - 1, by omega⟩
      obtain ⟨e1, he1⟩ := hd1
      have hN : ∀ x : Int, Md p (x ^ (2 ^ e1)) (-1) → Md p (x ^ (2 ^ d)) 1 := fun x hx => by
        rw [he1, Nat.pow_succ, Int.pow_mul]
        exact hx.pow 2
      have hg := geo_sum hp (by omega) (z := (R : Int) ^ k * (s : Int) ^ m) (n := 2 ^ d) (by
        rw [Int.mul_pow, ← Int.pow_mul, ← Int.pow_mul, Nat.mul_comm k, Nat.mul_comm m, Int.pow_mul, Int.pow_mul]
        have a1 := (hN _ (hR e1 he1)).pow k
        have a2 := (hN _ (hs e1 he1)).pow m
        have := a1.mul a2
        rwa [Int.one_pow, Int.one_pow, Int.one_mul] at this) (fun hz => by
        refine e (root_inj h1 (hR e1 he1) (by rw [← he1]; omega) (by rw [← he1]; omega) ?_)
        have a1 := Md.mul hz (Md.refl (p : Int) ((R : Int) ^ m))
        rw [Int.one_mul] at a1
        refine Md.trans ?_ a1
        have a2 := hinv.pow m
        rw [Int.mul_pow, Int.one_pow] at a2
        have a3 := Md.mul (Md.refl (p : Int) ((R : Int) ^ k)) a2.symm
        rw [Int.mul_one] at a3
        exact a3.trans (Md.of_eq (by grind)))
      have := Md.mul (Md.refl (p : Int) (D k)) hg
      rwa [Int.mul_zero] at this
  have h5 : sumI n (fun k => if k = m then D m * ((2 ^ d : Nat) : Int) else 0) = D m * ((2 ^ d : Nat) : Int) := by
    rw [sumI_single (j := m) hm (fun l _ hne => by rw [if_neg hne]), if_pos rfl]
  rw [h5] at h4
  have h6 := h2.trans (h3.trans h4)
  have h7 := fInv_md hp h1 hl (a := 2 ^ d) (by rw [Nat.mod_eq_of_lt hd]; exact Nat.ne_of_gt (Nat.two_pow_pos _))
  refine (Md.mulm h6 (Md.refl _ _)).trans ?_
  rw [Int.mul_assoc]
  have := Md.mul (Md.refl (p : Int) (D m)) h7
  rwa [Int.mul_one] at this
end Go.Proofs.YtbkgpfalljgdcaaGreatDoor

namespace Go.Proofs.YtbkgpfalljgdcaaGreatDoor
set_option linter.unusedVariables false

/-- a term as a list of coefficients -/
def monL (e : Nat) (c : Int) : List Int := List.replicate e 0 ++ [c]
theorem ev_monL (x c : Int) : ∀ e : Nat, ev (monL e c) x = c * x ^ e
  | 0 => by simp [monL, ev]
  | e + 1 => by
    have := ev_monL x c e
    unfold monL at this ⊢
    rw [List.replicate_succ, List.cons_append, ev, this, Int.pow_succ]; grind
theorem monL_length (e : Nat) (c : Int) : (monL e c).length = e + 1 := by simp [monL]
theorem nrm_monL (c : Int) : ∀ e : Nat, nrm (monL e c) = c.natAbs
  | 0 => by simp [monL, nrm]
  | e + 1 => by
    have := nrm_monL c e
    unfold monL at this ⊢
    rw [List.replicate_succ, List.cons_append, nrm, this]; simp
def toL : List TE → List Int
  | [] => []
  | t :: ts => ladd (monL t.1 t.2) (toL ts)
theorem toL_length : ∀ {ts : List TE} {d : Nat}, (∀ t ∈ ts, t.1 ≤ d) → (toL ts).length ≤ d + 1
  | [], d, h => by simp [toL]
  | t :: ts, d, h => ladd_length (by rw [monL_length]; have := h t (by simp); omega) (toL_length fun u hu => h u (List.mem_cons_of_mem _ hu))
def absS (l : List TE) : Nat := (l.map fun t => t.2.natAbs).sum
theorem nrm_toL : ∀ ts : List TE, nrm (toL ts) ≤ absS ts
  | [] => by simp [toL, nrm, absS]
  | t :: ts => by
    have h1 := nrm_toL ts
    have h2 := nrm_ladd (monL t.1 t.2) (toL ts)
    rw [nrm_monL] at h2
    unfold absS at h1 ⊢
    rw [toL, List.map_cons, List.sum_cons]
    omega
/-- the entry as a polynomial -/
def entL (m : List (List (List TE))) (l j : Nat) : List Int := toL ((m[l]?.getD [])[j]?.getD [])
/-- the determinant -/
def dtM (m : List (List (List TE))) : List Int := dtL (List.range' 0 m.length) (entL m)
theorem foldA_md {p at_ size r : Nat} (hp : 0 < p) (hs : 0 < size) (hr : Md p ((r : Int) ^ size) 1) : ∀ (l : List TE) (a : Nat), (∀ t ∈ l, t.2.natAbs < p) → Md p (l.foldl (trmA p (pwL p r size) at_ size) a : Nat) ((a : Int) + ev (toL l) ((r : Int) ^ at_))
  | [], a, h => by simp only [List.foldl_nil, toL, ev]; exact Md.of_eq (by omega)
  | t :: l, a, h => by
    rw [List.foldl_cons]
    refine (foldA_md hp hs hr l _ fun u hu => h u (List.mem_cons_of_mem _ hu)).trans ?_
    rw [toL, ev_ladd, ev_monL, ← Int.add_assoc]
    refine Md.add ?_ (Md.refl _ _)
    unfold trmA
    refine Md.addF.trans (Md.add (Md.refl _ _) ?_)
    refine Md.mulm (Md.ofF (h t (by simp))) ?_
    unfold pwL
    rw [gn_map_range, if_pos (Nat.mod_lt _ hs)]
    refine (twF_md p r _).trans ?_
    rw [← Int.pow_mul]
    have e := Nat.div_add_mod (t.1 * at_) size
    have h1 : Md p ((r : Int) ^ (t.1 * at_)) ((r : Int) ^ (t.1 * at_ % size)) := by
      conv => arg 2; rw [← e]
      rw [Int.pow_add, Int.pow_mul]
      have h2 := Md.mul (hr.pow (t.1 * at_ / size)) (Md.refl (p : Int) ((r : Int) ^ (t.1 * at_ % size)))
      rwa [Int.one_pow, Int.one_mul] at h2
    rw [Nat.mul_comm at_]
    exact h1.symm
theorem rtF_md (p rt : Nat) : ∀ k, Md p (rtF p rt k : Nat) ((rt : Int) ^ (2 ^ k))
  | 0 => by rw [rtF]; exact Md.of_eq (by rw [Nat.pow_zero, Int.pow_succ, Int.pow_zero, Int.one_mul])
  | k + 1 => by
    rw [rtF, Nat.pow_succ, Nat.mul_two, Int.pow_add]
    exact Md.mulm (rtF_md p rt k) (rtF_md p rt k)
/-- residues returns the coefficients of the determinant -/
theorem resA_md {p rt deg : Nat} {m : List (List (List TE))} (hF : Fld p rt) (hrt : rt < p) (hsq : ∀ r ∈ m, r.length = m.length) (hs : ∀ r ∈ m, ∀ l ∈ r, ∀ t ∈ l, t.2.natAbs < p) (hdeg : deg < 131072) (hD : (dtM m).length ≤ deg + 1) {k : Nat} (hk : k < deg + 1) :
    Md p (gn (resA p rt m deg) k : Nat) ((dtM m)[k]?.getD 0) := by
  have hbig := hF.big
  have hlt := hF.lt
  have hlg : lgN deg ≤ 17 := lgN_bound hdeg
  have hgt := lgN_gt deg
  obtain ⟨lg, hlgd⟩ : ∃ lg, lg = lgN deg := ⟨_, rfl⟩
  have hrm := rtF_md p rt (17 - lg)
  have hRlt : rtF p rt (17 - lg) < p := rtF_lt hrt _
  have hroot : Md p ((rt : Int) ^ (2 ^ 16)) (-1) := by
    obtain ⟨E, hE⟩ : ∃ E, E = 2 ^ 16 := ⟨_, rfl⟩
    rw [← hE]
    have h1 := hF.root E hE
    have h2 := (Md.mod p (rt ^ E)).symm
    rw [h1, Int.natCast_pow] at h2
    exact h2.trans ⟨1, by omega⟩
  obtain ⟨R, hR⟩ : ∃ R, R = rtF p rt (17 - lg) := ⟨_, rfl⟩
  rw [← hR] at hrm hRlt
  have hcond : ∀ e, lg = e + 1 → Md p ((R : Int) ^ (2 ^ e)) (-1) := fun e he => by
    refine (hrm.pow _).trans ?_
    rw [← Int.pow_mul, ← Nat.pow_add, show 17 - lg + e = 16 by omega]
    exact hroot
  have hone : Md p ((R : Int) ^ (2 ^ lg)) 1 := by
    refine (hrm.pow _).trans ?_
    rw [← Int.pow_mul, ← Nat.pow_add, show 17 - lg + lg = 16 + 1 by omega, Nat.pow_succ, Int.pow_mul]
    exact hroot.pow 2
  have hR0 : R % p ≠ 0 := by
    intro e
    rw [Nat.mod_eq_of_lt hRlt] at e
    rw [e, show ((0 : Nat) : Int) = 0 from rfl, Int.zero_pow (Nat.ne_of_gt (Nat.two_pow_pos _))] at hone
    obtain ⟨x, hx⟩ := hone
    have : (p : Int) ∣ 1 := ⟨-x, by grind⟩
    have := Int.ofNat_dvd_left.1 this
    have := Nat.le_of_dvd (by decide) this
    simp at this
    omega
  have h2lg : 2 ^ lg < p := by
    have : 2 ^ lg ≤ 2 ^ 17 := Nat.pow_le_pow_right (by omega) (by omega)
    omega
  have hV : ∀ j, gn (valA p R (2 ^ lg) m) j < p := map_range_lt (by omega) (fun at_ => detG_lt (by omega) _ _ _ _ (by omega))
  have hval : ∀ j, j < 2 ^ lg → Md p (gn (valA p R (2 ^ lg) m) j : Nat) (sumI (deg + 1) (fun k => (dtM m)[k]?.getD 0 * ((R : Int) ^ j) ^ k)) := fun j hj => by
    rw [← ev_sum _ _ _ hD]
    unfold valA dtM
    rw [gn_map_range, if_pos hj, ev_dtL]
    have h1 := detG_dt (n := m.length) hF.pr (by omega) (by omega) m.length (matA p (pwL p R (2 ^ lg)) j (2 ^ lg) m) 0 1 (by simp [matA]) (fun i hi => by
      have hi' : i < m.length := by simpa [matA] using hi
      rw [gr_matA hi']
      simp [rowA, hsq _ (List.getElem_mem hi')]) (ltm_matA (by omega) _ _ _ _) (by omega) (by omega)
    rw [show ((1 : Nat) : Int) = 1 from rfl, Int.one_mul, Nat.sub_zero] at h1
    refine h1.trans (dt_mod fun l hl c hc => ?_)
    rw [List.length_range'] at hl
    have hc' := List.mem_range'_1.1 hc
    have hrl := hsq _ (List.getElem_mem hl)
    unfold rws ge
    rw [Nat.zero_add, gr_matA hl, rowA_eq, gn_map_range, if_pos (by omega)]
    unfold entL
    rw [List.getElem?_eq_getElem hl, Option.getD_some]
    have := foldA_md (p := p) (at_ := j) (size := 2 ^ lg) (r := R) (by omega) (Nat.two_pow_pos _) hone ((m[l][c]?).getD []) 0 (fun t ht => by
      have hcl : c < m[l].length := by omega
      rw [List.getElem?_eq_getElem hcl, Option.getD_some] at ht
      exact hs _ (List.getElem_mem hl) _ (List.getElem_mem hcl) t ht)
    rw [show ((0 : Nat) : Int) = 0 from rfl, Int.zero_add] at this
    exact this
  have hback := dft_back hF.pr (by omega) (by omega) hcond hR0 h2lg hV (fun k => (dtM m)[k]?.getD 0) (n := deg + 1) (by rw [hlgd]; omega) hval hk
  have e : gn (resA p rt m deg) k = gn (trF p lg (valA p R (2 ^ lg) m) (fInv p R)) k * fInv p (2 ^ lg) % p := by
    unfold resA
    rw [← hlgd, ← hR]
    have hkl : k < (trF p lg (valA p R (2 ^ lg) m) (fInv p R)).length := by rw [trF_length, hlgd]; omega
    unfold gn
    rw [List.getElem?_take, if_pos hk, List.getElem?_map, List.getElem?_eq_getElem hkl]
    rfl
  rw [e]; exact hback

/-- the bound: weight -/
theorem bitLenAux_gt : ∀ (f x : Nat), x < 2 ^ f → x < 2 ^ Lib.bitLenAux f x
  | 0, x, h => by simp [Lib.bitLenAux]; omega
  | f + 1, x, h => by
    rw [Lib.bitLenAux]
    split
    · next h0 => rw [h0]; decide
    · next h0 =>
      have := bitLenAux_gt f (x / 2) (by rw [Nat.pow_succ] at h; omega)
      rw [Nat.add_comm, Nat.pow_succ]; omega
theorem bitLen_gt {x : Nat} (h : x < 2 ^ 64) : x < 2 ^ Lib.bitLen x := bitLenAux_gt 64 x h
theorem entW_sum : ∀ (l : List TE) (s : Int), 0 ≤ s → s ≤ 4611686018427387904 → entW s l = min (s + absS l) 4611686018427387904
  | [], s, h, k => by simp only [entW, List.foldl_nil, absS, List.map_nil, List.sum_nil]; omega
  | t :: l, s, h, k => by
    have h1 := stepW_bd (s := s) (t := t) h
    have ih := entW_sum l (stepW s t) h1.1 h1.2
    unfold entW at ih ⊢
    rw [List.foldl_cons, ih]
    unfold absS stepW
    rw [List.map_cons, List.sum_cons]
    omega
def absR (r : List (List TE)) : Nat := (r.map absS).sum
theorem rowW_sum : ∀ (r : List (List TE)) (s : Int), 0 ≤ s → s ≤ 4611686018427387904 → rowW s r = min (s + absR r) 4611686018427387904
  | [], s, h, k => by simp only [rowW, List.foldl_nil, absR, List.map_nil, List.sum_nil]; omega
  | l :: r, s, h, k => by
    have h1 := entW_bd l s h k
    have ih := rowW_sum r (entW s l) h1.1 h1.2
    unfold rowW at ih ⊢
    rw [List.foldl_cons, ih, entW_sum l s h k]
    unfold absR
    rw [List.map_cons, List.sum_cons]
    omega
theorem sum_le_mul : ∀ (l : List Nat) (b : Nat), (∀ x ∈ l, x ≤ b) → l.sum ≤ l.length * b
  | [], b, h => by simp
  | a :: l, b, h => by
    have h1 := sum_le_mul l b fun x hx => h x (List.mem_cons_of_mem _ hx)
    have h2 := h a (by simp)
    rw [List.sum_cons, List.length_cons, Nat.add_mul]; omega
theorem absR_lt {r : List (List TE)} (hl : r.length ≤ 64) (hs : ∀ l ∈ r, l.length ≤ 131072 ∧ ∀ t ∈ l, t.2.natAbs ≤ 1125899906842624) : absR r < 2 ^ 75 := by
  have h1 := sum_le_mul (r.map absS) (131072 * 1125899906842624) (fun x hx => by
    obtain ⟨l, hlm, rfl⟩ := List.mem_map.1 hx
    have h2 := hs l hlm
    have h3 := sum_le_mul (l.map fun t => t.2.natAbs) 1125899906842624 (fun x hx => by
      obtain ⟨t, ht, rfl⟩ := List.mem_map.1 hx
      exact h2.2 t ht)
    rw [List.length_map] at h3
    exact Nat.le_trans h3 (Nat.mul_le_mul_right _ h2.1))
  rw [List.length_map] at h1
  have h4 : r.length * (131072 * 1125899906842624) ≤ 64 * (131072 * 1125899906842624) := Nat.mul_le_mul_right _ hl
  unfold absR
  omega
theorem rowBits_ge {r : List (List TE)} (hl : r.length ≤ 64) (hs : ∀ l ∈ r, l.length ≤ 131072 ∧ ∀ t ∈ l, t.2.natAbs ≤ 1125899906842624) : ∃ b : Nat, rowBits r = (b : Int) ∧ absR r < 2 ^ b ∧ b ≤ 75 := by
  have h1 := rowW_sum r 0 (by omega) (by omega)
  have h2 := absR_lt hl hs
  unfold rowBits
  split
  · exact ⟨75, rfl, h2, by omega⟩
  · next h0 =>
    refine ⟨Lib.bitLen (rowW 0 r).toNat, rfl, ?_, ?_⟩
    · have e : (rowW 0 r).toNat = absR r := by omega
      rw [e]; exact bitLen_gt (by omega)
    · have := Lib.bitLen_le (rowW 0 r).toNat 64 (by omega) (by omega)
      omega
theorem rsL_range (m : List (List (List TE))) (l : Nat) (hl : l < m.length) (n : Nat) (hn : m[l].length = n) : rsL (List.range' 0 n) (entL m l) ≤ absR m[l] := by
  unfold rsL absR entL
  rw [List.getElem?_eq_getElem hl, Option.getD_some]
  generalize m[l] = r at *
  subst hn
  have : ∀ (r : List (List TE)), ((List.range' 0 r.length).map fun j => nrm (toL (r[j]?.getD []))).sum ≤ (r.map absS).sum := by
    intro r
    have e : (List.range' 0 r.length).map (fun j => nrm (toL (r[j]?.getD []))) = r.map fun l => nrm (toL l) := by
      apply List.ext_getElem
      · simp
      · intro i h1 h2
        have h3 : i < r.length := by simpa using h1
        simp [h3]
    rw [e]
    clear e
    induction r with
    | nil => simp
    | cons l r ih => rw [List.map_cons, List.map_cons, List.sum_cons, List.sum_cons]; have := nrm_toL l; omega
  exact this r
/-- no coefficient exceeds the weight -/
theorem nrm_dtM {m : List (List (List TE))} (hn : m.length ≤ 64) (hsq : ∀ r ∈ m, r.length = m.length) (hs : ∀ r ∈ m, ∀ l ∈ r, l.length ≤ 131072 ∧ ∀ t ∈ l, t.2.natAbs ≤ 1125899906842624) : ∃ W : Nat, wgtB m = (W : Int) ∧ nrm (dtM m) ≤ 2 ^ W ∧ W ≤ 75 * m.length := by
  have h1 := nrm_dtL (List.range' 0 m.length) (entL m)
  rw [List.length_range'] at h1
  have hb : ∀ k, k ≤ m.length → ∃ W : Nat, (m.take k).foldl (fun a r => a + rowBits r) 0 = (W : Int) ∧ prodN k (fun l => rsL (List.range' 0 m.length) (entL m l)) ≤ 2 ^ W ∧ W ≤ 75 * k := by
    intro k
    induction k with
    | zero => intro _; exact ⟨0, rfl, by simp [prodN], by omega⟩
    | succ k ih =>
      intro hk
      obtain ⟨W, w1, w2, w3⟩ := ih (by omega)
      have hkm : k < m.length := by omega
      have hr := List.getElem_mem hkm
      obtain ⟨b, b1, b2, b3⟩ := rowBits_ge (r := m[k]) (by rw [hsq _ hr]; exact hn) (hs _ hr)
      refine ⟨W + b, ?_, ?_, by omega⟩
      · rw [fold_take hkm, w1, b1]; omega
      · rw [prodN, Nat.pow_add]
        exact Nat.mul_le_mul w2 (Nat.le_trans (rsL_range m k hkm _ (hsq _ hr)) (by omega))
  obtain ⟨W, w1, w2, w3⟩ := hb m.length (Nat.le_refl _)
  rw [List.take_length] at w1
  exact ⟨W, w1, Nat.le_trans h1 w2, w3⟩
/-- the product of the first primes -/
def prK : Nat → Nat
  | 0 => 1
  | k + 1 => prK k * (fldL[k]?.getD (0, 0)).1
theorem fldL_ne : (List.range 16).all (fun i => (List.range 16).all fun j => i == j || Nat.beq (fldL[i]?.getD (0, 0)).1 (fldL[j]?.getD (0, 0)).1 == false) = true := by decide +kernel
theorem prK_dvd {x : Int} : ∀ k, k ≤ 16 → (∀ j, j < k → (((fldL[j]?.getD (0, 0)).1 : Nat) : Int) ∣ x) → (prK k : Int) ∣ x ∧ 2 ^ (60 * k) ≤ prK k ∧ ∀ q, Pr q → 0 < q → (∀ j, j < k → (fldL[j]?.getD (0, 0)).1 ≠ q ∧ Pr (fldL[j]?.getD (0, 0)).1 ∧ 1 < (fldL[j]?.getD (0, 0)).1) → Nat.Coprime (prK k) q
  | 0, _, h => ⟨⟨x, by simp [prK]⟩, by simp [prK], fun q _ _ _ => by simp [prK]⟩
  | k + 1, hk, h => by
    obtain ⟨h1, h2, h3⟩ := prK_dvd k (by omega) fun j hj => h j (by omega)
    have hkl : k < fldL.length := by rw [fldL_len]; omega
    have hF := fldL_fld hkl
    have eP : (fldL[k]?.getD (0, 0)).1 = fldL[k].1 := by rw [List.getElem?_eq_getElem hkl, Option.getD_some]
    have hne : ∀ j, j < k → (fldL[j]?.getD (0, 0)).1 ≠ (fldL[k]?.getD (0, 0)).1 := fun j hj e => by
      have a1 := List.all_eq_true.1 fldL_ne j (List.mem_range.2 (by omega))
      have a2 := List.all_eq_true.1 a1 k (List.mem_range.2 (by omega))
      rw [e] at a2
      simp at a2
      omega
    have hpr : ∀ j, j < k → Pr (fldL[j]?.getD (0, 0)).1 ∧ 1 < (fldL[j]?.getD (0, 0)).1 := fun j hj => by
      have hjl : j < fldL.length := by rw [fldL_len]; omega
      have := fldL_fld hjl
      rw [List.getElem?_eq_getElem hjl, Option.getD_some]
      exact ⟨this.pr, by have := this.big; omega⟩
    have hco := h3 (fldL[k]?.getD (0, 0)).1 (by rw [eP]; exact hF.pr) (by rw [eP]; have := hF.big; omega) (fun j hj => ⟨hne j hj, hpr j hj⟩)
    refine ⟨?_, ?_, ?_⟩
    · rw [prK]
      have a1 := Int.ofNat_dvd_left.1 h1
      have a2 := Int.ofNat_dvd_left.1 (h k (by omega))
      exact Int.ofNat_dvd_left.2 (Nat.Coprime.mul_dvd_of_dvd_of_dvd hco a1 a2)
    · rw [prK, show 60 * (k + 1) = 60 * k + 60 by omega, Nat.pow_add]
      refine Nat.mul_le_mul h2 ?_
      rw [eP]
      have := hF.big
      omega
    · intro q hq hq0 hj
      rw [prK]
      have a1 := h3 q hq hq0 fun j hj' => hj j (by omega)
      have a2 := hj k (by omega)
      refine Nat.Coprime.mul_left a1 ?_
      generalize (fldL[k]?.getD (0, 0)).1 = z at a2
      rcases Nat.lt_or_gt_of_ne a2.1 with c | c
      · exact hq z (by omega) c
      · exact Nat.coprime_comm.1 (a2.2.1 q hq0 c)
theorem fldL_fldD {j : Nat} (hj : j < 16) : Fld (fldL[j]?.getD (0, 0)).1 (fldL[j]?.getD (0, 0)).2 ∧ (fldL[j]?.getD (0, 0)).2 < (fldL[j]?.getD (0, 0)).1 := by
  have hjl : j < fldL.length := by rw [fldL_len]; exact hj
  rw [List.getElem?_eq_getElem hjl, Option.getD_some]
  exact ⟨fldL_fld hjl, (fldL_ok hjl).2.2.2⟩
theorem liftF_md {p a : Nat} (h : a < p) : Md p (liftF p a) a := by
  unfold liftF
  split
  · exact ⟨-1, by omega⟩
  · exact ⟨0, by omega⟩
/-- a small number is its residue's lift -/
theorem liftF_eq {p a : Nat} {x : Int} (h : a < p) (hx : 2 * x.natAbs < p) (hm : Md p (a : Nat) x) : liftF p a = x := by
  obtain ⟨y, hy⟩ := (liftF_md h).trans hm
  have h1 : -1 < y ∧ y < 1 := by
    have hb : -(p : Int) < liftF p a - x ∧ liftF p a - x < p := by
      unfold liftF
      split <;> omega
    rw [hy] at hb
    constructor
    · rcases Int.lt_or_le (-1) y with z | z
      · exact z
      · have : (p : Int) * y ≤ p * (-1) := Int.mul_le_mul_of_nonneg_left z (by omega)
        omega
    · rcases Int.lt_or_le y 1 with z | z
      · exact z
      · have : (p : Int) * 1 ≤ p * y := Int.mul_le_mul_of_nonneg_left z (by omega)
        omega
  have : y = 0 := by omega
  rw [this] at hy
  omega
/-- the hypotheses on a matrix of terms -/
structure Mt (m : List (List (List TE))) (deg : Nat) : Prop where
  n : m.length ≤ 64
  sq : ∀ r ∈ m, r.length = m.length
  tm : ∀ r ∈ m, ∀ l ∈ r, l.length ≤ 131072 ∧ ∀ t ∈ l, t.2.natAbs ≤ 1125899906842624
  dg : deg < 131072
  len : (dtM m).length ≤ deg + 1
section
variable {m : List (List (List TE))} {deg K : Nat}
theorem Mt.res (h : Mt m deg) {j : Nat} (hj : j < 16) {k : Nat} (hk : k < deg + 1) : Md (fldL[j]?.getD (0, 0)).1 (gn (resA (fldL[j]?.getD (0, 0)).1 (fldL[j]?.getD (0, 0)).2 m deg) k : Nat) ((dtM m)[k]?.getD 0) := by
  obtain ⟨hF, hl⟩ := fldL_fldD hj
  exact resA_md hF hl h.sq (fun r hr l hll t ht => by have h1 := (h.tm r hr l hll).2 t ht; have h2 := hF.big; exact Nat.lt_of_le_of_lt h1 (Nat.lt_trans (by decide) h2)) h.dg h.len hk
theorem Mt.cnt (h : Mt m deg) (hK : cntF m = (K : Int)) : 1 ≤ K ∧ ∀ k : Nat, Int.natAbs ((dtM m)[k]?.getD 0) + 1125899906842624 < 2 ^ (60 * K) := by
  obtain ⟨W, w1, w2, w3⟩ := nrm_dtM h.n h.sq h.tm
  unfold cntF at hK
  rw [w1] at hK
  refine ⟨by omega, fun k => ?_⟩
  have h1 := nrm_get (dtM m) k
  have h2 : 2 ^ (max W 50 + 2) ≤ 2 ^ (60 * K) := Nat.pow_le_pow_right (by omega) (by omega)
  have h3 : 2 ^ W ≤ 2 ^ (max W 50) := Nat.pow_le_pow_right (by omega) (by omega)
  have h4 : 2 ^ 50 ≤ 2 ^ (max W 50) := Nat.pow_le_pow_right (by omega) (by omega)
  rw [Nat.pow_add] at h2
  omega
theorem itC_get (h : Mt m deg) {k : Nat} (hk : k < deg + 1) : (itC m deg)[k]?.getD 0 = liftF 2305843009211596801 (gn (resA 2305843009211596801 1681162619342215248 m deg) k) := by
  have hl : k < (resA 2305843009211596801 1681162619342215248 m deg).length := by rw [resA_length]; exact hk
  unfold itC gn
  rw [List.getElem?_map, List.getElem?_eq_getElem hl]
  rfl
theorem Mt.res0 (h : Mt m deg) {k : Nat} (hk : k < deg + 1) : Md (2305843009211596801 : Nat) (gn (resA 2305843009211596801 1681162619342215248 m deg) k : Nat) ((dtM m)[k]?.getD 0) := h.res (j := 0) (by omega) hk
/-- the coefficients of the determinant, all of them -/
def dtC (m : List (List (List TE))) (deg : Nat) : List Int := (List.range (deg + 1)).map fun k => (dtM m)[k]?.getD 0
/-- where all coefficients are within the limit, interpolated finds them -/
theorem Mt.yes (h : Mt m deg) (hb : ∀ k : Nat, Int.natAbs ((dtM m)[k]?.getD 0) ≤ 1125899906842624) : itC m deg = dtC m deg ∧ ∀ j, j < 16 → ∀ i, i < deg + 1 → ofF (fldL[j]?.getD (0, 0)).1 ((itC m deg)[i]?.getD 0) = gn (resA (fldL[j]?.getD (0, 0)).1 (fldL[j]?.getD (0, 0)).2 m deg) i := by
  have hget : ∀ k, k < deg + 1 → (itC m deg)[k]?.getD 0 = (dtM m)[k]?.getD 0 := fun k hk => by
    rw [itC_get h hk]
    exact liftF_eq (resA_lt (by decide) _ _ _) (by have := hb k; omega) (h.res0 hk)
  refine ⟨?_, fun j hj i hi => ?_⟩
  · apply List.ext_getElem
    · rw [itC_length]; simp [dtC]
    · intro k h1 h2
      have hk : k < deg + 1 := by rw [itC_length] at h1; exact h1
      have := hget k hk
      rw [List.getElem?_eq_getElem h1, Option.getD_some] at this
      rw [this]; simp [dtC]
  · rw [hget i hi]
    obtain ⟨hF, _⟩ := fldL_fldD hj
    have h1 := h.res hj hi
    have hbig := hF.big
    have hbi := hb i
    refine Md.inj ?_ (resA_lt (by omega) _ _ _) ((Md.ofF (by omega)).trans h1.symm)
    unfold ofF
    split
    · omega
    · omega
/-- what fits is the determinant -/
theorem Mt.only (h : Mt m deg) (hK : cntF m = (K : Int)) (hK16 : K ≤ 16) (hok : ∀ i, i < deg + 1 → Int.natAbs ((itC m deg)[i]?.getD 0) ≤ 1125899906842624)
    (hres : ∀ j, j < K → ∀ i, i < deg + 1 → ofF (fldL[j]?.getD (0, 0)).1 ((itC m deg)[i]?.getD 0) = gn (resA (fldL[j]?.getD (0, 0)).1 (fldL[j]?.getD (0, 0)).2 m deg) i) : ∀ k : Nat, Int.natAbs ((dtM m)[k]?.getD 0) ≤ 1125899906842624 := by
  intro k
  rcases Nat.lt_or_ge k (deg + 1) with hk | hk
  · have h0 := hok k hk
    obtain ⟨c1, c2⟩ := h.cnt hK
    have hd : ∀ j, j < K → (((fldL[j]?.getD (0, 0)).1 : Nat) : Int) ∣ (itC m deg)[k]?.getD 0 - (dtM m)[k]?.getD 0 := fun j hj => by
      obtain ⟨hF, _⟩ := fldL_fldD (show j < 16 by omega)
      have hbig := hF.big
      have a1 := h.res (show j < 16 by omega) hk
      rw [← hres j hj k hk] at a1
      exact ((Md.ofF (by omega)).symm.trans a1 : Md _ _ _)
    obtain ⟨p1, p2, _⟩ := prK_dvd K hK16 hd
    have a2 := Int.ofNat_dvd_left.1 p1
    have a3 := c2 k
    rcases Nat.eq_zero_or_pos ((itC m deg)[k]?.getD 0 - (dtM m)[k]?.getD 0).natAbs with z | z
    · omega
    · have := Nat.le_of_dvd z a2
      omega
  · rw [List.getElem?_eq_none (by have := h.len; omega)]; simp
end
end Go.Proofs.YtbkgpfalljgdcaaGreatDoor

namespace Go.Proofs.YtbkgpfalljgdcaaGreatDoor
open Go.RowKit
set_option linter.unusedVariables false

theorem stS_le {s : Int × Int × Bool} {p : LP} (h : s.1 ≤ s.2.1) (hc : Can p) : (stS s p).1 ≤ (stS s p).2.1 := by
  have hlh : p.length ≠ 0 → lowL p ≤ highL p := fun h0 => by
    rw [lowL_0 (by omega), highL_0 (by omega)]
    have h1 := srt_ge hc.srt (show 0 < p.length by omega) (p[p.length - 1]'(by omega)) (by rw [List.drop_zero]; exact List.getElem_mem _)
    exact h1
  unfold stS
  split
  · exact h
  · next h0 =>
    have := hlh h0
    split
    · simp only; omega
    · exact this
theorem foldS_le : ∀ (r : List LP) (s : Int × Int × Bool), s.1 ≤ s.2.1 → OkR r → (r.foldl stS s).1 ≤ (r.foldl stS s).2.1
  | [], s, h, _ => h
  | p :: r, s, h, hr => foldS_le r (stS s p) (stS_le h (hr p (by simp)).1) fun q hq => hr q (List.mem_cons_of_mem _ hq)
theorem rwS_le {r : List LP} (h : OkR r) : (rwS r).1 ≤ (rwS r).2.1 := foldS_le r (0, 0, false) (Int.le_refl _) h
theorem stS_zero {s : Int × Int × Bool} {p : LP} (h : p.length = 0) : stS s p = s := by unfold stS; rw [if_pos h]
theorem stS_first {a b : Int} {p : LP} (h : p.length ≠ 0) : stS (a, b, false) p = (lowL p, highL p, true) := by unfold stS; rw [if_neg h]; rfl
theorem stS_more {a b : Int} {p : LP} (h : p.length ≠ 0) : stS (a, b, true) p = (min a (lowL p), max b (highL p), true) := by unfold stS; rw [if_neg h]; rfl
theorem stS_ge {s : Int × Int × Bool} {p : LP} (hc : Can p) : (∀ t ∈ p, (stS s p).1 ≤ t.1) ∧ (s.2.2 = true → (stS s p).1 ≤ s.1) ∧ (s.2.2 = true → (stS s p).2.2 = true) ∧ (p.length ≠ 0 → (stS s p).2.2 = true) := by
  have hlo : ∀ t ∈ p, lowL p ≤ t.1 := fun t ht => by
    have h0 : 0 < p.length := List.length_pos_of_mem ht
    rw [lowL_0 h0]
    exact srt_ge hc.srt h0 t (by rw [List.drop_zero]; exact ht)
  unfold stS
  split
  · next h0 =>
    refine ⟨fun t ht => absurd (List.length_pos_of_mem ht) (by omega), fun _ => Int.le_refl _, fun h => h, fun h => absurd h0 h⟩
  · split
    · exact ⟨fun t ht => by have := hlo t ht; simp only; omega, fun _ => by simp only; omega, fun _ => rfl, fun _ => rfl⟩
    · next h1 => exact ⟨hlo, fun h => absurd h h1, fun _ => rfl, fun _ => rfl⟩
theorem foldS_ge : ∀ (r : List LP) (s : Int × Int × Bool), OkR r → (∀ p ∈ r, ∀ t ∈ p, (r.foldl stS s).1 ≤ t.1) ∧ (s.2.2 = true → (r.foldl stS s).1 ≤ s.1)
  | [], s, _ => ⟨fun p hp => by simp at hp, fun _ => Int.le_refl _⟩
  | q :: r, s, hr => by
    obtain ⟨h1, h2⟩ := foldS_ge r (stS s q) fun p hp => hr p (List.mem_cons_of_mem _ hp)
    obtain ⟨g1, g2, g3, g4⟩ := stS_ge (s := s) (hr q (by simp)).1
    rw [List.foldl_cons]
    refine ⟨fun p hp t ht => ?_, fun h => Int.le_trans (h2 (g3 h)) (g2 h)⟩
    rcases List.mem_cons.1 hp with e | e
    · subst e
      exact Int.le_trans (h2 (g4 (by have := List.length_pos_of_mem ht; omega))) (g1 t ht)
    · exact h1 p e t ht
theorem rwS_ge {r : List LP} (h : OkR r) : ∀ p ∈ r, ∀ t ∈ p, (rwS r).1 ≤ t.1 := (foldS_ge r (0, 0, false) h).1
/-- no row is 0 -/
def NzR (M : List (List LP)) : Prop := ∀ r ∈ M, (rwS r).2.2 = true ∨ M.length = 0
/-- all coefficients are within the limit -/
def SmC (M : List (List LP)) : Prop := ∀ k : Nat, Int.natAbs ((dtM (tmM M))[k]?.getD 0) ≤ 1125899906842624
theorem stS_hi {s : Int × Int × Bool} {p : LP} (hc : Can p) : (∀ t ∈ p, t.1 ≤ (stS s p).2.1) ∧ (s.2.2 = true → s.2.1 ≤ (stS s p).2.1) := by
  have hlo : ∀ t ∈ p, t.1 ≤ highL p := fun t ht => by
    have h0 : 0 < p.length := List.length_pos_of_mem ht
    rw [highL_0 h0]
    obtain ⟨k, hk, rfl⟩ := List.getElem_of_mem ht
    rcases Nat.lt_or_ge k (p.length - 1) with q | q
    · have := (srt_drop hc.srt hk).2 (p[p.length - 1]'(by omega)) (by
        rw [List.mem_drop_iff_getElem]
        exact ⟨p.length - 1 - (k + 1), by omega, by congr 1; omega⟩)
      omega
    · have : k = p.length - 1 := by omega
      subst this
      exact Int.le_refl _
  unfold stS
  split
  · next h0 => exact ⟨fun t ht => absurd (List.length_pos_of_mem ht) (by omega), fun _ => Int.le_refl _⟩
  · split
    · exact ⟨fun t ht => by have := hlo t ht; simp only; omega, fun _ => by simp only; omega⟩
    · next h1 => exact ⟨hlo, fun h => absurd h h1⟩
theorem foldS_hi : ∀ (r : List LP) (s : Int × Int × Bool), OkR r → (∀ p ∈ r, ∀ t ∈ p, t.1 ≤ (r.foldl stS s).2.1) ∧ (s.2.2 = true → s.2.1 ≤ (r.foldl stS s).2.1)
  | [], s, _ => ⟨fun p hp => by simp at hp, fun _ => Int.le_refl _⟩
  | q :: r, s, hr => by
    obtain ⟨h1, h2⟩ := foldS_hi r (stS s q) fun p hp => hr p (List.mem_cons_of_mem _ hp)
    obtain ⟨g1, g2⟩ := stS_hi (s := s) (hr q (by simp)).1
    obtain ⟨_, _, g3, g4⟩ := stS_ge (s := s) (hr q (by simp)).1
    rw [List.foldl_cons]
    refine ⟨fun p hp t ht => ?_, fun h => Int.le_trans (g2 h) (h2 (g3 h))⟩
    rcases List.mem_cons.1 hp with e | e
    · subst e
      exact Int.le_trans (g1 t ht) (h2 (g4 (by have := List.length_pos_of_mem ht; omega)))
    · exact h1 p e t ht
theorem rwS_hi {r : List LP} (h : OkR r) : ∀ p ∈ r, ∀ t ∈ p, t.1 ≤ (rwS r).2.1 := (foldS_hi r (0, 0, false) h).1
/-- the degree of a row -/
def rdg (r : List LP) : Nat := ((rwS r).2.1 - (rwS r).1).toNat
theorem degS_sum : ∀ (M : List (List LP)) (a : Int), (∀ r ∈ M, OkR r) → M.foldl (fun a r => a + ((rwS r).2.1 - (rwS r).1)) a = a + (sumN M.length (fun l => rdg (M[l]?.getD [])) : Nat) := by
  have key : ∀ (M : List (List LP)) (k : Nat), k ≤ M.length → (∀ r ∈ M, OkR r) → ∀ a, (M.take k).foldl (fun a r => a + ((rwS r).2.1 - (rwS r).1)) a = a + (sumN k (fun l => rdg (M[l]?.getD [])) : Nat) := by
    intro M k
    induction k with
    | zero => intro _ _ a; simp [sumN]
    | succ k ih =>
      intro hk h a
      have hkm : k < M.length := by omega
      have h1 := rwS_le (h _ (List.getElem_mem hkm))
      rw [fold_take hkm, ih (by omega) h, sumN, List.getElem?_eq_getElem hkm, Option.getD_some]
      unfold rdg
      omega
  intro M a h
  have := key M M.length (Nat.le_refl _) h a
  rwa [List.take_length] at this
theorem rdg_le {M : List (List LP)} (h : ∀ r ∈ M, OkR r) {k : Nat} (hk : k < M.length) : (rdg M[k] : Int) ≤ degS M := by
  have h1 := degS_sum M 0 h
  have h2 : ∀ n, k < n → rdg M[k] ≤ sumN n (fun l => rdg (M[l]?.getD [])) := by
    intro n
    induction n with
    | zero => intro h; omega
    | succ n ih =>
      intro hn
      rw [sumN]
      rcases Nat.lt_or_ge k n with q | q
      · have := ih q; omega
      · have : n = k := by omega
        subst this
        rw [List.getElem?_eq_getElem hk, Option.getD_some]; omega
  have := h2 M.length hk
  unfold degS
  omega
theorem tmM_get (M : List (List LP)) (l j : Nat) (hl : l < M.length) : ((tmM M)[l]?.getD [])[j]?.getD [] = tmO (rwS M[l]).1 (M[l][j]?.getD []) := by
  unfold tmM
  rw [List.getElem?_map, List.getElem?_eq_getElem hl, Option.map_some, Option.getD_some, List.getElem?_map]
  cases M[l][j]? <;> rfl
theorem tmO_mem {low : Int} {p : LP} {t : TE} (h : t ∈ tmO low p) : ∃ s ∈ p, t = ((s.1 - low).toNat, s.2) := by
  obtain ⟨s, hs, e⟩ := List.mem_map.1 h
  exact ⟨s, hs, e.symm⟩
/-- what determinant hands to interpolated -/
theorem tmM_mt {M : List (List LP)} {dg : Nat} (hn : M.length ≤ 64) (hsq : ∀ r ∈ M, r.length = M.length) (hok : ∀ r ∈ M, OkR r) (hdg : (dg : Int) = degS M) (hd : dg < 131072) : Mt (tmM M) dg ∧ ∀ r ∈ tmM M, ∀ l ∈ r, ∀ t ∈ l, t.1 ≤ dg := by
  have hex : ∀ r ∈ tmM M, ∀ l ∈ r, l.length ≤ 131072 ∧ ∀ t ∈ l, t.2.natAbs ≤ 1125899906842624 ∧ t.1 ≤ dg := by
    intro r hr l hl
    obtain ⟨k, hk, rfl⟩ := List.getElem_of_mem hr
    have hkm : k < M.length := by simpa [tmM] using hk
    have e : (tmM M)[k] = M[k].map (tmO (rwS M[k]).1) := by simp [tmM]
    rw [e] at hl
    obtain ⟨p, hp, rfl⟩ := List.mem_map.1 hl
    have ho := hok _ (List.getElem_mem hkm)
    have h1 := rwS_ge ho p hp
    have h2 := rwS_hi ho p hp
    have h3 := rdg_le hok hkm
    have h4 := rwS_le ho
    unfold rdg at h3
    refine ⟨?_, fun t ht => ?_⟩
    · have := srt_len (ho p hp).1.srt (a := (rwS M[k]).1) (b := (rwS M[k]).2.1) (fun t ht => ⟨h1 t ht, h2 t ht⟩) (by omega)
      unfold tmO
      rw [List.length_map]
      omega
    · obtain ⟨s, hs, rfl⟩ := tmO_mem ht
      have h5 := (ho p hp).2.co s hs
      have h6 := h1 s hs
      have h7 := h2 s hs
      exact ⟨by simp only; omega, by simp only; omega⟩
  refine ⟨⟨by simpa [tmM] using hn, fun r hr => ?_, fun r hr l hl => ⟨(hex r hr l hl).1, fun t ht => ((hex r hr l hl).2 t ht).1⟩, hd, ?_⟩, fun r hr l hl t ht => ((hex r hr l hl).2 t ht).2⟩
  · obtain ⟨q, hq, rfl⟩ := List.mem_map.1 hr
    rw [List.length_map, hsq q hq]; simp [tmM]
  · unfold dtM
    have h1 := dtL_length (List.range' 0 (tmM M).length) (entL (tmM M)) (fun l => rdg (M[l]?.getD [])) (fun l hl j hj => by
      have hl' : l < M.length := by simpa [tmM] using hl
      unfold entL
      rw [tmM_get M l j hl']
      refine toL_length fun t ht => ?_
      obtain ⟨s, hs, rfl⟩ := tmO_mem ht
      have ho := hok _ (List.getElem_mem hl')
      rw [List.getElem?_eq_getElem hl', Option.getD_some]
      cases hq : M[l][j]? with
      | none => rw [hq] at hs; simp at hs
      | some p =>
        rw [hq] at hs
        have hp := List.mem_of_getElem? hq
        have h1 := rwS_ge ho p hp s hs
        have h2 := rwS_hi ho p hp s hs
        unfold rdg
        simp only; omega)
    have h2 := degS_sum M 0 hok
    rw [List.length_range'] at h1
    have e : (tmM M).length = M.length := by simp [tmM]
    rw [e] at h1
    unfold degS at hdg
    rw [e]
    omega
theorem Mt.wgt {m : List (List (List TE))} {deg : Nat} (h : Mt m deg) : (∀ r ∈ m, 0 ≤ rowBits r ∧ rowBits r ≤ 75) ∧ 0 ≤ wgtB m ∧ wgtB m ≤ 4800 := by
  refine ⟨fun r hr => ?_, ?_⟩
  · obtain ⟨b, b1, b2, b3⟩ := rowBits_ge (r := r) (by rw [h.sq r hr]; exact h.n) (h.tm r hr)
    omega
  · obtain ⟨W, w1, w2, w3⟩ := nrm_dtM h.n h.sq h.tm
    have := h.n
    omega
/-- interpolated, whatever the coefficients are -/
theorem interp_yes {v : Value} {m : List (List (List TE))} {deg : Nat} {w : World} (hv : EntT w v m) (h : Mt m deg) (hex : ∀ r ∈ m, ∀ l ∈ r, ∀ t ∈ l, t.1 ≤ deg) (hT : Tb6 w) (hK : cntF m ≤ 16) (hb : ∀ k : Nat, Int.natAbs ((dtM m)[k]?.getD 0) ≤ 1125899906842624) :
    Calls Tryz.prog 55 #[v, .int .i64 (deg : Int)] w fun e w' => ∃ g : Nat, e = .returned (.tuple #[.slice (some ⟨g, 0, none⟩) (deg + 1) (deg + 1), .bool true]) ∧ w.heap.size ≤ g ∧ Arr w' g 3 ((dtC m deg).map (Value.int .i64)) ∧ Below w.heap.size w w' := by
  obtain ⟨h1, h2⟩ := h.wgt
  obtain ⟨K, hKK⟩ : ∃ K : Nat, cntF m = (K : Int) := ⟨(cntF m).toNat, by unfold cntF; omega⟩
  have hc := h.cnt hKK
  obtain ⟨y1, y2⟩ := h.yes hb
  have := interpolated_yes v m deg K w hv h.n h.sq (fun r hr l hl => ⟨(h.tm r hr l hl).1, fun t ht => ⟨by have := (h.tm r hr l hl).2 t ht; omega, by have := hex r hr l hl t ht; have := h.dg; omega⟩⟩) h.dg h1 h2 hT hc.1 (by omega) hKK (fun c hcm => by
    rw [y1] at hcm
    unfold dtC at hcm
    obtain ⟨k, _, rfl⟩ := List.mem_map.1 hcm
    have := hb k; omega) (fun j hj i hi => y2 j (by omega) i hi)
  rwa [y1] at this
theorem interp_no {v : Value} {m : List (List (List TE))} {deg : Nat} {w : World} (hv : EntT w v m) (h : Mt m deg) (hex : ∀ r ∈ m, ∀ l ∈ r, ∀ t ∈ l, t.1 ≤ deg) (hT : Tb6 w) (hK : cntF m ≤ 16) (hb : ¬ ∀ k : Nat, Int.natAbs ((dtM m)[k]?.getD 0) ≤ 1125899906842624) :
    Calls Tryz.prog 55 #[v, .int .i64 (deg : Int)] w fun e w' => e = .returned (.tuple #[.slice none 0 0, .bool false]) ∧ Below w.heap.size w w' := by
  obtain ⟨h1, h2⟩ := h.wgt
  obtain ⟨K, hKK⟩ : ∃ K : Nat, cntF m = (K : Int) := ⟨(cntF m).toNat, by unfold cntF; omega⟩
  have hc := h.cnt hKK
  exact interpolated_no v m deg K w hv h.n h.sq (fun r hr l hl => ⟨(h.tm r hr l hl).1, fun t ht => ⟨by have := (h.tm r hr l hl).2 t ht; omega, by have := hex r hr l hl t ht; have := h.dg; omega⟩⟩) h.dg h1 h2 hT hc.1 (by omega) hKK (fun hx => hb (h.only hKK (by omega) (fun i hi => by have := hx.1 i hi; unfold SmI at this; omega) (fun j hj i hi => hx.2 j hj i hi)))
end Go.Proofs.YtbkgpfalljgdcaaGreatDoor
