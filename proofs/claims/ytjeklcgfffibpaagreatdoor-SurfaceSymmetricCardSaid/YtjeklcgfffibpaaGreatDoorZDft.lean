/- polymatrix.field.det returns the determinant (plain). -/
/- polymatrix.field.transform is a Fourier transform, and its inverse (plain). -/
import Derived.Test.YtjeklcgfffibpaaGreatDoorZMdt
import Derived.Test.YtjeklcgfffibpaaGreatDoorZPfe
import Derived.Test.YtjeklcgfffibpaaGreatDoorZEnd
namespace Go.Proofs.YtjeklcgfffibpaaGreatDoor
set_option linter.unusedVariables false

/-- alike modulo p -/
def Md (p a b : Int) : Prop := p ∣ a - b
section
variable {p a b c d : Int}
theorem Md.refl (p a : Int) : Md p a a := ⟨0, by omega⟩
theorem Md.of_eq (h : a = b) : Md p a b := h ▸ Md.refl p a
theorem Md.symm (h : Md p a b) : Md p b a := by obtain ⟨x, h⟩ := h; exact ⟨-x, by grind⟩
theorem Md.trans (h : Md p a b) (k : Md p b c) : Md p a c := by obtain ⟨x, h⟩ := h; obtain ⟨y, k⟩ := k; exact ⟨x + y, by grind⟩
theorem Md.add (h : Md p a b) (k : Md p c d) : Md p (a + c) (b + d) := by obtain ⟨x, h⟩ := h; obtain ⟨y, k⟩ := k; exact ⟨x + y, by grind⟩
theorem Md.sub (h : Md p a b) (k : Md p c d) : Md p (a - c) (b - d) := by obtain ⟨x, h⟩ := h; obtain ⟨y, k⟩ := k; exact ⟨x - y, by grind⟩
theorem Md.neg (h : Md p a b) : Md p (-a) (-b) := by obtain ⟨x, h⟩ := h; exact ⟨-x, by grind⟩
theorem Md.mul (h : Md p a b) (k : Md p c d) : Md p (a * c) (b * d) := by obtain ⟨x, h⟩ := h; obtain ⟨y, k⟩ := k; exact ⟨x * c + b * y, by grind⟩
theorem Md.pow (h : Md p a b) (n : Nat) : Md p (a ^ n) (b ^ n) := by
  induction n with
  | zero => rw [Int.pow_zero, Int.pow_zero]; exact Md.refl _ _
  | succ n ih => rw [Int.pow_succ, Int.pow_succ]; exact ih.mul h
theorem Md.zero : Md p a 0 ↔ p ∣ a := by unfold Md; rw [Int.sub_zero]
end
theorem Md.mod (p a : Nat) : Md p ((a % p : Nat) : Int) (a : Int) := by
  refine ⟨-((a / p : Nat) : Int), ?_⟩
  have := Nat.div_add_mod a p
  have h : ((p * (a / p) + a % p : Nat) : Int) = (a : Int) := by rw [this]
  rw [Int.natCast_add, Int.natCast_mul] at h
  grind
theorem Md.addF {p a b : Nat} : Md p ((addF p a b : Nat) : Int) (a + b) := by
  unfold Go.Proofs.YtjeklcgfffibpaaGreatDoor.addF
  split
  · exact ⟨-1, by omega⟩
  · exact ⟨0, by omega⟩
theorem Md.subF {p a b : Nat} (hb : b < p) : Md p ((subF p a b : Nat) : Int) ((a : Int) - b) := by
  unfold Go.Proofs.YtjeklcgfffibpaaGreatDoor.subF
  split
  · exact ⟨1, by omega⟩
  · exact ⟨0, by omega⟩
theorem Md.ofF {p : Nat} {x : Int} (h : x.natAbs < p) : Md p ((ofF p x : Nat) : Int) x := by
  unfold Go.Proofs.YtjeklcgfffibpaaGreatDoor.ofF
  split
  · exact ⟨1, by omega⟩
  · exact ⟨0, by omega⟩
theorem Md.mulm {p a b : Nat} {x y : Int} (h : Md p a x) (k : Md p b y) : Md p ((a * b % p : Nat) : Int) (x * y) := by
  refine (Md.mod p (a * b)).trans ?_
  rw [Int.natCast_mul]; exact h.mul k
/-- a number below p that is 0 modulo p -/
theorem Md.lt {p a : Nat} (h : a < p) (k : Md p a 0) : a = 0 := by
  have := Int.natCast_dvd_natCast.1 (Md.zero.1 k)
  exact Nat.eq_zero_of_dvd_of_lt this h
theorem Md.inj {p a b : Nat} (ha : a < p) (hb : b < p) (h : Md p a b) : a = b := by
  obtain ⟨x, hx⟩ := h
  have h1 : x < 1 := by
    rcases Int.lt_or_le x 1 with z | z
    · exact z
    · have : (p : Int) * 1 ≤ p * x := Int.mul_le_mul_of_nonneg_left z (by omega)
      omega
  have h2 : -1 < x := by
    rcases Int.lt_or_le (-1) x with z | z
    · exact z
    · have : (p : Int) * x ≤ p * (-1) := Int.mul_le_mul_of_nonneg_left z (by omega)
      omega
  have : x = 0 := by omega
  rw [this] at hx
  omega
theorem fInv_md {p a : Nat} (hp : Pr p) (h1 : 2 < p) (hl : p < 18446744073709551616) (ha : a % p ≠ 0) : Md p ((a : Int) * (fInv p a : Nat)) 1 := by
  have e : fInv p a = a ^ (p - 2) % p := by unfold fInv; rw [pwm_eq (by omega) (by omega)]
  have hf := fermatG hp (by omega) ha
  have h2 : a * fInv p a % p = 1 := by
    rw [e, Nat.mul_mod, Nat.mod_mod, ← Nat.mul_mod, Nat.mul_comm, ← Nat.pow_succ, show (p - 2).succ = p - 1 by omega]
    exact hf
  have := (Md.mod p (a * fInv p a)).symm
  rw [h2, Int.natCast_mul] at this
  exact this
/-- the first column is 0 below its first element -/
theorem dt_front {p : Int} {J : List Nat} {j : Nat} {f : Nat → Nat → Int} (h : ∀ l, 1 ≤ l → l < J.length + 1 → p ∣ f l j) : Md p (dt (j :: J) f) (f 0 j * dt J (fun l => f (l + 1))) := by
  rw [dt]
  have h1 := sumI_mod (m := p) (C := J.length + 1) (f := fun k => sgn k * f k j * dt J (fun l => f (skp k l))) (g := fun k => if k = 0 then f 0 j * dt J (fun l => f (l + 1)) else 0) (fun l hl => by
    by_cases e : l = 0
    · subst e
      simp only [if_pos]
      have e2 : (fun l => f (skp 0 l)) = fun l => f (l + 1) := by funext l; simp [skp]
      rw [e2, show sgn 0 = 1 from rfl, Int.one_mul]
      exact ⟨0, by omega⟩
    · simp only [if_neg e]
      obtain ⟨x, hx⟩ := h l (by omega) hl
      exact ⟨sgn l * x * dt J (fun i => f (skp l i)), by rw [hx]; grind⟩)
  have h2 := sumI_single (C := J.length + 1) (j := 0) (f := fun k => if k = 0 then f 0 j * dt J (fun l => f (l + 1)) else 0) (by omega) (fun l _ hne => by simp only [if_neg hne])
  rw [h2] at h1
  simpa [Md] using h1
theorem dt_col0 {p : Int} {J : List Nat} {j : Nat} {f : Nat → Nat → Int} (h : ∀ l, l < J.length + 1 → p ∣ f l j) : p ∣ dt (j :: J) f := by
  have h1 := dt_front (J := J) (f := f) (fun l _ hl => h l hl)
  obtain ⟨x, hx⟩ := h 0 (by omega)
  rw [hx] at h1
  obtain ⟨y, hy⟩ := h1
  exact ⟨y + x * dt J (fun l => f (l + 1)), by grind⟩
/-- two rows change places -/
theorem dt_swap {J : List Nat} {f : Nat → Nat → Int} {a b : Nat} (ha : a < J.length) (hb : b < J.length) (hab : a ≠ b) : dt J (fup (fup f a (f b)) b (f a)) = - dt J f := by
  have h1 := dt_addmul (J := J) (f := f) ha hb hab 1
  have h2 := dt_addmul (J := J) (f := fup f b (fun j => f b j + 1 * f a j)) hb ha (fun e => hab e.symm) (-1)
  have h3 := dt_addmul (J := J) (f := fup (fup f b (fun j => f b j + 1 * f a j)) a (fun j => fup f b (fun j => f b j + 1 * f a j) a j + (-1) * fup f b (fun j => f b j + 1 * f a j) b j)) ha hb hab 1
  rw [h2, h1] at h3
  rw [← h3]
  have h4 := dt_mul (J := J) (f := fup f b (f a)) (k := a) (f b) (-1) ha
  have h5 : fup (fup f a (f b)) b (f a) = fup (fup f b (f a)) a (f b) := fup_comm f hab _ _
  rw [h5]
  have h6 : dt J (fup (fup f b (f a)) a (f b)) = - dt J (fup (fup f b (f a)) a (fun j => -1 * f b j)) := by rw [h4]; omega
  rw [h6]
  congr 1
  refine dt_congr (fun l hl j _ => ?_)
  unfold fup
  by_cases e1 : l = a
  · subst e1
    simp [hab]
    omega
  · by_cases e2 : l = b
    · subst e2
      simp [e1, hab]
      omega
    · simp [e1, e2]
def rws (A : List (List Nat)) (k : Nat) : Nat → Nat → Int := fun l j => (ge A (k + l) j : Int)
theorem rws_swap {A : List (List Nat)} {k x n : Nat} (hA : A.length = n) (hk : k < n) (hx : x < n) (hkx : k ≤ x) : dt (List.range' k (n - k)) (rws (swR A x k) k) = if x = k then dt (List.range' k (n - k)) (rws A k) else - dt (List.range' k (n - k)) (rws A k) := by
  by_cases e : x = k
  · rw [if_pos e, e, swR_self]
  · rw [if_neg e, ← dt_swap (J := List.range' k (n - k)) (f := rws A k) (a := x - k) (b := 0) (by rw [List.length_range']; omega) (by rw [List.length_range']; omega) (by omega)]
    refine dt_congr (fun l hl j _ => ?_)
    rw [List.length_range'] at hl
    unfold rws ge
    rw [gr_swR (by omega) (by omega)]
    unfold fup
    by_cases e1 : l = 0
    · subst e1
      simp
      rw [show k + (x - k) = x by omega]
    · rw [if_neg (by omega), if_neg e1]
      by_cases e2 : l = x - k
      · rw [if_pos (by omega), if_pos e2]; simp
      · rw [if_neg (by omega), if_neg e2]
theorem ge_mdN {p n k i j : Nat} {A : List (List Nat)} (hA : A.length = n) (hc : Cl n A) (hi : k < i) (hin : i < n) (hj : k < j) (hjn : j < n) (hp : 0 < p) :
    Md p (ge (mdN p k A) i j : Nat) ((ge A i j : Int) - (ge A i k : Int) * (fInv p (ge A k k) : Nat) * (ge A k j : Int)) := by
  unfold mdN
  have h1 : ge (updR A (k + 1) A.length (mdR p k (fInv p (ge A k k)) (gr A k))) i j = gn (mdR p k (fInv p (ge A k k)) (gr A k) (gr A i)) j := by
    unfold ge
    rw [gr_updR (by omega), if_pos ⟨by omega, by omega⟩]
  rw [h1]
  have hl : (gr A i).length = n := hc i (by omega)
  generalize fInv p (ge A k k) = iv
  unfold mdR
  by_cases e : gn (gr A i) k = 0
  · rw [if_pos e]
    refine Md.of_eq ?_
    have : ge A i k = 0 := e
    rw [this]
    show (ge A i j : Int) = _
    simp
  · rw [if_neg e, gn_cmbF (by omega)]
    by_cases e2 : gn (gr A k) j = 0
    · rw [if_neg (fun h => h.2.2 e2)]
      refine Md.of_eq ?_
      have : ge A k j = 0 := e2
      rw [this]
      show (ge A i j : Int) = _
      simp
    · rw [if_pos ⟨hj, by omega, e2⟩]
      refine (Md.subF (Nat.mod_lt _ hp)).trans (Md.sub (Md.refl _ _) ?_)
      refine (Md.mod p _).trans ?_
      rw [Int.natCast_mul]
      refine Md.mul ?_ (Md.refl _ _)
      refine (Md.mod p _).trans ?_
      rw [Int.natCast_mul]
      exact Md.refl _ _
/-- det returns the determinant -/
theorem detG_dt {p n : Nat} (hp : Pr p) (h1 : 2 < p) (hl : p < 18446744073709551616) : ∀ (f : Nat) (A : List (List Nat)) (k d : Nat), A.length = n → Cl n A → Ltm p A → d < p → k + f = n → Md p (detG p f A k d : Nat) ((d : Int) * dt (List.range' k (n - k)) (rws A k))
  | 0, A, k, d, hA, hc, hlt, hd, hf => by
    rw [show n - k = 0 by omega]
    simp only [List.range'_zero, dt, detG]
    exact Md.of_eq (by omega)
  | f + 1, A, k, d, hA, hc, hlt, hd, hf => by
    obtain ⟨x, hx⟩ : ∃ x, x = pvF A k k (A.length - k) := ⟨_, rfl⟩
    have hr := pvF_range (A := A) (k := k) (A.length - k) k
    rw [← hx] at hr
    have eJ : List.range' k (n - k) = k :: List.range' (k + 1) (n - (k + 1)) := by
      rw [show n - k = (n - (k + 1)) + 1 by omega, List.range'_succ]
    by_cases hxn : x < A.length
    · rw [detG_some hx.symm hxn]
      have hpos := pvF_pos (A := A) (k := k) (A.length - k) k (by rw [← hx]; omega)
      rw [← hx] at hpos
      have hk : k < A.length := by omega
      obtain ⟨B, hB⟩ : ∃ B, B = swR A x k := ⟨_, rfl⟩
      have hBl : B.length = n := by rw [hB, swR_length]; exact hA
      have hBc : Cl n B := by rw [hB]; exact hc.swR hxn hk
      have hBt : Ltm p B := by rw [hB]; exact hlt.swR hxn hk
      have hBk : ge B k k = ge A x k := by rw [hB]; unfold ge; rw [gr_swR hxn hk, if_pos rfl]
      have hsw := rws_swap hA (by omega) (by omega) hr.1 (k := k) (x := x)
      rw [← hB] at hsw ⊢
      have hsw2 : dt (List.range' k (n - k)) (rws A k) = (if x = k then 1 else -1) * dt (List.range' k (n - k)) (rws B k) := by
        rw [hsw]; split <;> omega
      have hBk0 : ge B k k ≠ 0 := by rw [hBk]; exact hpos
      have ih := detG_dt hp h1 hl f (mdN p k B) (k + 1) (mdD p d (ge B k k) x k) (by rw [mdN_length]; exact hBl) (hBc.updR (fun r hr => by rw [mdR_length]; exact hr)) (hBt.updR hBc (by omega) (fun r _ hr j => mdR_lt (by omega) hr j)) (mdD_lt (by omega) _ _ _ _) (by omega)
      refine ih.trans ?_
      rw [hsw2]
      have hinv := fInv_md hp h1 hl (a := ge B k k) (by rw [Nat.mod_eq_of_lt (hBt k k)]; exact hBk0)
      -- the pivot's column is cleared
      have hmany := dt_many (J := List.range' k (n - k)) (f := rws B k) (a := 0) (by rw [List.length_range']; omega) (fun l => if l = 0 then 0 else -((ge B (k + l) k : Int) * (fInv p (ge B k k) : Nat))) rfl
      rw [← hmany, eJ]
      have hfr := dt_front (p := (p : Int)) (J := List.range' (k + 1) (n - (k + 1))) (j := k) (f := fun l j => rws B k l j + (if l = 0 then 0 else -((ge B (k + l) k : Int) * (fInv p (ge B k k) : Nat))) * rws B k 0 j) (fun l hl1 hl2 => by
        show (p : Int) ∣ rws B k l k + _
        rw [if_neg (by omega)]
        unfold rws
        rw [Nat.add_zero]
        obtain ⟨y, hy⟩ := hinv
        exact ⟨-((ge B (k + l) k : Int) * y), by grind⟩)
      simp only [if_pos, Int.zero_mul, Int.add_zero] at hfr
      have hmd : Md p (mdD p d (ge B k k) x k : Nat) ((d : Int) * (if x = k then 1 else -1) * (ge B k k : Int)) := by
        unfold mdD
        refine (Md.mod p _).trans ?_
        rw [Int.natCast_mul]
        refine Md.mul ?_ (Md.refl _ _)
        split
        · exact Md.of_eq (by omega)
        · exact (Md.subF hd).trans (Md.of_eq (by omega))
      have hrest : Md p (dt (List.range' (k + 1) (n - (k + 1))) (rws (mdN p k B) (k + 1))) (dt (List.range' (k + 1) (n - (k + 1))) (fun l => fun j => rws B k (l + 1) j + (if l + 1 = 0 then 0 else -((ge B (k + (l + 1)) k : Int) * (fInv p (ge B k k) : Nat))) * rws B k 0 j)) := by
        refine dt_mod (fun l hl j hj => ?_)
        rw [List.length_range'] at hl
        have hj' := List.mem_range'_1.1 hj
        have hg := ge_mdN (p := p) hBl hBc (show k < k + 1 + l by omega) (by omega) (show k < j by omega) (by omega) (by omega)
        rw [if_neg (by omega)]
        unfold rws
        rw [Nat.add_zero, show k + (l + 1) = k + 1 + l by omega]
        obtain ⟨y, hy⟩ := hg
        exact ⟨y, by rw [← hy]; grind⟩
      refine (hmd.mul hrest).trans ?_
      refine Md.trans ?_ (Md.mul (Md.refl _ _) (Md.mul (Md.refl _ _) hfr.symm))
      refine Md.of_eq ?_
      show _ = (d : Int) * ((if x = k then 1 else -1) * (rws B k 0 k * _))
      unfold rws
      rw [Nat.add_zero]
      grind
    · rw [detG_none (by rw [← hx]; exact hxn)]
      have hno := pvF_none (A := A) (k := k) (A.length - k) k (by rw [← hx]; omega)
      refine Md.symm ?_
      have : (p : Int) ∣ dt (List.range' k (n - k)) (rws A k) := by
        rw [eJ]
        refine dt_col0 (fun l hl => ?_)
        rw [List.length_range'] at hl
        unfold rws
        rw [hno (k + l) (by omega) (by omega)]
        exact ⟨0, by simp⟩
      obtain ⟨y, hy⟩ := this
      exact ⟨d * y, by rw [hy]; grind⟩
end Go.Proofs.YtjeklcgfffibpaaGreatDoor

namespace Go.Proofs.YtjeklcgfffibpaaGreatDoor
set_option linter.unusedVariables false

theorem Md.sumI {p : Int} {C : Nat} {f g : Nat → Int} (h : ∀ l, l < C → Md p (f l) (g l)) : Md p (Go.Proofs.YtjeklcgfffibpaaGreatDoor.sumI C f) (Go.Proofs.YtjeklcgfffibpaaGreatDoor.sumI C g) := sumI_mod h
theorem sumI_halves (f : Nat → Int) : ∀ h : Nat, sumI (2 * h) f = sumI h (fun i => f (2 * i)) + sumI h (fun i => f (2 * i + 1))
  | 0 => rfl
  | h + 1 => by
    rw [show 2 * (h + 1) = 2 * h + 1 + 1 by omega, sumI, sumI, sumI_halves f h, sumI, sumI]
    omega
theorem twF_md (p r : Nat) : ∀ i, Md p (twF p r i : Nat) ((r : Int) ^ i)
  | 0 => Md.refl _ _
  | i + 1 => by
    rw [twF, Int.pow_succ]
    exact Md.mulm (twF_md p r i) (Md.refl _ _)
theorem Md.npow {p r : Nat} {x : Int} (h : Md p (r : Nat) x) (n : Nat) : Md p ((r ^ n : Nat) : Int) (x ^ n) := by
  rw [Int.natCast_pow]; exact h.pow n
theorem trF_md {p : Nat} (hp : 1 < p) : ∀ (d : Nat) (c : List Nat) (r : Nat), (∀ j, gn c j < p) → (∀ e, d = e + 1 → Md p ((r : Int) ^ (2 ^ e)) (-1)) → ∀ j, j < 2 ^ d → Md p (gn (trF p d c r) j : Nat) (sumI (2 ^ d) (fun i => (gn c i : Int) * (r : Int) ^ (i * j)))
  | 0, c, r, hc, h, j, hj => by
    have : j = 0 := by simpa using hj
    subst this
    simp only [trF, Nat.pow_zero, sumI]
    refine Md.of_eq ?_
    show (gn c 0 : Int) = _
    simp
  | d + 1, c, r, hc, h, j, hj => by
    have hr := h d rfl
    have hsq : Md p ((r * r % p : Nat) : Int) ((r : Int) * r) := Md.mulm (Md.refl _ _) (Md.refl _ _)
    have hev : ∀ j, gn (evL c (2 ^ d)) j < p := map_range_lt (by omega) (fun _ => hc _)
    have hod : ∀ j, gn (odL c (2 ^ d)) j < p := map_range_lt (by omega) (fun _ => hc _)
    have hcond : ∀ e, d = e + 1 → Md p (((r * r % p : Nat) : Int) ^ (2 ^ e)) (-1) := fun e he => by
      refine (hsq.pow _).trans ?_
      rw [Int.mul_pow, ← Int.pow_add, show 2 ^ e + 2 ^ e = 2 ^ d by rw [he, Nat.pow_succ]; omega]
      exact hr
    have ihE := trF_md hp d (evL c (2 ^ d)) (r * r % p) hev hcond
    have ihO := trF_md hp d (odL c (2 ^ d)) (r * r % p) hod hcond
    have hE : ∀ k, k < 2 ^ d → Md p (gn (trF p d (evL c (2 ^ d)) (r * r % p)) k : Nat) (sumI (2 ^ d) (fun i => (gn c (2 * i) : Int) * (r : Int) ^ (2 * i * k))) := fun k hk => by
      refine (ihE k hk).trans (Md.sumI (fun l hl => ?_))
      have e1 : gn (evL c (2 ^ d)) l = gn c (2 * l) := by unfold evL; rw [gn_map_range, if_pos hl]
      rw [e1]
      refine Md.mul (Md.refl _ _) ((hsq.pow _).trans (Md.of_eq ?_))
      rw [Int.mul_pow, ← Int.pow_add]
      congr 1; grind
    have hO : ∀ k, k < 2 ^ d → Md p (gn (trF p d (odL c (2 ^ d)) (r * r % p)) k : Nat) (sumI (2 ^ d) (fun i => (gn c (2 * i + 1) : Int) * (r : Int) ^ (2 * i * k))) := fun k hk => by
      refine (ihO k hk).trans (Md.sumI (fun l hl => ?_))
      have e1 : gn (odL c (2 ^ d)) l = gn c (2 * l + 1) := by unfold odL; rw [gn_map_range, if_pos hl]
      rw [e1]
      refine Md.mul (Md.refl _ _) ((hsq.pow _).trans (Md.of_eq ?_))
      rw [Int.mul_pow, ← Int.pow_add]
      congr 1; grind
    have hOlt : ∀ k, gn (trF p d (odL c (2 ^ d)) (r * r % p)) k < p := trF_lt (by omega) d _ _ hod
    rw [trF]
    generalize trF p d (evL c (2 ^ d)) (r * r % p) = E at *
    generalize trF p d (odL c (2 ^ d)) (r * r % p) = O at *
    rw [show 2 ^ (d + 1) = 2 * 2 ^ d by rw [Nat.pow_succ, Nat.mul_comm]] at hj ⊢
    rw [gn_map_range, if_pos hj, sumI_halves]
    unfold bfly
    by_cases hk : j < 2 ^ d
    · rw [if_pos hk]
      refine Md.addF.trans ((hE j hk).add ?_)
      refine (Md.mulm (twF_md p r j) (hO j hk)).trans (Md.of_eq ?_)
      rw [← sumI_mul]
      refine sumI_congr (fun l _ => ?_)
      rw [show (2 * l + 1) * j = 2 * l * j + j by grind, Int.pow_add]
      grind
    · rw [if_neg hk]
      obtain ⟨k, rfl⟩ : ∃ k, j = 2 ^ d + k := ⟨j - 2 ^ d, by omega⟩
      rw [show 2 ^ d + k - 2 ^ d = k by omega]
      have hk2 : k < 2 ^ d := by omega
      refine (Md.subF (Nat.mod_lt _ (by omega))).trans ?_
      refine (Md.sub (hE k hk2) (Md.mulm (twF_md p r k) (hO k hk2))).trans ?_
      rw [← sumI_mul, Int.sub_eq_add_neg, show -sumI (2 ^ d) (fun l => (r : Int) ^ k * ((gn c (2 * l + 1) : Int) * (r : Int) ^ (2 * l * k))) = (-1) * sumI (2 ^ d) (fun l => (r : Int) ^ k * ((gn c (2 * l + 1) : Int) * (r : Int) ^ (2 * l * k))) by omega, ← sumI_mul]
      have hone : ∀ l, Md p ((r : Int) ^ (2 * l * 2 ^ d)) 1 := fun l => by
        rw [show 2 * l * 2 ^ d = 2 ^ d * (2 * l) by grind, Int.pow_mul, Int.pow_mul]
        have h1 := (hr.pow 2).pow l
        rw [show (-1 : Int) ^ 2 = 1 by rfl, Int.one_pow] at h1
        exact h1
      refine Md.add (Md.sumI fun l hl => ?_) (Md.sumI fun l hl => ?_)
      · rw [show 2 * l * (2 ^ d + k) = 2 * l * k + 2 * l * 2 ^ d by grind, Int.pow_add]
        refine Md.mul (Md.refl _ _) ?_
        have := Md.mul (Md.refl (p : Int) ((r : Int) ^ (2 * l * k))) (hone l).symm
        rwa [Int.mul_one] at this
      · rw [show (2 * l + 1) * (2 ^ d + k) = k + 2 * l * k + (2 * l * 2 ^ d + 2 ^ d) by grind, Int.pow_add, Int.pow_add, Int.pow_add]
        have := Md.mul (Md.refl (p : Int) ((gn c (2 * l + 1) : Int) * ((r : Int) ^ k * (r : Int) ^ (2 * l * k)))) ((hone l).mul hr)
        refine Md.trans (Md.of_eq ?_) (this.symm.trans (Md.of_eq ?_)) <;> grind
/-- Gauss: all powers of an element other than 1 -/
theorem geo_sum {p : Nat} (hp : Pr p) (h1 : 1 < p) {z : Int} {n : Nat} (hz : Md p (z ^ n) 1) (hz1 : ¬ Md p z 1) : Md p (sumI n (fun j => z ^ j)) 0 := by
  have h2 : (z - 1) * sumI n (fun j => z ^ j) = z ^ n - 1 := by
    clear hz
    induction n with
    | zero => simp [sumI]
    | succ n ih => rw [sumI, Int.mul_add, ih, Int.pow_succ]; grind
  have h3 : (p : Int) ∣ (z - 1) * sumI n (fun j => z ^ j) := by rw [h2]; exact hz
  have h4 : p ∣ ((z - 1).natAbs * (sumI n (fun j => z ^ j)).natAbs) := by
    rw [← Int.natAbs_mul]; exact Int.ofNat_dvd_left.1 h3
  have h5 : ¬ p ∣ (z - 1).natAbs := fun e => hz1 (Int.ofNat_dvd_left.2 e)
  have h6 : p ∣ (sumI n (fun j => z ^ j)).natAbs := by
    have hc := hp.coprime (m := (z - 1).natAbs) (fun e => h5 (Nat.dvd_of_mod_eq_zero e)) (by omega)
    exact Nat.Coprime.dvd_of_dvd_mul_left (Nat.coprime_comm.1 hc) h4
  exact Md.zero.2 (Int.ofNat_dvd_left.2 h6)
/-- powers of a root below its order differ -/
theorem root_inj {p R d : Nat} (h1 : 2 < p) (hR : Md p ((R : Int) ^ (2 ^ d)) (-1)) {i j : Nat} (hi : i < 2 ^ (d + 1)) (hj : j < 2 ^ (d + 1)) (h : Md p ((R : Int) ^ i) ((R : Int) ^ j)) : i = j := by
  have hm1 : R ^ (2 ^ d) % p = p - 1 := by
    refine Md.inj (Nat.mod_lt _ (by omega)) (show p - 1 < p by omega) ?_
    refine (Md.mod p _).trans ?_
    rw [Int.natCast_pow]
    exact hR.trans ⟨-1, by omega⟩
  have hN : R ^ (2 ^ (d + 1)) % p = 1 % p := by
    refine Md.inj (Nat.mod_lt _ (by omega)) (Nat.mod_lt _ (by omega)) ?_
    refine (Md.mod p _).trans (Md.trans ?_ (Md.mod p 1).symm)
    rw [Int.natCast_pow, Nat.pow_succ, Int.pow_mul]
    exact hR.pow 2
  obtain ⟨k, k0, k1, k2⟩ := order_ex R p (2 ^ (d + 1)) (Nat.two_pow_pos _) hN
  have c1 : k ∣ 2 ^ (d + 1) := order_dvd k1 k2 k0 _ hN
  have c2 : ¬ k ∣ 2 ^ d := by
    rintro ⟨t, ht⟩
    have := pow_mod_mul R p k t k1
    rw [← ht, hm1, Nat.mod_eq_of_lt (show 1 < p by omega)] at this
    omega
  have c3 := two_pow_of_dvd c1 c2
  have he : R ^ i % p = R ^ j % p := by
    refine Md.inj (Nat.mod_lt _ (by omega)) (Nat.mod_lt _ (by omega)) ?_
    refine (Md.mod p _).trans (Md.trans ?_ (Md.mod p _).symm)
    rw [Int.natCast_pow, Int.natCast_pow]; exact h
  rcases Nat.lt_trichotomy i j with q | q | q
  · exact absurd he (pow_inj k1 k2 q (by omega))
  · exact q
  · exact absurd he.symm (pow_inj k1 k2 q (by omega))
/-- from the values at the powers of a root back to the coefficients -/
theorem dft_back {p R d : Nat} (hp : Pr p) (h1 : 2 < p) (hl : p < 18446744073709551616) (hR : ∀ e, d = e + 1 → Md p ((R : Int) ^ (2 ^ e)) (-1)) (hR0 : R % p ≠ 0) (hd : 2 ^ d < p) {V : List Nat} (hV : ∀ j, gn V j < p) (D : Nat → Int) {n : Nat} (hn : n ≤ 2 ^ d)
    (hval : ∀ j, j < 2 ^ d → Md p (gn V j : Nat) (sumI n (fun k => D k * ((R : Int) ^ j) ^ k))) {m : Nat} (hm : m < n) : Md p ((gn (trF p d V (fInv p R)) m * fInv p (2 ^ d) % p : Nat) : Int) (D m) := by
  have hinv := fInv_md hp h1 hl hR0
  generalize fInv p R = s at *
  have hs : ∀ e, d = e + 1 → Md p ((s : Int) ^ (2 ^ e)) (-1) := fun e he => by
    have h2 := hinv.pow (2 ^ e)
    rw [Int.mul_pow, Int.one_pow] at h2
    have h3 := (Md.mul (hR e he) (Md.refl (p : Int) ((s : Int) ^ (2 ^ e)))).symm.trans h2
    have := h3.neg
    refine Md.trans (Md.of_eq ?_) this
    omega
  have h2 := trF_md (by omega) d V s hV hs m (by omega)
  have h3 : Md p (sumI (2 ^ d) (fun i => (gn V i : Int) * (s : Int) ^ (i * m))) (sumI (2 ^ d) (fun j => sumI n (fun k => D k * ((R : Int) ^ k * (s : Int) ^ m) ^ j))) := by
    refine Md.sumI fun j hj => ?_
    refine (Md.mul (hval j hj) (Md.refl _ _)).trans (Md.of_eq ?_)
    rw [← sumI_mulr]
    refine sumI_congr fun k _ => ?_
    rw [Int.mul_pow, ← Int.pow_mul, ← Int.pow_mul, ← Int.pow_mul, Nat.mul_comm j k, Nat.mul_comm j m]
    grind
  rw [sumI_swap] at h3
  have h4 : Md p (sumI n (fun k => sumI (2 ^ d) (fun j => D k * ((R : Int) ^ k * (s : Int) ^ m) ^ j))) (sumI n (fun k => if k = m then D m * (2 ^ d : Nat) else 0)) := by
    refine Md.sumI fun k hk => ?_
    rw [sumI_mul]
    by_cases e : k = m
    · subst e
      rw [if_pos rfl]
      refine Md.mul (Md.refl _ _) ?_
      have hz : Md p ((R : Int) ^ k * (s : Int) ^ k) 1 := by
        rw [← Int.mul_pow]
        have := hinv.pow k
        rwa [Int.one_pow] at this
      refine (Md.sumI (g := fun _ => 1) fun j _ => ?_).trans (Md.of_eq ?_)
      · have := hz.pow j
        rwa [Int.one_pow] at this
      · have : ∀ N : Nat, sumI N (fun _ => (1 : Int)) = N := by
          intro N
          induction N with
          | zero => rfl
          | succ N ih => rw [sumI, ih]; omega
        exact this _
    · rw [if_neg e]
      have hd1 : ∃ e, d = e + 1 := by
        rcases Nat.eq_zero_or_pos d with q | q
        · subst q
          have : n ≤ 1 := hn
          omega
        · exact ⟨d - 1, by omega⟩
      obtain ⟨e1, he1⟩ := hd1
      have hN : ∀ x : Int, Md p (x ^ (2 ^ e1)) (-1) → Md p (x ^ (2 ^ d)) 1 := fun x hx => by
        rw [he1, Nat.pow_succ, Int.pow_mul]
        exact hx.pow 2
      have hg := geo_sum hp (by omega) (z := (R : Int) ^ k * (s : Int) ^ m) (n := 2 ^ d) (by
        rw [Int.mul_pow, ← Int.pow_mul, ← Int.pow_mul, Nat.mul_comm k, Nat.mul_comm m, Int.pow_mul, Int.pow_mul]
        have a1 := (hN _ (hR e1 he1)).pow k
        have a2 := (hN _ (hs e1 he1)).pow m
        have := a1.mul a2
        rwa [Int.one_pow, Int.one_pow, Int.one_mul] at this) (fun hz => by
        refine e (root_inj h1 (hR e1 he1) (by rw [← he1]; omega) (by rw [← he1]; omega) ?_)
        have a1 := Md.mul hz (Md.refl (p : Int) ((R : Int) ^ m))
        rw [Int.one_mul] at a1
        refine Md.trans ?_ a1
        have a2 := hinv.pow m
        rw [Int.mul_pow, Int.one_pow] at a2
        have a3 := Md.mul (Md.refl (p : Int) ((R : Int) ^ k)) a2.symm
        rw [Int.mul_one] at a3
        exact a3.trans (Md.of_eq (by grind)))
      have := Md.mul (Md.refl (p : Int) (D k)) hg
      rwa [Int.mul_zero] at this
  have h5 : sumI n (fun k => if k = m then D m * ((2 ^ d : Nat) : Int) else 0) = D m * ((2 ^ d : Nat) : Int) := by
    rw [sumI_single (j := m) hm (fun l _ hne => by rw [if_neg hne]), if_pos rfl]
  rw [h5] at h4
  have h6 := h2.trans (h3.trans h4)
  have h7 := fInv_md hp h1 hl (a := 2 ^ d) (by rw [Nat.mod_eq_of_lt hd]; exact Nat.ne_of_gt (Nat.two_pow_pos _))
  refine (Md.mulm h6 (Md.refl _ _)).trans ?_
  rw [Int.mul_assoc]
  have := Md.mul (Md.refl (p : Int) (D m)) h7
  rwa [Int.mul_one] at this
end Go.Proofs.YtjeklcgfffibpaaGreatDoor
