/- Smith's form over the integers: a diagonal whose elements divide each other (plain). -/
/- What divides all minors of a size: kept by the steps; sorted choices suffice; at a diagonal chain (plain). -/
/- The reference's Smith, by minors: plain functions; it finds the invariants (plain). -/
import Derived.Test.YtcjaloddgilnpaaZNcl
namespace Go.Proofs.Ytcjaloddgilnpaa
set_option linter.unusedVariables false

/-- a property that the steps beyond k keep -/
structure ClK (n C k : Nat) (P : (Nat → Nat → Int) → Prop) : Prop where
  r : ∀ M a b c, k ≤ a → k ≤ b → a < n → b < n → a ≠ b → P M → P (rAdd a b c M)
  c : ∀ M a b c, k ≤ a → k ≤ b → a < C → b < C → a ≠ b → P M → P (cAdd a b c M)
section
variable {n C k : Nat} {P : (Nat → Nat → Int) → Prop} {M : Nat → Nat → Int}
theorem swapRK (hP : ClK n C k P) (h : P M) (hb : blkZ n C k M) {a : Nat} (hk : k < n) (ha : a < n) (hka : k ≤ a) : ∃ M', P M' ∧ blkZ n C k M' ∧ ∀ j, M' k j = M a j := by
  by_cases e : a = k
  · exact ⟨M, h, hb, fun j => by rw [e]⟩
  · have e' : k ≠ a := fun q => e q.symm
    refine ⟨rAdd k a 1 (rAdd a k (-1) (rAdd k a 1 M)), hP.r _ _ _ _ (by omega) (by omega) hk ha e' (hP.r _ _ _ _ (by omega) (by omega) ha hk e (hP.r _ _ _ _ (by omega) (by omega) hk ha e' h)), ((hb.r 1 hk ha (Nat.le_refl _) hka).r (-1) ha hk hka (Nat.le_refl _)).r 1 hk ha (Nat.le_refl _) hka, fun j => ?_⟩
    simp only [rAdd, if_pos, if_neg e, if_neg e']
    omega
theorem swapCK (hP : ClK n C k P) (h : P M) (hb : blkZ n C k M) {a : Nat} (hk : k < C) (ha : a < C) (hka : k ≤ a) : ∃ M', P M' ∧ blkZ n C k M' ∧ ∀ i, M' i k = M i a := by
  by_cases e : a = k
  · exact ⟨M, h, hb, fun j => by rw [e]⟩
  · have e' : k ≠ a := fun q => e q.symm
    refine ⟨cAdd k a 1 (cAdd a k (-1) (cAdd k a 1 M)), hP.c _ _ _ _ (by omega) (by omega) hk ha e' (hP.c _ _ _ _ (by omega) (by omega) ha hk e (hP.c _ _ _ _ (by omega) (by omega) hk ha e' h)), ((hb.c 1 hk ha (Nat.le_refl _) hka).c (-1) ha hk hka (Nat.le_refl _)).c 1 hk ha (Nat.le_refl _) hka, fun j => ?_⟩
    simp only [cAdd, if_pos, if_neg e, if_neg e']
    omega
theorem clearCK (hP : ClK n C k P) (h : P M) (hb : blkZ n C k M) (hk : k < n) (hd : ∀ i, k < i → i < n → M k k ∣ M i k) : ∃ M', P M' ∧ blkZ n C k M' ∧ (∀ j, M' k j = M k j) ∧ ∀ i, k < i → i < n → M' i k = 0 := by
  have key : ∀ x, ∃ M', P M' ∧ blkZ n C k M' ∧ (∀ j, M' k j = M k j) ∧ (∀ i, k < i → i < n → i < x → M' i k = 0) ∧ (∀ i, x ≤ i → ∀ j, M' i j = M i j) := by
    intro x
    induction x with
    | zero => exact ⟨M, h, hb, fun _ => rfl, fun i _ _ q => by omega, fun _ _ _ => rfl⟩
    | succ x ih =>
      obtain ⟨M', h1, h2, h3, h4, h5⟩ := ih
      by_cases hx : k < x ∧ x < n
      · obtain ⟨q, hq⟩ := hd x hx.1 hx.2
        refine ⟨rAdd x k (-q) M', hP.r _ _ _ _ (by omega) (by omega) hx.2 hk (by omega) h1, h2.r (-q) hx.2 hk (by omega) (Nat.le_refl _), fun j => ?_, fun i i1 i2 i3 => ?_, fun i hi j => ?_⟩
        · unfold rAdd; rw [if_neg (by omega)]; exact h3 j
        · unfold rAdd
          split
          · rw [h5 x (Nat.le_refl _) k, h3 k, hq, Int.neg_mul, Int.mul_comm q]; omega
          · exact h4 i i1 i2 (by omega)
        · unfold rAdd; rw [if_neg (by omega)]; exact h5 i (by omega) j
      · exact ⟨M', h1, h2, h3, fun i i1 i2 i3 => h4 i i1 i2 (by omega), fun i hi j => h5 i (by omega) j⟩
  obtain ⟨M', h1, h2, h3, h4, _⟩ := key n
  exact ⟨M', h1, h2, h3, fun i i1 i2 => h4 i i1 i2 i2⟩
theorem clearRK (hP : ClK n C k P) (h : P M) (hb : blkZ n C k M) (hk : k < C) (hd : ∀ j, k < j → j < C → M k k ∣ M k j) : ∃ M', P M' ∧ blkZ n C k M' ∧ (∀ i, M' i k = M i k) ∧ ∀ j, k < j → j < C → M' k j = 0 := by
  have key : ∀ x, ∃ M', P M' ∧ blkZ n C k M' ∧ (∀ i, M' i k = M i k) ∧ (∀ j, k < j → j < C → j < x → M' k j = 0) ∧ (∀ j, x ≤ j → ∀ i, M' i j = M i j) := by
    intro x
    induction x with
    | zero => exact ⟨M, h, hb, fun _ => rfl, fun i _ _ q => by omega, fun _ _ _ => rfl⟩
    | succ x ih =>
      obtain ⟨M', h1, h2, h3, h4, h5⟩ := ih
      by_cases hx : k < x ∧ x < C
      · obtain ⟨q, hq⟩ := hd x hx.1 hx.2
        refine ⟨cAdd x k (-q) M', hP.c _ _ _ _ (by omega) (by omega) hx.2 hk (by omega) h1, h2.c (-q) hx.2 hk (by omega) (Nat.le_refl _), fun i => ?_, fun j i1 i2 i3 => ?_, fun j hj i => ?_⟩
        · unfold cAdd; rw [if_neg (by omega)]; exact h3 i
        · unfold cAdd
          split
          · rw [h5 x (Nat.le_refl _) k, h3 k, hq, Int.neg_mul, Int.mul_comm q]; omega
          · exact h4 j i1 i2 (by omega)
        · unfold cAdd; rw [if_neg (by omega)]; exact h5 j (by omega) i
      · exact ⟨M', h1, h2, h3, fun i i1 i2 i3 => h4 i i1 i2 (by omega), fun i hi j => h5 i (by omega) j⟩
  obtain ⟨M', h1, h2, h3, h4, _⟩ := key C
  exact ⟨M', h1, h2, h3, fun i i1 i2 => h4 i i1 i2 i2⟩
end
theorem stepK {n C k : Nat} {P : (Nat → Nat → Int) → Prop} (hP : ClK n C k P) (hk : k < n) (hkC : k < C) : ∀ (μ : Nat) (M : Nat → Nat → Int), P M → blkZ n C k M → (∃ a b, k ≤ a ∧ a < n ∧ k ≤ b ∧ b < C ∧ M a b ≠ 0 ∧ (M a b).natAbs ≤ μ) → ∃ M', P M' ∧ blkZ n C (k + 1) M' ∧ ∀ i j, k < i → i < n → k < j → j < C → M' k k ∣ M' i j
  | 0, M, _, _, ⟨a, b, _, _, _, _, h1, h2⟩ => by omega
  | μ + 1, M, h, hb, ⟨a, b, ha1, ha2, hb1, hb2, hne, hle⟩ => by
    obtain ⟨M1, p1, k1, e1⟩ := swapRK hP h hb hk ha2 ha1
    obtain ⟨M2, p2, k2, e2⟩ := swapCK hP p1 k1 hkC hb2 hb1
    have he : M2 k k = M a b := by rw [e2, e1]
    rw [← he] at hne hle
    by_cases q1 : ∀ i, k < i → i < n → M2 k k ∣ M2 i k
    · obtain ⟨M3, p3, k3, e3, z3⟩ := clearCK hP p2 k2 hk q1
      by_cases q2 : ∀ j, k < j → j < C → M3 k k ∣ M3 k j
      · obtain ⟨M4, p4, k4, e4, z4⟩ := clearRK hP p3 k3 hkC q2
        have he4 : M4 k k = M2 k k := by rw [e4, e3]
        have hz4 : ∀ i, k < i → i < n → M4 i k = 0 := fun i i1 i2 => by rw [e4]; exact z3 i i1 i2
        by_cases q3 : ∀ i j, k < i → i < n → k < j → j < C → M4 k k ∣ M4 i j
        · refine ⟨M4, p4, fun i j hi hj hor hij => ?_, q3⟩
          by_cases w : i < k ∨ j < k
          · exact k4 i j hi hj w hij
          · by_cases w2 : i = k
            · subst w2; exact z4 j (by omega) hj
            · have w3 : j = k := by omega
              subst w3
              exact hz4 i (by omega) hi
        · obtain ⟨i, hi⟩ := Classical.not_forall.1 q3
          obtain ⟨j, hj⟩ := Classical.not_forall.1 hi
          obtain ⟨i1, hj⟩ := Classical.not_imp.1 hj
          obtain ⟨i2, hj⟩ := Classical.not_imp.1 hj
          obtain ⟨j1, hj⟩ := Classical.not_imp.1 hj
          obtain ⟨j2, hnd⟩ := Classical.not_imp.1 hj
          rw [he4] at hnd
          obtain ⟨r1, r2⟩ := rem_small hne hnd
          have p5 := hP.r _ _ _ 1 (by omega) (by omega) hk i2 (by omega : k ≠ i) p4
          have k5 := k4.r 1 hk i2 (Nat.le_refl _) (by omega)
          have e5 : rAdd k i 1 M4 k k = M2 k k := by unfold rAdd; rw [if_pos rfl, hz4 i i1 i2, he4]; omega
          have e6 : rAdd k i 1 M4 k j = M4 i j := by unfold rAdd; rw [if_pos rfl, z4 j j1 j2]; omega
          refine stepK hP hk hkC μ (cAdd j k (-(M4 i j / M2 k k)) (rAdd k i 1 M4)) (hP.c _ _ _ _ (by omega) (by omega) j2 hkC (by omega) p5) (k5.c _ j2 hkC (by omega) (Nat.le_refl _)) ⟨k, j, Nat.le_refl _, hk, by omega, j2, ?_, ?_⟩
          · show (if j = j then rAdd k i 1 M4 k j + -(M4 i j / M2 k k) * rAdd k i 1 M4 k k else _) ≠ 0
            rw [if_pos rfl, e5, e6]; exact r1
          · show (if j = j then rAdd k i 1 M4 k j + -(M4 i j / M2 k k) * rAdd k i 1 M4 k k else _).natAbs ≤ μ
            rw [if_pos rfl, e5, e6]; omega
      · have ⟨j, hj⟩ := Classical.not_forall.1 q2
        have ⟨j1, hj'⟩ := Classical.not_imp.1 hj
        have ⟨j2, hnd⟩ := Classical.not_imp.1 hj'
        rw [e3 k] at hnd
        obtain ⟨r1, r2⟩ := rem_small hne hnd
        refine stepK hP hk hkC μ (cAdd j k (-(M3 k j / M2 k k)) M3) (hP.c _ _ _ _ (by omega) (by omega) j2 hkC (by omega) p3) (k3.c _ j2 hkC (by omega) (Nat.le_refl _)) ⟨k, j, Nat.le_refl _, hk, by omega, j2, ?_, ?_⟩
        · simp only [cAdd, if_pos]; rw [e3 k]; exact r1
        · simp only [cAdd, if_pos]; rw [e3 k]; omega
    · have ⟨i, hi⟩ := Classical.not_forall.1 q1
      have ⟨i1, hi'⟩ := Classical.not_imp.1 hi
      have ⟨i2, hnd⟩ := Classical.not_imp.1 hi'
      obtain ⟨r1, r2⟩ := rem_small hne hnd
      refine stepK hP hk hkC μ (rAdd i k (-(M2 i k / M2 k k)) M2) (hP.r _ _ _ _ (by omega) (by omega) i2 hk (by omega) p2) (k2.r _ i2 hk (by omega) (Nat.le_refl _)) ⟨i, k, by omega, i2, Nat.le_refl _, hkC, ?_, ?_⟩
      · simp only [rAdd, if_pos]; exact r1
      · simp only [rAdd, if_pos]; omega
theorem ClP.snf {n C k : Nat} {P : (Nat → Nat → Int) → Prop} (h : ClP n C P) (d : Nat → Int) (hkn : k ≤ n) (hkC : k ≤ C) : ClK n C k (fun X => P X ∧ (∀ a, a < k → X a a = d a) ∧ ∀ a, a < k → ∀ i j, k ≤ i → i < n → k ≤ j → j < C → d a ∣ X i j) := by
  refine ⟨fun M a b c ka kb ha hb hab hX => ⟨h.r M a b c ha hb hab hX.1, fun x hx => ?_, fun x hx i j i1 i2 j1 j2 => ?_⟩, fun M a b c ka kb ha hb hab hX => ⟨h.c M a b c ha hb hab hX.1, fun x hx => ?_, fun x hx i j i1 i2 j1 j2 => ?_⟩⟩
  · unfold rAdd; rw [if_neg (by omega)]; exact hX.2.1 x hx
  · unfold rAdd
    split
    · exact Int.dvd_add (hX.2.2 x hx a j ka ha j1 j2) (Int.dvd_trans (hX.2.2 x hx b j kb hb j1 j2) (Int.dvd_mul_left _ _))
    · exact hX.2.2 x hx i j i1 i2 j1 j2
  · unfold cAdd; rw [if_neg (by omega)]; exact hX.2.1 x hx
  · unfold cAdd
    split
    · exact Int.dvd_add (hX.2.2 x hx i a i1 i2 ka ha) (Int.dvd_trans (hX.2.2 x hx i b i1 i2 kb hb) (Int.dvd_mul_left _ _))
    · exact hX.2.2 x hx i j i1 i2 j1 j2
/-- Smith's form, for every property that the steps keep -/
theorem smithZ {n C : Nat} {P : (Nat → Nat → Int) → Prop} {M : Nat → Nat → Int} (hP : ClP n C P) (h : P M) : ∃ M', P M' ∧ (∀ i j, i < n → j < C → i ≠ j → M' i j = 0) ∧ ∀ a b, a < b → b < n → b < C → M' a a ∣ M' b b := by
  have key : ∀ k, k ≤ n → k ≤ C → ∃ M', P M' ∧ blkZ n C k M' ∧ (∀ a b, a < b → b < k → M' a a ∣ M' b b) ∧ ∀ a, a < k → ∀ i j, k ≤ i → i < n → k ≤ j → j < C → M' a a ∣ M' i j := by
    intro k
    induction k with
    | zero => intro _ _; exact ⟨M, h, fun i j _ _ q => by omega, fun a b _ q => by omega, fun a q => by omega⟩
    | succ k ih =>
      intro h1 h2
      obtain ⟨M', p, b, ch, dv⟩ := ih (by omega) (by omega)
      by_cases q : ∃ a b, k ≤ a ∧ a < n ∧ k ≤ b ∧ b < C ∧ M' a b ≠ 0
      · obtain ⟨a, b', a1, a2, b1, b2, hne⟩ := q
        obtain ⟨M2, ⟨p2, d2, v2⟩, k2, c2⟩ := stepK (hP.snf (fun a => M' a a) (by omega) (by omega)) (show k < n by omega) (show k < C by omega) (M' a b').natAbs M' ⟨p, fun _ _ => rfl, dv⟩ b ⟨a, b', a1, a2, b1, b2, hne, Nat.le_refl _⟩
        refine ⟨M2, p2, k2, fun x y hxy hy => ?_, fun x hx i j i1 i2 j1 j2 => ?_⟩
        · by_cases e : y = k
          · subst e
            rw [d2 x hxy]
            exact v2 x hxy y y (Nat.le_refl _) (by omega) (Nat.le_refl _) (by omega)
          · rw [d2 x (by omega), d2 y (by omega)]
            exact ch x y hxy (by omega)
        · by_cases e : x = k
          · subst e
            exact c2 i j (by omega) i2 (by omega) j2
          · rw [d2 x (by omega)]
            exact v2 x (by omega) i j (by omega) i2 (by omega) j2
      · have hz : ∀ i j, k ≤ i → i < n → k ≤ j → j < C → M' i j = 0 := fun i j i1 i2 j1 j2 => by
          by_cases z : M' i j = 0
          · exact z
          · exact absurd ⟨i, j, i1, i2, j1, j2, z⟩ q
        refine ⟨M', p, fun i j hi hj hor hij => ?_, fun x y hxy hy => ?_, fun x hx i j i1 i2 j1 j2 => ?_⟩
        · by_cases w : i < k ∨ j < k
          · exact b i j hi hj w hij
          · exact hz i j (by omega) hi (by omega) hj
        · by_cases e : y = k
          · subst e
            rw [hz y y (Nat.le_refl _) (by omega) (Nat.le_refl _) (by omega)]; exact Int.dvd_zero _
          · exact ch x y hxy (by omega)
        · rw [hz i j (by omega) i2 (by omega) j2]; exact Int.dvd_zero _
  rcases Nat.le_total n C with w | w
  · obtain ⟨M', p, b, ch, _⟩ := key n (Nat.le_refl _) w
    exact ⟨M', p, fun i j hi hj hij => b i j hi hj (Or.inl hi) hij, fun x y hxy hy _ => ch x y hxy hy⟩
  · obtain ⟨M', p, b, ch, _⟩ := key C w (Nat.le_refl _)
    exact ⟨M', p, fun i j hi hj hij => b i j hi hj (Or.inr hj) hij, fun x y hxy _ hy => ch x y hxy hy⟩
end Go.Proofs.Ytcjaloddgilnpaa

namespace Go.Proofs.Ytcjaloddgilnpaa
set_option linter.unusedVariables false

/-- column p becomes u -/
def cup (f : Nat → Nat → Int) (p : Nat) (u : Nat → Int) : Nat → Nat → Int := fun l j => if j = p then u l else f l j
theorem dt_clin : ∀ {J : List Nat} {f : Nat → Nat → Int} {p : Nat} (u v : Nat → Int) (c : Int), J.Nodup → p ∈ J → dt J (cup f p (fun l => u l + c * v l)) = dt J (cup f p u) + c * dt J (cup f p v)
  | [], f, p, u, v, c, _, h => by simp at h
  | j :: J, f, p, u, v, c, hd, h => by
    have hd' := List.nodup_cons.1 hd
    rw [dt, dt, dt, ← sumI_add]
    refine sumI_congr (fun k hk => ?_)
    show sgn k * cup f p (fun l => u l + c * v l) k j * dt J (fun l => cup f p (fun l => u l + c * v l) (skp k l)) = sgn k * cup f p u k j * dt J (fun l => cup f p u (skp k l)) + c * (sgn k * cup f p v k j * dt J (fun l => cup f p v (skp k l)))
    by_cases e : j = p
    · subst e
      have e1 : ∀ w : Nat → Int, dt J (fun l => cup f j w (skp k l)) = dt J (fun l => f (skp k l)) := fun w => dt_congr (fun l _ i hi => by
        show (if i = j then _ else f (skp k l) i) = f (skp k l) i
        rw [if_neg (fun q : i = j => hd'.1 (by rw [← q]; exact hi))])
      rw [e1, e1, e1]
      simp only [cup, if_pos]
      generalize dt J (fun l => f (skp k l)) = d
      rw [Int.mul_add, Int.add_mul, Int.mul_left_comm (sgn k) c, Int.mul_assoc c]
    · have hp : p ∈ J := by
        rcases List.mem_cons.1 h with q | q
        · exact absurd q.symm e
        · exact q
      have e1 : ∀ w : Nat → Int, (fun l => cup f p w (skp k l)) = cup (fun l => f (skp k l)) p (fun l => w (skp k l)) := fun w => rfl
      rw [e1, e1, e1, dt_clin (fun l => u (skp k l)) (fun l => v (skp k l)) c hd'.2 hp]
      simp only [cup, if_neg e]
      generalize sgn k * f k j = s
      rw [Int.mul_add, Int.mul_left_comm]
theorem dsum (r : Nat) (G : Nat → Nat → Int) : sumI (r + 1) (fun k => sumI r (fun l => G k l)) = sumI (r + 1) (fun k => sumI k (fun l => G k l + G l (k - 1))) := by
  induction r with
  | zero => simp [sumI]
  | succ r ih =>
    have e1 : sumI (r + 1) (fun k => sumI (r + 1) (fun l => G k l)) = sumI (r + 1) (fun k => sumI r (fun l => G k l)) + sumI (r + 1) (fun k => G k r) := by
      rw [← sumI_plus]; rfl
    have e2 : sumI (r + 1 + 1) (fun k => sumI (r + 1) (fun l => G k l)) = sumI (r + 1) (fun k => sumI (r + 1) (fun l => G k l)) + sumI (r + 1) (fun l => G (r + 1) l) := rfl
    have e3 : sumI (r + 1 + 1) (fun k => sumI k (fun l => G k l + G l (k - 1))) = sumI (r + 1) (fun k => sumI k (fun l => G k l + G l (k - 1))) + sumI (r + 1) (fun l => G (r + 1) l + G l r) := rfl
    rw [e2, e1, ih, e3, sumI_plus (fun l => G (r + 1) l) (fun l => G l r)]
    omega
theorem skp_comm {k l : Nat} (h : l < k) (i : Nat) : skp k (skp l i) = skp l (skp (k - 1) i) := by
  unfold skp
  repeat' split
  all_goals omega
/-- two columns at the head that are alike -/
theorem dt_chead {a b : Nat} {J : List Nat} {f : Nat → Nat → Int} (he : ∀ l, f l a = f l b) : dt (a :: b :: J) f = 0 := by
  have e0 : dt (a :: b :: J) f = sumI (J.length + 1 + 1) (fun k => sumI (J.length + 1) (fun l => sgn k * f k a * (sgn l * f (skp k l) b * dt J (fun i => f (skp k (skp l i)))))) := by
    rw [dt]
    refine sumI_congr (fun k _ => ?_)
    rw [sumI_mul]
    congr 1
  rw [e0, dsum]
  have e1 : ∀ k, k < J.length + 1 + 1 → sumI k (fun l => sgn k * f k a * (sgn l * f (skp k l) b * dt J (fun i => f (skp k (skp l i)))) + sgn l * f l a * (sgn (k - 1) * f (skp l (k - 1)) b * dt J (fun i => f (skp l (skp (k - 1) i))))) = 0 := by
    intro k hk
    rw [sumI_congr (g := fun _ => 0) (fun l hl => ?_), sumI_zero]
    have s1 : skp k l = l := by unfold skp; rw [if_pos hl]
    have s2 : skp l (k - 1) = k := by unfold skp; rw [if_neg (by omega)]; omega
    have s3 : (fun i => f (skp k (skp l i))) = fun i => f (skp l (skp (k - 1) i)) := by funext i; rw [skp_comm hl]
    have s4 : sgn k = - sgn (k - 1) := by rw [← sgn_succ, show k - 1 + 1 = k by omega]
    rw [s1, s2, s3, s4, ← he l, ← he k]
    generalize dt J (fun i => f (skp l (skp (k - 1) i))) = D
    generalize sgn (k - 1) = x
    generalize sgn l = y
    generalize f k a = p
    generalize f l a = q
    have : y * q * (x * p * D) = x * p * (y * q * D) := by
      rw [Int.mul_assoc, Int.mul_assoc, Int.mul_assoc, Int.mul_assoc]
      rw [Int.mul_left_comm q x, Int.mul_left_comm y x, Int.mul_left_comm q p, Int.mul_left_comm y p]
    rw [this, Int.neg_mul, Int.neg_mul]; omega
  rw [sumI_congr (g := fun _ => 0) e1, sumI_zero]
theorem dt_cadj : ∀ (r s : Nat) {f : Nat → Nat → Int} {p : Nat}, s ≤ p → p + 1 < s + r → (∀ l, f l p = f l (p + 1)) → dt (List.range' s r) f = 0
  | 0, s, f, p, h1, h2, _ => by omega
  | r + 1, s, f, p, h1, h2, he => by
    by_cases e : p = s
    · subst e
      obtain ⟨r', rfl⟩ : ∃ r', r = r' + 1 := ⟨r - 1, by omega⟩
      rw [List.range'_succ, List.range'_succ]
      exact dt_chead he
    · rw [List.range'_succ, dt]
      rw [sumI_congr (g := fun _ => 0) (fun k _ => by
        rw [dt_cadj r (s + 1) (p := p) (by omega) (by omega) (fun l => he (skp k l)), Int.mul_zero]), sumI_zero]
/-- neighbouring columns change places -/
theorem dt_cswap {r : Nat} {f : Nat → Nat → Int} {p : Nat} (h : p + 1 < r) : dt (List.range' 0 r) (fun l j => f l (if j = p then p + 1 else if j = p + 1 then p else j)) = - dt (List.range' 0 r) f := by
  have hnd : (List.range' 0 r).Nodup := List.nodup_range' (step := 1)
  have hp : p ∈ List.range' 0 r := List.mem_range'_1.2 (by omega)
  have hq : p + 1 ∈ List.range' 0 r := List.mem_range'_1.2 (by omega)
  have hne : p ≠ p + 1 := by omega
  obtain ⟨u, hu⟩ : ∃ u : Nat → Int, u = fun l => f l p := ⟨_, rfl⟩
  obtain ⟨v, hv⟩ : ∃ v : Nat → Int, v = fun l => f l (p + 1) := ⟨_, rfl⟩
  have cc : ∀ (x y : Nat → Int), cup (cup f p x) (p + 1) y = cup (cup f (p + 1) y) p x := fun x y => by
    funext l j; unfold cup
    by_cases e1 : j = p
    · rw [if_neg (by omega), if_pos e1, if_pos e1]
    · rw [if_neg e1, if_neg e1]
  have z : ∀ x : Nat → Int, dt (List.range' 0 r) (cup (cup f p x) (p + 1) x) = 0 := fun x => dt_cadj r 0 (p := p) (by omega) (by omega) (fun l => by simp [cup])
  have z1 := z (fun l => u l + 1 * v l)
  rw [dt_clin u v 1 hnd hq, cc, dt_clin u v 1 hnd hp, cc, dt_clin u v 1 hnd hp, ← cc, ← cc, ← cc, ← cc, z u, z v] at z1
  have e1 : cup (cup f p u) (p + 1) v = f := by
    funext l j; unfold cup
    by_cases a : j = p + 1
    · rw [if_pos a, hv, a]
    · rw [if_neg a]
      by_cases b : j = p
      · rw [if_pos b, hu, b]
      · rw [if_neg b]
  have e2 : cup (cup f p v) (p + 1) u = fun l j => f l (if j = p then p + 1 else if j = p + 1 then p else j) := by
    funext l j; unfold cup
    by_cases a : j = p + 1
    · rw [if_pos a, if_neg (by omega), if_pos a, hu]
    · rw [if_neg a]
      by_cases b : j = p
      · rw [if_pos b, if_pos b, hv]
      · rw [if_neg b, if_neg b, if_neg a]
  rw [e1, e2] at z1
  omega
/-- e divides all minors of size r, whatever rows and columns are chosen -/
def Dv (N K r : Nat) (e : Int) (X : Nat → Nat → Int) : Prop := ∀ h τ : Nat → Nat, (∀ l, l < r → h l < N) → (∀ p, p < r → τ p < K) → e ∣ dt (List.range' 0 r) (fun l p => X (h l) (τ p))
theorem Dv.r {N K r : Nat} {e : Int} {X : Nat → Nat → Int} (hX : Dv N K r e X) {a b : Nat} (c : Int) (ha : a < N) (hb : b < N) : Dv N K r e (rAdd a b c X) := by
  intro h τ hh hτ
  have key : ∀ m, m ≤ r → ∀ h : Nat → Nat, (∀ l, l < r → h l < N) → e ∣ dt (List.range' 0 r) (fun l p => if l < m then rAdd a b c X (h l) (τ p) else X (h l) (τ p)) := by
    intro m
    induction m with
    | zero =>
      intro _ h hh
      have := hX h τ hh hτ
      rw [dt_congr (g := fun l p => X (h l) (τ p)) (fun l _ j _ => by rw [if_neg (by omega)])]
      exact this
    | succ m ih =>
      intro hm h hh
      by_cases q : h m = a
      · have e1 : dt (List.range' 0 r) (fun l p => if l < m + 1 then rAdd a b c X (h l) (τ p) else X (h l) (τ p)) = dt (List.range' 0 r) (fup (fun l p => if l < m then rAdd a b c X (h l) (τ p) else X (h l) (τ p)) m (fun p => X a (τ p) + c * X b (τ p))) := dt_congr (fun l _ j _ => by
          unfold fup
          by_cases w : l = m
          · subst w; rw [if_pos (by omega), if_pos rfl, q]; unfold rAdd; rw [if_pos rfl]
          · rw [if_neg w]
            show _ = (if l < m then rAdd a b c X (h l) (τ j) else X (h l) (τ j))
            by_cases w2 : l < m
            · rw [if_pos (by omega), if_pos w2]
            · rw [if_neg (by omega), if_neg w2])
        rw [e1, dt_lin (fun p => X a (τ p)) (fun p => X b (τ p)) c (by simp; omega)]
        refine Int.dvd_add ?_ (Int.dvd_trans ?_ (Int.dvd_mul_left _ _))
        · have := ih (by omega) h hh
          rw [dt_congr (g := fun l p => if l < m then rAdd a b c X (h l) (τ p) else X (h l) (τ p)) (fun l _ j _ => by
            unfold fup
            by_cases w : l = m
            · rw [if_pos w, w, if_neg (by omega), q]
            · rw [if_neg w])]
          exact this
        · have := ih (by omega) (fun l => if l = m then b else h l) (fun l hl => by
            show (if l = m then b else h l) < N
            split
            · exact hb
            · exact hh l hl)
          rw [dt_congr (g := fun l p => if l < m then rAdd a b c X ((fun l => if l = m then b else h l) l) (τ p) else X ((fun l => if l = m then b else h l) l) (τ p)) (fun l _ j _ => by
            unfold fup
            by_cases w : l = m
            · rw [if_pos w, w, if_neg (by omega)]
              simp only [if_pos]
            · rw [if_neg w]
              simp only [if_neg w])]
          exact this
      · have := ih (by omega) h hh
        rw [dt_congr (g := fun l p => if l < m then rAdd a b c X (h l) (τ p) else X (h l) (τ p)) (fun l _ j _ => by
          by_cases w : l = m
          · subst w
            rw [if_pos (by omega), if_neg (by omega)]
            unfold rAdd; rw [if_neg q]
          · by_cases w2 : l < m
            · rw [if_pos (by omega), if_pos w2]
            · rw [if_neg (by omega), if_neg w2])]
        exact this
  have := key r (Nat.le_refl _) h hh
  rw [dt_congr (g := fun l p => rAdd a b c X (h l) (τ p)) (fun l hl j _ => by
    rw [if_pos (by simpa using hl)])] at this
  exact this
theorem Dv.c {N K r : Nat} {e : Int} {X : Nat → Nat → Int} (hX : Dv N K r e X) {a b : Nat} (c : Int) (ha : a < K) (hb : b < K) : Dv N K r e (cAdd a b c X) := by
  intro h τ hh hτ
  have hnd : (List.range' 0 r).Nodup := List.nodup_range' (step := 1)
  have key : ∀ m, m ≤ r → ∀ τ : Nat → Nat, (∀ l, l < r → τ l < K) → e ∣ dt (List.range' 0 r) (fun l p => if p < m then cAdd a b c X (h l) (τ p) else X (h l) (τ p)) := by
    intro m
    induction m with
    | zero =>
      intro _ τ hτ
      have := hX h τ hh hτ
      rw [dt_congr (g := fun l p => X (h l) (τ p)) (fun l _ j _ => by rw [if_neg (by omega)])]
      exact this
    | succ m ih =>
      intro hm τ hτ
      by_cases q : τ m = a
      · have e1 : dt (List.range' 0 r) (fun l p => if p < m + 1 then cAdd a b c X (h l) (τ p) else X (h l) (τ p)) = dt (List.range' 0 r) (cup (fun l p => if p < m then cAdd a b c X (h l) (τ p) else X (h l) (τ p)) m (fun l => X (h l) a + c * X (h l) b)) := dt_congr (fun l _ j _ => by
          unfold cup
          by_cases w : j = m
          · subst w; rw [if_pos (by omega), if_pos rfl, q]; unfold cAdd; rw [if_pos rfl]
          · rw [if_neg w]
            show _ = (if j < m then cAdd a b c X (h l) (τ j) else X (h l) (τ j))
            by_cases w2 : j < m
            · rw [if_pos (by omega), if_pos w2]
            · rw [if_neg (by omega), if_neg w2])
        rw [e1, dt_clin (fun l => X (h l) a) (fun l => X (h l) b) c hnd (List.mem_range'_1.2 (by omega))]
        refine Int.dvd_add ?_ (Int.dvd_trans ?_ (Int.dvd_mul_left _ _))
        · have := ih (by omega) τ hτ
          rw [dt_congr (g := fun l p => if p < m then cAdd a b c X (h l) (τ p) else X (h l) (τ p)) (fun l _ j _ => by
            unfold cup
            by_cases w : j = m
            · rw [if_pos w, w, if_neg (by omega), q]
            · rw [if_neg w])]
          exact this
        · have := ih (by omega) (fun l => if l = m then b else τ l) (fun l hl => by
            show (if l = m then b else τ l) < K
            split
            · exact hb
            · exact hτ l hl)
          rw [dt_congr (g := fun l p => if p < m then cAdd a b c X (h l) ((fun l => if l = m then b else τ l) p) else X (h l) ((fun l => if l = m then b else τ l) p)) (fun l _ j _ => by
            unfold cup
            by_cases w : j = m
            · rw [if_pos w, w, if_neg (by omega)]
              simp only [if_pos]
            · rw [if_neg w]
              simp only [if_neg w])]
          exact this
      · have := ih (by omega) τ hτ
        rw [dt_congr (g := fun l p => if p < m then cAdd a b c X (h l) (τ p) else X (h l) (τ p)) (fun l _ j _ => by
          by_cases w : j = m
          · subst w
            rw [if_pos (by omega), if_neg (by omega)]
            unfold cAdd; rw [if_neg q]
          · by_cases w2 : j < m
            · rw [if_pos (by omega), if_pos w2]
            · rw [if_neg (by omega), if_neg w2])]
        exact this
  have := key r (Nat.le_refl _) τ hτ
  rw [dt_congr (g := fun l p => cAdd a b c X (h l) (τ p)) (fun l _ j hj => by
    rw [if_pos (by have := List.mem_range'_1.1 hj; omega)])] at this
  exact this
/-- strictly ascending -/
def Asc (r : Nat) (h : Nat → Nat) : Prop := ∀ l, l + 1 < r → h l < h (l + 1)
def wgt (r : Nat) (h : Nat → Nat) : Nat := sumN r (fun l => (r - l) * h l)
theorem sumN_two {r a b : Nat} {f g : Nat → Nat} (ha : a < r) (hb : b < r) (hab : a ≠ b) (h : ∀ l, l < r → l ≠ a → l ≠ b → f l = g l) : sumN r f + (g a + g b) = sumN r g + (f a + f b) := by
  have one : ∀ (r a : Nat) (f : Nat → Nat), a < r → sumN r f = sumN r (fun l => if l = a then 0 else f l) + f a := by
    intro r
    induction r with
    | zero => intro a f h; omega
    | succ r ih =>
      intro a f h
      rw [sumN, sumN]
      by_cases e : a = r
      · subst e
        rw [sumN_congr (f := f) (g := fun l => if l = a then 0 else f l) (fun l hl => by rw [if_neg (by omega)]), if_pos rfl]; omega
      · rw [ih a f (by omega), if_neg (fun q => e q.symm)]; omega
  have e1 := one r a f ha
  have e2 := one r b (fun l => if l = a then 0 else f l) hb
  have e3 := one r a g ha
  have e4 := one r b (fun l => if l = a then 0 else g l) hb
  rw [if_neg (fun q => hab q.symm)] at e2 e4
  have e5 : sumN r (fun l => if l = b then 0 else if l = a then 0 else f l) = sumN r (fun l => if l = b then 0 else if l = a then 0 else g l) := sumN_congr (fun l hl => by
    by_cases q1 : l = b
    · rw [if_pos q1, if_pos q1]
    · rw [if_neg q1, if_neg q1]
      by_cases q2 : l = a
      · rw [if_pos q2, if_pos q2]
      · rw [if_neg q2, if_neg q2]; exact h l hl q2 q1)
  omega
theorem wgt_swap {r l : Nat} {h h' : Nat → Nat} (hl : l + 1 < r) (hd : h (l + 1) < h l) (e1 : h' l = h (l + 1)) (e2 : h' (l + 1) = h l) (e3 : ∀ i, i ≠ l → i ≠ l + 1 → h' i = h i) : wgt r h' < wgt r h := by
  have e := sumN_two (r := r) (a := l) (b := l + 1) (f := fun i => (r - i) * h' i) (g := fun i => (r - i) * h i) (by omega) hl (by omega) (fun i _ h1 h2 => by
    show (r - i) * h' i = (r - i) * h i
    rw [e3 i h1 h2])
  unfold wgt
  generalize sumN r (fun i => (r - i) * h' i) = S1 at *
  generalize sumN r (fun i => (r - i) * h i) = S2 at *
  obtain ⟨k, hk⟩ : ∃ k, r - l = k + 1 := ⟨r - l - 1, by omega⟩
  have hk2 : r - (l + 1) = k := by omega
  rw [e1, e2, hk, hk2, Nat.add_mul, Nat.add_mul, Nat.one_mul, Nat.one_mul] at e
  omega
/-- the rows may be sorted -/
theorem sort_rows {r : Nat} {e : Int} {X : Nat → Nat → Int} {N : Nat} {τ : Nat → Nat} (hs : ∀ h : Nat → Nat, (∀ l, l < r → h l < N) → Asc r h → e ∣ dt (List.range' 0 r) (fun l p => X (h l) (τ p))) :
    ∀ (w : Nat) (h : Nat → Nat), (∀ l, l < r → h l < N) → wgt r h < w → e ∣ dt (List.range' 0 r) (fun l p => X (h l) (τ p))
  | 0, h, _, hw => by omega
  | w + 1, h, hh, hw => by
    by_cases q : Asc r h
    · exact hs h hh q
    · obtain ⟨l, hl⟩ := Classical.not_forall.1 q
      obtain ⟨l1, l2⟩ := Classical.not_imp.1 hl
      by_cases c : h l = h (l + 1)
      · rw [dt_adj (k := l) (by simpa using l1) (fun j _ => by rw [c])]
        exact Int.dvd_zero _
      · have h1 := sort_rows hs w (fun i => h (if i = l then l + 1 else if i = l + 1 then l else i)) (fun i hi => hh _ (by
          split
          · omega
          · split <;> omega)) (by have := wgt_swap (h' := fun i => h (if i = l then l + 1 else if i = l + 1 then l else i)) l1 (h := h) (by have := hl; omega) (by simp) (by simp) (fun i a b => by simp [a, b]); omega)
        have h2 := dt_swap_adj (J := List.range' 0 r) (f := fun l p => X (h l) (τ p)) (k := l) (by simpa using l1)
        rw [dt_congr (g := fun i p => X (h (if i = l then l + 1 else if i = l + 1 then l else i)) (τ p)) (fun i _ j _ => by
          unfold fup
          by_cases a : i = l + 1
          · rw [if_pos a, if_neg (by omega), if_pos a]
          · rw [if_neg a]
            by_cases b : i = l
            · rw [if_pos b, if_pos b]
            · rw [if_neg b, if_neg b, if_neg a])] at h2
        rw [h2] at h1
        exact Int.dvd_neg.1 h1
theorem sort_cols {r : Nat} {e : Int} {X : Nat → Nat → Int} {K : Nat} {h : Nat → Nat} (hs : ∀ τ : Nat → Nat, (∀ l, l < r → τ l < K) → Asc r τ → e ∣ dt (List.range' 0 r) (fun l p => X (h l) (τ p))) :
    ∀ (w : Nat) (τ : Nat → Nat), (∀ l, l < r → τ l < K) → wgt r τ < w → e ∣ dt (List.range' 0 r) (fun l p => X (h l) (τ p))
  | 0, τ, _, hw => by omega
  | w + 1, τ, hh, hw => by
    by_cases q : Asc r τ
    · exact hs τ hh q
    · obtain ⟨l, hl⟩ := Classical.not_forall.1 q
      obtain ⟨l1, l2⟩ := Classical.not_imp.1 hl
      by_cases c : τ l = τ (l + 1)
      · rw [dt_cadj r 0 (p := l) (by omega) (by omega) (fun i => by rw [c])]
        exact Int.dvd_zero _
      · have h1 := sort_cols hs w (fun i => τ (if i = l then l + 1 else if i = l + 1 then l else i)) (fun i hi => hh _ (by
          split
          · omega
          · split <;> omega)) (by have := wgt_swap (h' := fun i => τ (if i = l then l + 1 else if i = l + 1 then l else i)) l1 (h := τ) (by have := hl; omega) (by simp) (by simp) (fun i a b => by simp [a, b]); omega)
        have h2 := dt_cswap (r := r) (f := fun l p => X (h l) (τ p)) (p := l) l1
        rw [h2] at h1
        exact Int.dvd_neg.1 h1
theorem Dv.of_sorted {N K r : Nat} {e : Int} {X : Nat → Nat → Int} (hs : ∀ h τ : Nat → Nat, (∀ l, l < r → h l < N) → (∀ p, p < r → τ p < K) → Asc r h → Asc r τ → e ∣ dt (List.range' 0 r) (fun l p => X (h l) (τ p))) : Dv N K r e X := by
  intro h τ hh hτ
  exact sort_cols (fun τ hτ aτ => sort_rows (fun h hh ah => hs h τ hh hτ ah aτ) (wgt r h + 1) h hh (by omega)) (wgt r τ + 1) τ hτ (by omega)
theorem Asc.ge {r : Nat} {h : Nat → Nat} (a : Asc r h) : ∀ l, l < r → l ≤ h l
  | 0, _ => Nat.zero_le _
  | l + 1, hl => by
    have h1 := Asc.ge a l (by omega)
    have := a l hl
    omega
theorem prodI_dvd {r : Nat} {f g : Nat → Int} (h : ∀ l, l < r → f l ∣ g l) : prodI r f ∣ prodI r g := by
  induction r with
  | zero => exact Int.dvd_refl _
  | succ r ih =>
    rw [prodI, prodI]
    exact Int.mul_dvd_mul (ih (fun l hl => h l (by omega))) (h r (by omega))
theorem dt_rowmul {J : List Nat} (c : Nat → Int) (f : Nat → Nat → Int) : ∀ m, m ≤ J.length → dt J (fun l j => if l < m then c l * f l j else f l j) = prodI m c * dt J f
  | 0, _ => by
    rw [dt_congr (g := f) (fun l _ j _ => by rw [if_neg (by omega)])]; simp [prodI]
  | m + 1, hm => by
    have e1 : dt J (fun l j => if l < m + 1 then c l * f l j else f l j) = dt J (fup (fun l j => if l < m then c l * f l j else f l j) m (fun j => c m * f m j)) := dt_congr (fun l _ j _ => by
      unfold fup
      by_cases w : l = m
      · rw [if_pos w, w, if_pos (by omega)]
      · rw [if_neg w]
        show _ = (if l < m then c l * f l j else f l j)
        by_cases w2 : l < m
        · rw [if_pos (by omega), if_pos w2]
        · rw [if_neg (by omega), if_neg w2])
    have e2 : fup (fun l j => if l < m then c l * f l j else f l j) m (f m) = fun l j => if l < m then c l * f l j else f l j := by
      funext l j
      unfold fup
      by_cases w : l = m
      · rw [if_pos w, w, if_neg (by omega)]
      · rw [if_neg w]
    rw [e1, dt_mul (f m) (c m) (by omega), e2, dt_rowmul c f m (by omega), prodI, Int.mul_right_comm, Int.mul_comm]
/-- at a diagonal chain -/
theorem Dv.diag {N K r : Nat} {e : Int} {X : Nat → Nat → Int} (hrN : r ≤ N) (hrK : r ≤ K) (hz : ∀ i j, i < N → j < K → i ≠ j → X i j = 0) (hc : ∀ a b, a < b → b < N → b < K → X a a ∣ X b b) : Dv N K r e X ↔ e ∣ prodI r (fun i => X i i) := by
  constructor
  · intro h
    have h1 := h (fun l => l) (fun p => p) (fun l hl => by omega) (fun p hp => by omega)
    rw [dt_tri r 0 (fun l p => X l p) (fun l j hl hj hlt => by rw [Nat.zero_add]; exact hz l j (by omega) (by omega) (by omega))] at h1
    rw [prodI_congr (g := fun i => X i i) (fun l _ => by rw [Nat.zero_add])] at h1
    exact h1
  · intro he
    refine Dv.of_sorted (fun h τ hh hτ ah aτ => ?_)
    by_cases q : ∀ l, l < r → h l < K
    · have e1 : dt (List.range' 0 r) (fun l p => X (h l) (τ p)) = prodI r (fun l => X (h l) (h l)) * dt (List.range' 0 r) (fun l p => if h l = τ p then 1 else 0) := by
        have := dt_rowmul (J := List.range' 0 r) (fun l => X (h l) (h l)) (fun l p => if h l = τ p then 1 else 0) r (by simp)
        rw [← this]
        refine dt_congr (fun l hl p hp => ?_)
        have hl' : l < r := by simpa using hl
        have hp' := List.mem_range'_1.1 hp
        rw [if_pos hl']
        by_cases w : h l = τ p
        · rw [if_pos w, ← w, Int.mul_one]
        · rw [if_neg w, Int.mul_zero]
          exact hz _ _ (hh l hl') (hτ p (by omega)) w
      rw [e1]
      refine Int.dvd_trans (Int.dvd_trans he (prodI_dvd (fun l hl => ?_))) (Int.dvd_mul_right _ _)
      have := ah.ge l hl
      rcases Nat.eq_or_lt_of_le this with w | w
      · rw [← w]; exact Int.dvd_refl _
      · exact hc _ _ w (hh l hl) (q l hl)
    · obtain ⟨l, hl⟩ := Classical.not_forall.1 q
      obtain ⟨l1, l2⟩ := Classical.not_imp.1 hl
      have e1 : dt (List.range' 0 r) (fun l p => X (h l) (τ p)) = dt (List.range' 0 r) (fup (fun l p => X (h l) (τ p)) l (fun _ => 0)) := dt_congr (fun i hi p hp => by
        have hp' := List.mem_range'_1.1 hp
        have := hτ p (by omega)
        unfold fup
        by_cases w : i = l
        · rw [if_pos w, w]; exact hz _ _ (hh l l1) this (by omega)
        · rw [if_neg w])
      rw [e1, dt_zero (by simpa using l1)]
      exact Int.dvd_zero _
end Go.Proofs.Ytcjaloddgilnpaa

namespace Go.Proofs.Ytcjaloddgilnpaa
set_option linter.unusedVariables false

/-- without the first row and column k -/
def wo (k : Nat) (m : List (List Int)) : List (List Int) := m.tail.map fun r => r.eraseIdx k
/-- the determinant, along the first row -/
def detR : Nat → List (List Int) → Int
  | 0, _ => 1
  | n + 1, m => sumI (n + 1) (fun k => sgn k * gi (m.headD []) k * detR n (wo k m))
/-- a square matrix -/
def Sqr (n : Nat) (m : List (List Int)) : Prop := m.length = n ∧ ∀ r ∈ m, r.length = n
theorem Sqr.wo {n k : Nat} {m : List (List Int)} (h : Sqr (n + 1) m) (hk : k < n + 1) : Sqr n (wo k m) := by
  unfold Go.Proofs.Ytcjaloddgilnpaa.wo
  refine ⟨by simp [h.1], fun r hr => ?_⟩
  obtain ⟨q, hq, rfl⟩ := List.mem_map.1 hr
  have := h.2 q (List.mem_of_mem_tail hq)
  rw [List.length_eraseIdx, if_pos (by omega)]; omega
theorem gi_erase (r : List Int) (k l : Nat) : gi (r.eraseIdx k) l = gi r (skp k l) := by
  unfold gi skp
  rw [List.getElem?_eraseIdx]
  split <;> rfl
theorem det_range1 (n : Nat) (f : Nat → Nat → Int) : dt (List.range' 1 n) f = dt (List.range' 0 n) (fun l j => f l (j + 1)) := by
  rw [← dt_map (fun j => j + 1)]
  congr 1
  have e : (fun j => j + 1) = fun j => 1 + j := by funext j; omega
  rw [e, List.map_add_range']
theorem gi_wo {m : List (List Int)} {k j l : Nat} : gi ((wo k m)[j]?.getD []) l = gi (m[j + 1]?.getD []) (skp k l) := by
  unfold wo
  rw [List.getElem?_map, List.getElem?_tail]
  cases m[j + 1]? with
  | none => simp [gi]
  | some r => exact gi_erase r k l
theorem detR_dt : ∀ (n : Nat) (m : List (List Int)), Sqr n m → detR n m = dt (List.range' 0 n) (fun l j => gi (m[j]?.getD []) l)
  | 0, m, _ => rfl
  | n + 1, m, h => by
    rw [detR, List.range'_succ, dt, List.length_range']
    refine sumI_congr (fun k hk => ?_)
    have e0 : m.headD [] = m[0]?.getD [] := by cases m <;> rfl
    rw [detR_dt n (wo k m) (h.wo hk), det_range1, e0]
    congr 1
    exact dt_congr (fun l _ j _ => gi_wo)
/-- bit i -/
def bt (x i : Nat) : Bool := decide (x / 2 ^ i % 2 = 1)
/-- the places whose bits are set -/
def sel (n x : Nat) : List Nat := (List.range n).filter (bt x)
def bitN (x : Nat) : Nat := if h : x = 0 then 0 else x % 2 + bitN (x / 2)
  termination_by x
theorem bitN_zero : bitN 0 = 0 := by rw [bitN]; rfl
theorem bitN_step {x : Nat} (h : x ≠ 0) : bitN x = x % 2 + bitN (x / 2) := by rw [bitN, dif_neg h]
theorem sel_succ (n x : Nat) : sel (n + 1) x = (if x % 2 = 1 then [0] else []) ++ (sel n (x / 2)).map (· + 1) := by
  unfold sel
  rw [List.range_succ_eq_map, List.filter_cons, List.filter_map]
  have e1 : (bt x ∘ Nat.succ) = bt (x / 2) := by
    funext i
    show bt x (i + 1) = bt (x / 2) i
    unfold bt
    rw [Nat.pow_succ', Nat.div_div_eq_div_mul]
  rw [e1]
  have e2 : bt x 0 = decide (x % 2 = 1) := by unfold bt; simp
  rw [e2]
  by_cases q : x % 2 = 1
  · simp [q]
  · simp [q]
theorem sel_length : ∀ (n x : Nat), x < 2 ^ n → (sel n x).length = bitN x
  | 0, x, h => by
    have : x = 0 := by simpa using h
    subst this
    rw [bitN_zero]; rfl
  | n + 1, x, h => by
    rw [sel_succ, List.length_append, List.length_map, sel_length n (x / 2) (by rw [Nat.pow_succ] at h; omega)]
    by_cases q : x = 0
    · subst q
      rw [show (0 : Nat) / 2 = 0 from rfl, bitN_zero]; rfl
    · rw [bitN_step q]
      by_cases w : x % 2 = 1
      · rw [if_pos w, w]; rfl
      · rw [if_neg w, show x % 2 = 0 by omega]; rfl
theorem sel_lt {n x i : Nat} (h : i ∈ sel n x) : i < n := List.mem_range.1 (List.mem_filter.1 h).1
/-- the matrix of the rows and columns whose bits are set -/
def pickF (rows : List (List Int)) (n C r c : Nat) : List (List Int) := (sel n r).map fun i => (sel C c).map fun k => gi (rows[i]?.getD []) k
theorem pickF_sqr {rows : List (List Int)} {n C r c k : Nat} (hr : (sel n r).length = k) (hc : (sel C c).length = k) : Sqr k (pickF rows n C r c) := by
  unfold pickF
  refine ⟨by rw [List.length_map, hr], fun q hq => ?_⟩
  obtain ⟨i, _, rfl⟩ := List.mem_map.1 hq
  rw [List.length_map, hc]
theorem pickF_det {rows : List (List Int)} {n C r c k : Nat} (hr : (sel n r).length = k) (hc : (sel C c).length = k) : detR k (pickF rows n C r c) = dt (List.range' 0 k) (fun l p => matZ rows (gn (sel n r) p) (gn (sel C c) l)) := by
  rw [detR_dt k _ (pickF_sqr hr hc)]
  refine dt_congr (fun l hl p hp => ?_)
  have hp' := List.mem_range'_1.1 hp
  have hl' : l < k := by simpa using hl
  unfold pickF matZ
  rw [List.getElem?_map, List.getElem?_eq_getElem (show p < (sel n r).length by omega)]
  simp only [Option.map_some, Option.getD_some]
  have e1 : gn (sel n r) p = (sel n r)[p]'(by omega) := by unfold gn; rw [List.getElem?_eq_getElem (by omega)]; rfl
  have e2 : gn (sel C c) l = (sel C c)[l]'(by omega) := by unfold gn; rw [List.getElem?_eq_getElem (by omega)]; rfl
  rw [e1, e2]
  show ((sel C c).map _)[l]?.getD 0 = _
  rw [List.getElem?_map, List.getElem?_eq_getElem (show l < (sel C c).length by omega)]; rfl
/-- every ascending choice is one by bits -/
theorem sel_asc : ∀ (n k : Nat) (τ : Nat → Nat), (∀ p, p < k → τ p < n) → Asc k τ → (List.range n).filter (fun i => decide (∃ p, p < k ∧ τ p = i)) = (List.range k).map τ
  | 0, k, τ, h, _ => by
    rcases Nat.eq_zero_or_pos k with q | q
    · subst q; rfl
    · have := h 0 q; omega
  | n + 1, k, τ, h, a => by
    have mono : ∀ d p, p + d + 1 < k → τ p < τ (p + d + 1) := by
      intro d
      induction d with
      | zero => intro p hp; exact a p hp
      | succ d ih => intro p hp; exact Nat.lt_trans (ih p (by omega)) (a (p + d + 1) (by omega))
    rw [List.range_succ, List.filter_append]
    by_cases q : ∃ p, p < k ∧ τ p = n
    · obtain ⟨p, hp, hpn⟩ := q
      have hk : p = k - 1 := by
        rcases Nat.lt_or_ge p (k - 1) with w | w
        · have h1 := mono (k - 1 - p - 1) p (by omega)
          rw [show p + (k - 1 - p - 1) + 1 = k - 1 by omega] at h1
          have h2 := h (k - 1) (by omega)
          omega
        · omega
      obtain ⟨k', rfl⟩ : ∃ k', k = k' + 1 := ⟨k - 1, by omega⟩
      have hk2 : p = k' := by omega
      subst hk2
      have ih := sel_asc n p τ (fun x hx => by
        have h1 := mono (p - x - 1) x (by omega)
        rw [show x + (p - x - 1) + 1 = p by omega] at h1
        omega) (fun l hl => a l (by omega))
      have e1 : (List.range n).filter (fun i => decide (∃ x, x < p + 1 ∧ τ x = i)) = (List.range n).filter (fun i => decide (∃ x, x < p ∧ τ x = i)) := List.filter_congr (fun i hi => by
        have hi' := List.mem_range.1 hi
        rw [decide_eq_decide]
        constructor
        · rintro ⟨x, hx, rfl⟩
          exact ⟨x, by
            rcases Nat.lt_or_ge x p with w | w
            · exact w
            · have : x = p := by omega
              subst this; omega, rfl⟩
        · rintro ⟨x, hx, rfl⟩
          exact ⟨x, by omega, rfl⟩)
      rw [e1, ih, List.range_succ, List.map_append]
      congr 1
      rw [List.filter_cons, if_pos (decide_eq_true ⟨p, by omega, hpn⟩)]
      simp [hpn]
    · have ih := sel_asc n k τ (fun x hx => by
        have h1 := h x hx
        have : τ x ≠ n := fun e => q ⟨x, hx, e⟩
        omega) a
      rw [ih, List.filter_cons, if_neg (by simpa using q)]
      simp
theorem sel_of_asc {n k : Nat} {τ : Nat → Nat} (h : ∀ p, p < k → τ p < n) (a : Asc k τ) : ∃ x, x < 2 ^ n ∧ sel n x = (List.range k).map τ := by
  obtain ⟨χ, hχ⟩ : ∃ χ : Nat → Nat, χ = fun i => if ∃ p, p < k ∧ τ p = i then 1 else 0 := ⟨_, rfl⟩
  have hlt : ∀ j, j < n → χ j < 2 := fun j _ => by rw [hχ]; simp only; split <;> omega
  refine ⟨enc 2 χ n, enc_lt (by omega) hlt, ?_⟩
  rw [← sel_asc n k τ h a]
  unfold sel
  refine List.filter_congr (fun i hi => ?_)
  have hi' := List.mem_range.1 hi
  have e1 := dg_enc (show 0 < 2 by omega) hlt hi'
  unfold bt
  unfold dg at e1
  rw [e1, hχ, decide_eq_decide]
  simp only
  constructor
  · intro w
    by_cases q : ∃ p, p < k ∧ τ p = i
    · exact q
    · rw [if_neg q] at w; omega
  · intro w; rw [if_pos w]
/-- what all minors of the reference divide -/
def GdN (rows : List (List Int)) (n C k : Nat) (e : Nat) : Prop := ∀ r c, r < 2 ^ n → c < 2 ^ C → bitN r = k → bitN c = k → (e : Int) ∣ detR k (pickF rows n C r c)
theorem gdN_dv {rows : List (List Int)} {n C k e : Nat} : GdN rows n C k e ↔ Dv C n k (e : Int) (fun i j => matZ rows j i) := by
  constructor
  · intro h
    refine Dv.of_sorted (fun f τ hf hτ af aτ => ?_)
    obtain ⟨r, hr, er⟩ := sel_of_asc hτ aτ
    obtain ⟨c, hc, ec⟩ := sel_of_asc hf af
    have lr : (sel n r).length = k := by rw [er]; simp
    have lc : (sel C c).length = k := by rw [ec]; simp
    have h1 := h r c hr hc (by rw [← sel_length n r hr, lr]) (by rw [← sel_length C c hc, lc])
    rw [pickF_det lr lc] at h1
    rw [dt_congr (g := fun l p => matZ rows (gn (sel n r) p) (gn (sel C c) l)) (fun l hl p hp => by
      have hp' := List.mem_range'_1.1 hp
      have hl' : l < k := by simpa using hl
      rw [er, ec, gn_map_range, gn_map_range, if_pos (by omega), if_pos hl'])]
    exact h1
  · intro h r c hr hc br bc
    have lr : (sel n r).length = k := by rw [sel_length n r hr, br]
    have lc : (sel C c).length = k := by rw [sel_length C c hc, bc]
    rw [pickF_det lr lc]
    refine h (fun l => gn (sel C c) l) (fun p => gn (sel n r) p) (fun l hl => ?_) (fun p hp => ?_)
    · unfold gn
      rw [List.getElem?_eq_getElem (by omega)]
      exact sel_lt (List.getElem_mem _)
    · unfold gn
      rw [List.getElem?_eq_getElem (by omega)]
      exact sel_lt (List.getElem_mem _)
end Go.Proofs.Ytcjaloddgilnpaa
