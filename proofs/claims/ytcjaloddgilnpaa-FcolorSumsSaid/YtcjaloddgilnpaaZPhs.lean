/- Colorings of unions and connected sums (plain). -/
/- Unions and connected sums of lists of mates: how many colorings (plain). -/
/- slices.Grow of nil, slices.Concat of two. -/
/- A region that draws its order, whose operations leave what was there as it is (they may make memory and call), but for a store at its end: each operation is walked once. -/
import Derived.Test.YtcjaloddgilnpaaZMrp
import Derived.Lib.AppendZerosOnto
import Derived.Test.YtcjaloddgilnpaaZPhi
import Derived.Test.YtcjaloddgilnpaaZTab
namespace Go.Proofs.Ytcjaloddgilnpaa
set_option linter.unusedVariables false

theorem sum4 (g : Nat → Int) : ∀ n, sumI (4 * n) g = sumI n (fun c => g (4 * c) + g (4 * c + 1) + g (4 * c + 2) + g (4 * c + 3))
  | 0 => rfl
  | n + 1 => by
    have e : 4 * (n + 1) = 4 * n + 1 + 1 + 1 + 1 := by omega
    rw [e, sumI, sumI, sumI, sumI, sum4 g n, sumI]
    omega
/-- what goes in at one edge goes out there -/
theorem Plnr.cut {n : Nat} {α fc lab : Nat → Nat} (p : Plnr n α fc lab) {m : Nat} {x : Nat → Nat} {a : Nat} (ha : a < 4 * n) (hx : ∀ h, h < 4 * n → h ≠ a → h ≠ α a → x (α h) = x h)
    (hc : ∀ c, c < n → x (4 * c + 1) = x (4 * c + 3) ∧ (m : Int) ∣ 2 * (x (4 * c + 1) : Int) - (x (4 * c) : Int) - (x (4 * c + 2) : Int)) (hl : ∀ h, h < 4 * n → x h < m) : x (α a) = x a := by
  obtain ⟨s, hs1, hs2⟩ := p.board
  have hS : (m : Int) ∣ sumI (4 * n) (fun h => s (fc h) * (x h : Int)) := by
    rw [sum4]
    have := sumI_mod (m := (m : Int)) (C := n) (f := fun c => s (fc (4 * c)) * (x (4 * c) : Int) + s (fc (4 * c + 1)) * (x (4 * c + 1) : Int) + s (fc (4 * c + 2)) * (x (4 * c + 2) : Int) + s (fc (4 * c + 3)) * (x (4 * c + 3) : Int)) (g := fun _ => 0) (fun c hcn => by
      obtain ⟨a0, a1, a2, a3⟩ := p.around hcn
      have b1 := hs2 (4 * c + 1) (by omega)
      have b2 := hs2 (4 * c + 2) (by omega)
      have b3 := hs2 (4 * c + 3) (by omega)
      rw [a1] at b1
      rw [a2] at b2
      rw [a3] at b3
      obtain ⟨e, q, hq⟩ := hc c hcn
      show (m : Int) ∣ (s (fc (4 * c)) * (x (4 * c) : Int) + s (fc (4 * c + 1)) * (x (4 * c + 1) : Int) + s (fc (4 * c + 2)) * (x (4 * c + 2) : Int) + s (fc (4 * c + 3)) * (x (4 * c + 3) : Int)) - 0
      rw [← e]
      generalize s (fc (4 * c)) = s0 at *
      generalize s (fc (4 * c + 1)) = s1 at *
      generalize s (fc (4 * c + 2)) = s2 at *
      generalize s (fc (4 * c + 3)) = s3 at *
      have e1 : s1 = -s0 := by omega
      have e2 : s2 = s0 := by omega
      have e3 : s3 = -s0 := by omega
      subst e1
      refine ⟨-s0 * q, ?_⟩
      rw [show (m : Int) * (-s0 * q) = -s0 * (m * q) from by rw [Int.mul_left_comm], ← hq, e2, e3]
      simp only [Int.neg_mul, Int.mul_sub, Int.mul_left_comm s0 2]
      omega)
    rw [sumI_zero] at this
    simpa using this
  have hT : sumI (4 * n) (fun h => s (fc h) * (x h : Int)) = s (fc a) * ((x a : Int) - (x (α a) : Int)) := by
    have e1 : sumI (4 * n) (fun h => s (fc h) * (x h : Int)) = sumI (4 * n) (fun h => - (s (fc h) * (x (α h) : Int))) := by
      rw [← sumI_perm p.k.lt p.k.inj (fun h => s (fc h) * (x h : Int))]
      exact sumI_congr fun h hh => by
        show s (fc (α h)) * (x (α h) : Int) = _
        rw [hs2 h hh, Int.neg_mul]
    have e2 : sumI (4 * n) (fun h => s (fc h) * (x h : Int)) + sumI (4 * n) (fun h => - (s (fc h) * (x (α h) : Int))) = sumI (4 * n) (fun h => s (fc h) * ((x h : Int) - (x (α h) : Int))) := by
      rw [← sumI_plus]
      exact sumI_congr fun h _ => by
        show s (fc h) * (x h : Int) + -(s (fc h) * (x (α h) : Int)) = _
        rw [Int.mul_sub]; omega
    have e3 := sumI_two (C := 4 * n) (j := a) (k := α a) (f := fun h => s (fc h) * ((x h : Int) - (x (α h) : Int))) (g := fun _ => 0) ha (p.k.lt a ha) (fun e => p.k.ne a ha e.symm) (fun l hl h1 h2 => by
      show s (fc l) * ((x l : Int) - (x (α l) : Int)) = 0
      rw [hx l hl h1 h2, Int.sub_self, Int.mul_zero])
    rw [sumI_zero] at e3
    have e4 : s (fc (α a)) * ((x (α a) : Int) - (x (α (α a)) : Int)) = s (fc a) * ((x a : Int) - (x (α a) : Int)) := by
      rw [p.k.inv a ha, hs2 a ha, Int.neg_mul, Int.mul_sub, Int.mul_sub]; omega
    simp only [Int.sub_zero, e4] at e3
    omega
  rw [hT] at hS
  have h1 := hl a ha
  have h2 := hl (α a) (p.k.lt a ha)
  have h3 : (m : Int) ∣ (x a : Int) - (x (α a) : Int) := by
    rcases hs1 (fc a) with e | e
    · rw [e, Int.one_mul] at hS; exact hS
    · rw [e, Int.neg_mul, Int.one_mul] at hS; exact Int.dvd_neg.1 hS
  have h4 := Int.eq_zero_of_dvd_of_natAbs_lt_natAbs h3 (by omega)
  omega
theorem dg_modp {e : Nat} (t : Nat) {A j : Nat} (h : j < A) : dg e (t % e ^ A) j = dg e t j := by
  unfold dg
  have e1 : e ^ A = e ^ j * e ^ (A - j) := by rw [← Nat.pow_add]; congr 1; omega
  have e2 : e ∣ e ^ (A - j) := ⟨e ^ (A - j - 1), by rw [← Nat.pow_succ']; congr 1; omega⟩
  rw [e1, Nat.mod_mul_right_div_self, Nat.mod_mod_of_dvd _ e2]
theorem dg_div {e : Nat} (t A j : Nat) : dg e t (A + j) = dg e (t / e ^ A) j := by
  unfold dg
  rw [Nat.pow_add, Nat.div_div_eq_div_mul]
theorem cntV_mul {e : Nat} (he : 0 < e) (A B : Nat) {p q : (Nat → Nat) → Bool} (hp : Loc A p) : cntV e (A + B) (fun x => p x && q (fun j => x (A + j))) = cntV e A p * cntV e B q := by
  unfold cntV
  rw [cN_filter, cN_filter, cN_filter, Nat.pow_add, ← cN_mul (Nat.pow_pos he) (e ^ B) (fun t => p (dg e t)) (fun t => q (dg e t))]
  refine cN_congr fun t _ => ?_
  have e1 : p (dg e t) = p (dg e (t % e ^ A)) := hp _ _ fun j hj => (dg_modp t hj).symm
  have e2 : (fun j => dg e t (A + j)) = dg e (t / e ^ A) := funext fun j => dg_div t A j
  show (p (dg e t) && q (fun j => dg e t (A + j))) = _
  rw [e1, e2]
theorem cntV_one (e : Nat) : cntV e 1 (fun _ => true) = e := by
  unfold cntV
  rw [cN_filter, Nat.pow_one, cN_true]
section
variable {na nb : Nat} {α β μ : Nat → Nat} {m : Nat} {x : Nat → Nat}
/-- the crossings of both -/
theorem fox_cross (P : Nat → Nat → Nat → Nat → Prop) : (∀ c, c < na + nb → P (x (4 * c)) (x (4 * c + 1)) (x (4 * c + 2)) (x (4 * c + 3))) ↔ (∀ c, c < na → P (x (4 * c)) (x (4 * c + 1)) (x (4 * c + 2)) (x (4 * c + 3))) ∧ ∀ c, c < nb → P (x (4 * na + 4 * c)) (x (4 * na + (4 * c + 1))) (x (4 * na + (4 * c + 2))) (x (4 * na + (4 * c + 3))) := by
  constructor
  · intro h
    refine ⟨fun c hc => h c (by omega), fun c hc => ?_⟩
    have := h (na + c) (by omega)
    rw [show 4 * (na + c) = 4 * na + 4 * c by omega] at this
    exact this
  · rintro ⟨h1, h2⟩ c hc
    by_cases e : c < na
    · exact h1 c e
    · have := h2 (c - na) (by omega)
      rw [show 4 * na + 4 * (c - na) = 4 * c by omega, show 4 * na + (4 * (c - na) + 1) = 4 * c + 1 by omega, show 4 * na + (4 * (c - na) + 2) = 4 * c + 2 by omega, show 4 * na + (4 * (c - na) + 3) = 4 * c + 3 by omega] at this
      exact this
theorem fox_union (h1 : ∀ h, h < 4 * na → μ h = α h) (h2 : ∀ h, h < 4 * nb → μ (4 * na + h) = 4 * na + β h) : Fox (na + nb) μ m x ↔ Fox na α m x ∧ Fox nb β m (fun j => x (4 * na + j)) := by
  unfold Fox
  rw [fox_cross (fun u o v w => o = w ∧ (m : Int) ∣ 2 * (o : Int) - (u : Int) - (v : Int))]
  constructor
  · rintro ⟨a, b, c⟩
    refine ⟨⟨fun h hh => by rw [← h1 h hh]; exact a h (by omega), b⟩, fun h hh => ?_, c⟩
    show x (4 * na + β h) = x (4 * na + h)
    rw [← h2 h hh]; exact a _ (by omega)
  · rintro ⟨⟨a, b⟩, a', c⟩
    refine ⟨fun h hh => ?_, b, c⟩
    by_cases e : h < 4 * na
    · rw [h1 h e]; exact a h e
    · have := a' (h - 4 * na) (by omega)
      have e1 : 4 * na + (h - 4 * na) = h := by omega
      have e2 := h2 (h - 4 * na) (by omega)
      rw [e1] at e2
      rw [e2]
      have e3 : x (4 * na + β (h - 4 * na)) = x (4 * na + (h - 4 * na)) := this
      rw [e3, e1]
theorem nFox_union (hm : 0 < m) (hα : ∀ h, h < 4 * na → α h < 4 * na) (h1 : ∀ h, h < 4 * na → μ h = α h) (h2 : ∀ h, h < 4 * nb → μ (4 * na + h) = 4 * na + β h) : nFox (na + nb) μ m = nFox na α m * nFox nb β m := by
  unfold nFox
  rw [← cntV_mul hm _ _ (foxB_loc hα), show 4 * (na + nb) = 4 * na + 4 * nb by omega]
  refine cntV_congr fun x => ?_
  rw [Bool.eq_iff_iff, Bool.and_eq_true, foxB_iff, foxB_iff, foxB_iff]
  exact fox_union h1 h2
theorem dvd_shift {m : Nat} (t : Nat) {o u v : Nat} (h : (m : Int) ∣ 2 * (o : Int) - (u : Int) - (v : Int)) : (m : Int) ∣ 2 * (((o + t) % m : Nat) : Int) - (((u + t) % m : Nat) : Int) - (((v + t) % m : Nat) : Int) := by
  obtain ⟨q, hq⟩ := h
  have f : ∀ z : Nat, ((z % m : Nat) : Int) = (z : Int) - (m : Int) * ((z / m : Nat) : Int) := fun z => by
    have := Nat.div_add_mod z m
    have h2 : ((m * (z / m) + z % m : Nat) : Int) = (z : Int) := by rw [this]
    rw [Int.natCast_add, Int.natCast_mul] at h2
    omega
  rw [f, f, f]
  refine ⟨q - 2 * (((o + t) / m : Nat) : Int) + (((u + t) / m : Nat) : Int) + (((v + t) / m : Nat) : Int), ?_⟩
  have d1 : (m : Int) * (q - 2 * (((o + t) / m : Nat) : Int) + (((u + t) / m : Nat) : Int) + (((v + t) / m : Nat) : Int)) = m * q - 2 * (m * (((o + t) / m : Nat) : Int)) + m * (((u + t) / m : Nat) : Int) + m * (((v + t) / m : Nat) : Int) := by
    rw [Int.mul_add, Int.mul_add, Int.mul_sub, Int.mul_left_comm (m : Int) 2]
  rw [d1, ← hq, Int.natCast_add, Int.natCast_add, Int.natCast_add]
  generalize (m : Int) * (((o + t) / m : Nat) : Int) = z1
  generalize (m : Int) * (((u + t) / m : Nat) : Int) = z2
  generalize (m : Int) * (((v + t) / m : Nat) : Int) = z3
  omega
theorem Fox.shift {n : Nat} (h : Fox n α m x) (t : Nat) : Fox n α m (fun j => (x j + t) % m) :=
  ⟨fun a ha => by show (x (α a) + t) % m = _; rw [h.1 a ha], fun c hc => ⟨by show (x (4 * c + 1) + t) % m = (x (4 * c + 3) + t) % m; rw [(h.2 c hc).1], dvd_shift t (h.2 c hc).2⟩⟩
end
/-- the half-edges of a sum -/
structure Smd (na nb : Nat) (α β μ : Nat → Nat) (a b : Nat) : Prop where
  ha : a < 4 * na
  hb : b < 4 * nb
  m1 : ∀ h, h < 4 * na → h ≠ a → h ≠ α a → μ h = α h
  m2 : ∀ h, h < 4 * nb → h ≠ b → h ≠ β b → μ (4 * na + h) = 4 * na + β h
  ma : μ a = 4 * na + β b
  ma2 : μ (α a) = 4 * na + b
  mb : μ (4 * na + b) = α a
  mb2 : μ (4 * na + β b) = a
section
variable {na nb : Nat} {α β μ : Nat → Nat} {a b m : Nat} {x : Nat → Nat} {f1 l1 f2 l2 : Nat → Nat}
theorem Smd.fox (s : Smd na nb α β μ a b) (pa : Plnr na α f1 l1) (pb : Plnr nb β f2 l2) (hx : ∀ h, h < 4 * (na + nb) → x h < m) : Fox (na + nb) μ m x ↔ (Fox na α m x ∧ Fox nb β m (fun j => x (4 * na + j))) ∧ x (4 * na + b) = x a := by
  have hαa := pa.k.lt a s.ha
  have hβb := pb.k.lt b s.hb
  unfold Fox
  rw [fox_cross (fun u o v w => o = w ∧ (m : Int) ∣ 2 * (o : Int) - (u : Int) - (v : Int))]
  constructor
  · rintro ⟨e, ca, cb⟩
    have b1 := s.hb
    have a1 := s.ha
    have h1 : ∀ h, h < 4 * na → h ≠ a → h ≠ α a → x (α h) = x h := fun h hh n1 n2 => by rw [← s.m1 h hh n1 n2]; exact e h (by omega)
    have h2 : ∀ h, h < 4 * nb → h ≠ b → h ≠ β b → x (4 * na + β h) = x (4 * na + h) := fun h hh n1 n2 => by rw [← s.m2 h hh n1 n2]; exact e _ (by omega)
    have k1 := pa.cut (m := m) s.ha h1 ca (fun h hh => hx h (by omega))
    have k2 := pb.cut (m := m) (x := fun j => x (4 * na + j)) s.hb h2 cb (fun h hh => hx _ (by omega))
    have g1 : x (α a) = x (4 * na + b) := by
      have := e (4 * na + b) (by omega)
      rwa [s.mb] at this
    refine ⟨⟨⟨fun h hh => ?_, ca⟩, fun h hh => ?_, cb⟩, by omega⟩
    · by_cases n1 : h = a
      · rw [n1]; exact k1
      · by_cases n2 : h = α a
        · rw [n2, pa.k.inv a s.ha]; exact k1.symm
        · exact h1 h hh n1 n2
    · show x (4 * na + β h) = x (4 * na + h)
      by_cases n1 : h = b
      · rw [n1]; exact k2
      · by_cases n2 : h = β b
        · rw [n2, pb.k.inv b s.hb]; exact k2.symm
        · exact h2 h hh n1 n2
  · rintro ⟨⟨⟨ea, ca⟩, eb, cb⟩, e⟩
    refine ⟨fun h hh => ?_, ca, cb⟩
    have ea1 := ea a s.ha
    have eb1 : x (4 * na + β b) = x (4 * na + b) := eb b s.hb
    by_cases q : h < 4 * na
    · by_cases n1 : h = a
      · rw [n1, s.ma]; omega
      · by_cases n2 : h = α a
        · rw [n2, s.ma2]; omega
        · rw [s.m1 h q n1 n2]; exact ea h q
    · obtain ⟨k, rfl⟩ : ∃ k, h = 4 * na + k := ⟨h - 4 * na, by omega⟩
      by_cases n1 : k = b
      · rw [n1, s.mb]; omega
      · by_cases n2 : k = β b
        · rw [n2, s.mb2]; omega
        · rw [s.m2 k (by omega) n1 n2]; exact eb k (by omega)
theorem mod_mod_shift {m c t : Nat} (hc : c < m) (ht : t < m) : ((c + t) % m + (m - t)) % m = c := by
  rcases Nat.lt_or_ge (c + t) m with h | h
  · rw [Nat.mod_eq_of_lt h, show c + t + (m - t) = c + m by omega, Nat.add_mod_right, Nat.mod_eq_of_lt hc]
  · rw [show c + t = (c + t - m) + m by omega, Nat.add_mod_right, Nat.mod_eq_of_lt (show c + t - m < m by omega), show c + t - m + (m - t) = c by omega, Nat.mod_eq_of_lt hc]
theorem mod_diff {m c d : Nat} (hc : c < m) (hd : d < m) : (c + (m - (c + (m - d)) % m)) % m = d := by
  rcases Nat.lt_or_ge c d with h | h
  · rw [Nat.mod_eq_of_lt (show c + (m - d) < m by omega), show c + (m - (c + (m - d))) = d by omega, Nat.mod_eq_of_lt hd]
  · rw [show c + (m - d) = (c - d) + m by omega, Nat.add_mod_right, Nat.mod_eq_of_lt (show c - d < m by omega), show c + (m - (c - d)) = d + m by omega, Nat.add_mod_right, Nat.mod_eq_of_lt hd]
theorem mod_inj {m c d t : Nat} (hc : c < m) (hd : d < m) (ht : t < m) (h : (c + t) % m = (d + t) % m) : c = d := by
  rw [← mod_mod_shift hc ht, ← mod_mod_shift hd ht, h]
/-- THE NUMBER FOR A SUM -/
theorem Smd.count (s : Smd na nb α β μ a b) (hμ : ∀ h, h < 4 * (na + nb) → μ h < 4 * (na + nb)) (pa : Plnr na α f1 l1) (pb : Plnr nb β f2 l2) (hm : 0 < m) : nFox (na + nb) μ m * m = nFox na α m * nFox nb β m := by
  have sa := s.ha
  have sb := s.hb
  have e4 : 4 * (na + nb) = 4 * na + 4 * nb := by omega
  have hL : cntV m (4 * (na + nb) + 1) (fun x => foxB (na + nb) μ m x && (fun _ => true) (fun j => x (4 * (na + nb) + j))) = nFox (na + nb) μ m * m := by
    have h := cntV_mul hm (4 * (na + nb)) 1 (p := foxB (na + nb) μ m) (q := fun _ => true) (foxB_loc hμ)
    rw [cntV_one] at h
    exact h
  have hR : cntV m (4 * na + 4 * nb) (fun x => foxB na α m x && foxB nb β m (fun j => x (4 * na + j))) = nFox na α m * nFox nb β m := cntV_mul hm _ _ (foxB_loc pa.k.lt)
  have lR : Loc (4 * na + 4 * nb) (fun x => foxB na α m x && foxB nb β m (fun j => x (4 * na + j))) := fun x y h => by
    show (foxB na α m x && foxB nb β m (fun j => x (4 * na + j))) = (foxB na α m y && foxB nb β m (fun j => y (4 * na + j)))
    rw [foxB_loc pa.k.lt x y (fun j hj => h j (by omega)), foxB_loc pb.k.lt (fun j => x (4 * na + j)) (fun j => y (4 * na + j)) (fun j hj => h _ (by omega))]
  have lL : Loc (4 * (na + nb) + 1) (fun x => foxB (na + nb) μ m x && (fun _ => true) (fun j => x (4 * (na + nb) + j))) := fun x y h => by
    show (foxB (na + nb) μ m x && true) = (foxB (na + nb) μ m y && true)
    rw [foxB_loc hμ x y (fun j hj => h j (by omega))]
  rw [← hL, ← hR]
  refine Nat.le_antisymm ?_ ?_
  · refine cntV_le2 hm lR (fun x j => if j < 4 * na then x j else (x j + x (4 * na + 4 * nb)) % m) (fun x hx hp => ⟨?_, fun j hj => ?_⟩) (fun x y hx hy hpx hpy he => ?_)
    · obtain ⟨⟨fa, fb⟩, _⟩ := (s.fox pa pb (fun h hh => hx h (by omega))).1 (foxB_iff.1 (by simpa using hp))
      rw [Bool.and_eq_true, foxB_iff, foxB_iff]
      constructor
      · refine foxB_iff.1 ((foxB_loc pa.k.lt x _ (fun j hj => ?_)) ▸ foxB_iff.2 fa)
        show _ = (if j < 4 * na then x j else _)
        rw [if_pos hj]
      · refine foxB_iff.1 ((foxB_loc pb.k.lt _ _ (fun j hj => ?_)) ▸ foxB_iff.2 (fb.shift (x (4 * na + 4 * nb))))
        show (x (4 * na + j) + x (4 * na + 4 * nb)) % m = (if 4 * na + j < 4 * na then _ else _)
        rw [if_neg (by omega)]
    · show (if j < 4 * na then x j else _) < m
      split
      · exact hx j (by omega)
      · exact Nat.mod_lt _ hm
    · obtain ⟨_, ex⟩ := (s.fox pa pb (fun h hh => hx h (by omega))).1 (foxB_iff.1 (by simpa using hpx))
      obtain ⟨_, ey⟩ := (s.fox pa pb (fun h hh => hy h (by omega))).1 (foxB_iff.1 (by simpa using hpy))
      have h1 : ∀ j, j < 4 * na → x j = y j := fun j hj => by
        have : (if j < 4 * na then x j else (x j + x (4 * na + 4 * nb)) % m) = (if j < 4 * na then y j else (y j + y (4 * na + 4 * nb)) % m) := he j (by omega)
        rwa [if_pos hj, if_pos hj] at this
      have h2 : ∀ j, j < 4 * nb → (x (4 * na + j) + x (4 * na + 4 * nb)) % m = (y (4 * na + j) + y (4 * na + 4 * nb)) % m := fun j hj => by
        have : (if 4 * na + j < 4 * na then x (4 * na + j) else (x (4 * na + j) + x (4 * na + 4 * nb)) % m) = (if 4 * na + j < 4 * na then y (4 * na + j) else (y (4 * na + j) + y (4 * na + 4 * nb)) % m) := he (4 * na + j) (by omega)
        rwa [if_neg (by omega), if_neg (by omega)] at this
      have xt := hx (4 * na + 4 * nb) (by omega)
      have yt := hy (4 * na + 4 * nb) (by omega)
      have h3 : x (4 * na + 4 * nb) = y (4 * na + 4 * nb) := by
        have h4 := h2 b sb
        rw [ex, ey, h1 a sa] at h4
        rw [Nat.add_comm (y a), Nat.add_comm (y a)] at h4
        exact mod_inj xt yt (hy a (by omega)) h4
      intro j hj
      by_cases q : j < 4 * na
      · exact h1 j q
      · obtain ⟨k, rfl⟩ : ∃ k, j = 4 * na + k := ⟨j - 4 * na, by omega⟩
        by_cases q2 : k < 4 * nb
        · have h4 := h2 k q2
          rw [h3] at h4
          exact mod_inj (hx _ (by omega)) (hy _ (by omega)) yt h4
        · rw [show k = 4 * nb by omega]; exact h3
  · refine cntV_le2 hm lL (fun x j => if j < 4 * na then x j else if j < 4 * na + 4 * nb then (x j + (m - (x (4 * na + b) + (m - x a)) % m)) % m else (x (4 * na + b) + (m - x a)) % m) (fun x hx hp => ⟨?_, fun j hj => ?_⟩) (fun x y hx hy hpx hpy he => ?_)
    · obtain ⟨fa, fb⟩ := (Bool.and_eq_true _ _).mp hp
      rw [foxB_iff] at fa fb
      rw [Bool.and_eq_true]
      refine ⟨foxB_iff.2 ((s.fox pa pb (fun h hh => ?_)).2 ⟨⟨?_, ?_⟩, ?_⟩), rfl⟩
      · show (if h < 4 * na then x h else _) < m
        split
        · exact hx h (by omega)
        · split <;> exact Nat.mod_lt _ hm
      · refine foxB_iff.1 ((foxB_loc pa.k.lt x _ (fun j hj => ?_)) ▸ foxB_iff.2 fa)
        show _ = (if j < 4 * na then x j else _)
        rw [if_pos hj]
      · refine foxB_iff.1 ((foxB_loc pb.k.lt _ _ (fun j hj => ?_)) ▸ foxB_iff.2 (fb.shift (m - (x (4 * na + b) + (m - x a)) % m)))
        show (x (4 * na + j) + (m - (x (4 * na + b) + (m - x a)) % m)) % m = (if 4 * na + j < 4 * na then _ else if 4 * na + j < 4 * na + 4 * nb then _ else _)
        rw [if_neg (by omega), if_pos (by omega)]
      · show (if 4 * na + b < 4 * na then _ else if 4 * na + b < 4 * na + 4 * nb then _ else _) = (if a < 4 * na then x a else _)
        rw [if_neg (by omega), if_pos (by omega), if_pos sa]
        exact mod_diff (hx _ (by omega)) (hx a (by omega))
    · show (if j < 4 * na then x j else _) < m
      split
      · exact hx j (by omega)
      · split <;> exact Nat.mod_lt _ hm
    · have h1 : ∀ j, j < 4 * na → x j = y j := fun j hj => by
        have := he j (by omega)
        simp only [hj, if_true] at this
        exact this
      have h3 : (x (4 * na + b) + (m - x a)) % m = (y (4 * na + b) + (m - y a)) % m := by
        have := he (4 * na + 4 * nb) (by omega)
        have q1 : ¬ (4 * na + 4 * nb < 4 * na) := by omega
        simp only [q1, Nat.lt_irrefl, if_false] at this
        exact this
      intro j hj
      by_cases q : j < 4 * na
      · exact h1 j q
      · have h4 := he j (by omega)
        simp only [q, hj, if_true, if_false] at h4
        rw [← h3] at h4
        have ht : (x (4 * na + b) + (m - x a)) % m < m := Nat.mod_lt _ hm
        rcases Nat.eq_zero_or_pos ((x (4 * na + b) + (m - x a)) % m) with z | z
        · rw [z, Nat.sub_zero, Nat.add_mod_right, Nat.add_mod_right, Nat.mod_eq_of_lt (hx j hj), Nat.mod_eq_of_lt (hy j hj)] at h4
          exact h4
        · exact mod_inj (hx j hj) (hy j hj) (by omega) h4
end
end Go.Proofs.Ytcjaloddgilnpaa

namespace Go.Proofs.Ytcjaloddgilnpaa
set_option linter.unusedVariables false

theorem mt_set (M : List Int) (i h v : Nat) : mt (M.set i ((v : Nat) : Int)) h = if h = i ∧ i < M.length then v else mt M h := by
  unfold mt
  rw [List.getElem?_set]
  by_cases e : i = h
  · subst e
    rw [if_pos rfl]
    by_cases q : i < M.length
    · rw [if_pos q, if_pos ⟨rfl, q⟩]; rfl
    · rw [if_neg q, if_neg (fun w => q w.2), List.getElem?_eq_none (by omega)]
  · rw [if_neg e, if_neg (fun w => e w.1.symm)]
/-- the mates of both -/
def uM (Ma Mb : List Int) : List Int := Ma ++ Mb.map fun z => z + (Ma.length : Int)
theorem uM_length (Ma Mb : List Int) : (uM Ma Mb).length = Ma.length + Mb.length := by unfold uM; simp
theorem mt_uM1 {Ma Mb : List Int} {h : Nat} (hh : h < Ma.length) : mt (uM Ma Mb) h = mt Ma h := by
  unfold mt uM
  rw [List.getElem?_append_left hh]
theorem mt_uM2 {Ma Mb : List Int} {h : Nat} (hh : h < Mb.length) (h0 : 0 ≤ Mb[h]) : mt (uM Ma Mb) (Ma.length + h) = Ma.length + mt Mb h := by
  unfold mt uM
  rw [List.getElem?_append_right (by omega), Nat.add_sub_cancel_left, List.getElem?_map, List.getElem?_eq_getElem hh]
  show (Mb[h] + (Ma.length : Int)).toNat = Ma.length + (Mb[h]).toNat
  omega
/-- crossing two edges -/
def crM (M : List Int) (x y : Nat) : List Int := (((M.set x ((mt M y : Nat) : Int)).set (mt M y) ((x : Nat) : Int)).set y ((mt M x : Nat) : Int)).set (mt M x) ((y : Nat) : Int)
theorem crM_length (M : List Int) (x y : Nat) : (crM M x y).length = M.length := by unfold crM; simp
theorem mt_crM (M : List Int) {x y h : Nat} (hx : x < M.length) (hy : y < M.length) (hp : mt M x < M.length) (hq : mt M y < M.length) :
    mt (crM M x y) h = if h = mt M x then y else if h = y then mt M x else if h = mt M y then x else if h = x then mt M y else mt M h := by
  unfold crM
  rw [mt_set, mt_set, mt_set, mt_set]
  simp only [List.length_set, hx, hy, hp, hq, and_true]
section
variable {Sa Ma Sb Mb : List Int} {La Lb : Int}
theorem Ok.lt4 {S M : List Int} {L : Int} (k : Ok S M L) {h : Nat} (hh : h < 4 * S.length) : mt M h < 4 * S.length := by have := k.lt h (by have := k.m; omega); have := k.m; omega
theorem union_m1 (ka : Ok Sa Ma La) : ∀ h, h < 4 * Sa.length → mt (uM Ma Mb) h = mt Ma h := fun h hh => mt_uM1 (by have := ka.m; omega)
theorem union_m2 (ka : Ok Sa Ma La) (kb : Ok Sb Mb Lb) : ∀ h, h < 4 * Sb.length → mt (uM Ma Mb) (4 * Sa.length + h) = 4 * Sa.length + mt Mb h := fun h hh => by
  have := mt_uM2 (Ma := Ma) (h := h) (by have := kb.m; omega) (kb.pos h (by have := kb.m; omega))
  rwa [ka.m] at this
theorem smd_of (ka : Ok Sa Ma La) (kb : Ok Sb Mb Lb) {a b : Nat} (ha : a < Ma.length) (hb : b < Mb.length) : Smd Sa.length Sb.length (mt Ma) (mt Mb) (mt (crM (uM Ma Mb) a (Ma.length + b))) a b := by
  have hma := ka.m
  have hmb := kb.m
  have a1 := ka.lt a ha
  have b1 := kb.lt b hb
  have e1 : mt (uM Ma Mb) a = mt Ma a := mt_uM1 ha
  have e2 : mt (uM Ma Mb) (Ma.length + b) = Ma.length + mt Mb b := mt_uM2 hb (kb.pos b hb)
  have hl := uM_length Ma Mb
  have key : ∀ h, mt (crM (uM Ma Mb) a (Ma.length + b)) h = if h = mt Ma a then Ma.length + b else if h = Ma.length + b then mt Ma a else if h = Ma.length + mt Mb b then a else if h = a then Ma.length + mt Mb b else mt (uM Ma Mb) h := fun h => by
    have := mt_crM (uM Ma Mb) (x := a) (y := Ma.length + b) (h := h) (by omega) (by omega) (by rw [e1]; omega) (by rw [e2]; omega)
    rwa [e1, e2] at this
  have na := ka.ne a ha
  have nb := kb.ne b hb
  refine ⟨by omega, by omega, fun h hh n1 n2 => ?_, fun h hh n1 n2 => ?_, ?_, ?_, ?_, ?_⟩
  · rw [key, if_neg n2, if_neg (by omega), if_neg (by omega), if_neg n1]
    exact mt_uM1 (by omega)
  · rw [key, if_neg (by omega), if_neg (by omega), if_neg (by omega), if_neg (by omega), ← hma]
    exact mt_uM2 (by omega) (kb.pos h (by omega))
  · rw [key, if_neg (by omega), if_neg (by omega), if_neg (by omega), if_pos rfl, hma]
  · rw [key, if_pos rfl, hma]
  · rw [← hma, key, if_neg (by omega), if_pos rfl]
  · rw [← hma, key, if_neg (by omega), if_neg (by omega), if_pos rfl]
/-- unions: as many colorings as pairs -/
theorem union_count (va : valB Sa Ma La = true) (vb : valB Sb Mb Lb = true) {m : Nat} (hm : 0 < m) : nFox (Sa.length + Sb.length) (mt (uM Ma Mb)) m = nFox Sa.length (mt Ma) m * nFox Sb.length (mt Mb) m :=
  nFox_union hm (fun h hh => (valB_ok va).lt4 hh) (union_m1 (valB_ok va)) (union_m2 (valB_ok va) (valB_ok vb))
theorem sum_count (va : valB Sa Ma La = true) (vb : valB Sb Mb Lb = true) {a b : Nat} (ha : a < Ma.length) (hb : b < Mb.length) {m : Nat} (hm : 0 < m) : nFox (Sa.length + Sb.length) (mt (crM (uM Ma Mb) a (Ma.length + b))) m * m = nFox Sa.length (mt Ma) m * nFox Sb.length (mt Mb) m := by
  have ka := valB_ok va
  have kb := valB_ok vb
  have hma := ka.m
  have hmb := kb.m
  obtain ⟨f1, l1, pa⟩ := planar va
  obtain ⟨f2, l2, pb⟩ := planar vb
  refine (smd_of ka kb ha hb).count (fun h hh => ?_) pa pb hm
  have a1 := ka.lt a ha
  have b1 := kb.lt b hb
  have e1 : mt (uM Ma Mb) a = mt Ma a := mt_uM1 ha
  have e2 : mt (uM Ma Mb) (Ma.length + b) = Ma.length + mt Mb b := mt_uM2 hb (kb.pos b hb)
  have hl := uM_length Ma Mb
  rw [mt_crM (uM Ma Mb) (by omega) (by omega) (by rw [e1]; omega) (by rw [e2]; omega), e1, e2]
  split
  · omega
  · split
    · omega
    · split
      · omega
      · split
        · omega
        · by_cases q : h < 4 * Sa.length
          · rw [mt_uM1 (by omega)]
            have := ka.lt h (by omega); omega
          · obtain ⟨k, rfl⟩ : ∃ k, h = Ma.length + k := ⟨h - Ma.length, by omega⟩
            rw [mt_uM2 (by omega) (kb.pos k (by omega))]
            have := kb.lt k (by omega); omega
end
/-- what Count returns where it returns a number -/
theorem cnt_val {S M : List Int} {L : Int} (k : Ok S M L) (hn : S.length ≤ 14) {m v : Nat} (hm : 0 < m) (h : cntP (invL S M L) m (colN M L) = some v) : v = nFox S.length (mt M) m * m ^ L.toNat := by
  rw [cntP_fox k hn hm] at h
  split at h
  · injection h with h; exact h.symm
  · cases h
/-- THE PRODUCTS -/
theorem sums_end {Na Nb Ns Nu m la lb ls : Nat} (hm : 0 < m) (hu : Nu = Na * Nb) (hs : (Ns * m = Na * Nb ∧ ls = la + lb) ∨ (Ns = Na * Nb ∧ ls + 1 = la + lb)) :
    (Na * m ^ la) * (Nb * m ^ lb) = m * (Ns * m ^ ls) ∧ Nu * m ^ (la + lb) = (Na * m ^ la) * (Nb * m ^ lb) := by
  have e1 : (Na * m ^ la) * (Nb * m ^ lb) = Na * Nb * m ^ (la + lb) := by rw [Nat.pow_add, Nat.mul_mul_mul_comm]
  rw [e1, hu]
  refine ⟨?_, rfl⟩
  rcases hs with ⟨h1, h2⟩ | ⟨h1, h2⟩
  · rw [← h1, h2, Nat.mul_assoc, Nat.mul_left_comm]
  · rw [← h1, ← h2, Nat.pow_succ, ← Nat.mul_assoc, Nat.mul_comm m]
end Go.Proofs.Ytcjaloddgilnpaa

namespace Go.Proofs.Ytcjaloddgilnpaa
open Go.RowKit
set_option linter.unusedVariables false

set_option maxHeartbeats 1000000 in
theorem grow_nil (n : Nat) (w : World) (hn : n ≤ 10000) :
    Calls Try.prog 88 #[.slice none 0 0, .int .i64 (n : Nat)] w fun e w' => ∃ v, e = .returned v ∧ OwnI 3 w.heap.size w' v [] ∧ Below w.heap.size w w' := by
  have h1 : ¬ ((n : Int) < 0) := by omega
  rcases Nat.eq_zero_or_pos n with rfl | h0
  · go_enter Try.func88, Try.ntmps88
    go_wp2_with fail
    go_ret
    exact ⟨_, rfl, OwnI.nil _ _ _, Below.refl _ _⟩
  · have h2 : (0 : Int) < (n : Int) := by omega
    obtain ⟨i0, hi0, hz0, hz1, hz2⟩ := info_parts info_int
    have hGn := grownCap_ge w n 0 3
    have hGm := grownCap_le_maxLen w n 0 3 (by unfold maxLen; omega)
    have hrz := Lib.hid (fun ty => Lib.run_append_grow_zeros w 22 3 ty 3 i0 (.int .i64 0) .i64 .i64 Try.underlying22 Try.underlying3 hi0 hz0 none 0 0 [] (run_firstCells_none w.drew i0.size 0 0 0) n h0 (by rw [hz1]; decide) (by omega) (by omega) (by rw [hz2]; omega) (growslice_fits (by omega) (by rw [hz2]; omega)))
    rw [Nat.zero_add] at hrz
    have HR := Lib.hid (show OwnI 3 w.heap.size (w.drew.alloc (.cells (([] : List Value).toArray ++ Builtin.zeroCells (Value.int .i64 0).cells n ++ Builtin.zeroCells (Value.int .i64 0).cells (grownCap w n 0 3 - n)) 3)) (.slice (some ⟨w.heap.size, 0, none⟩) 0 (grownCap w n 0 3)) [] from
      ⟨rfl, .inr ⟨w.heap.size, _, _, rfl, Nat.le_refl _, heap_alloc_new w.drew _, Nat.zero_le _, hGm, by
        rw [Array.size_append, Array.size_append, size_zeroCells, size_zeroCells]
        show 0 + n * 1 + (grownCap w n 0 3 - n) * 1 = grownCap w n 0 3 * 1
        omega, rfl⟩⟩)
    have HB := Lib.hid (show Below w.heap.size w (w.drew.alloc (.cells (([] : List Value).toArray ++ Builtin.zeroCells (Value.int .i64 0).cells n ++ Builtin.zeroCells (Value.int .i64 0).cells (grownCap w n 0 3 - n)) 3)) from ((Below.refl _ _).drew).alloc (Nat.le_refl _) _)
    generalize (w.drew.alloc (.cells (([] : List Value).toArray ++ Builtin.zeroCells (Value.int .i64 0).cells n ++ Builtin.zeroCells (Value.int .i64 0).cells (grownCap w n 0 3 - n)) 3)) = w1 at *
    have hG63 : grownCap w n 0 3 ≤ 9223372036854775807 := by unfold maxLen at hGm; omega
    generalize grownCap w n 0 3 = G at *
    go_enter Try.func88, Try.ntmps88
    go_wp2_with (at_builtin; refine Lib.wpList_append_run _ rfl _ _ _ _ rfl _ _ rfl rfl _ _ (hrz.out _) ?_)
    go_ret
    exact ⟨_, rfl, HR.out, HB.out⟩
/-- the first k of two lists -/
def pre2 (xs ys : List Int) (k : Nat) : List Int := if k = 0 then [] else if k = 1 then xs else xs ++ ys
set_option maxHeartbeats 2000000 in
theorem concat_any (b : Nat) (va vb : Value) (xs ys : List Int) (w : World) (hA : Arr w b 22 [va, vb]) (hx : Ints w va xs) (hy : Ints w vb ys) (lx : xs.length ≤ 1000) (ly : ys.length ≤ 1000) :
    Calls Try.prog 76 #[.slice (some ⟨b, 0, none⟩) 2 2] w fun e w' => ∃ v, e = .returned v ∧ OwnI 3 w.heap.size w' v (xs ++ ys) ∧ Below w.heap.size w w' := by
  obtain ⟨i0, hi0, hz0, hz1, hz2⟩ := info_parts info_int
  have HX := Lib.hid (fun W (hb : Below w.heap.size w W) => hx.below hb)
  have HY := Lib.hid (fun W (hb : Below w.heap.size w W) => hy.below hb)
  have HAA := Lib.hid (fun W (hb : Below w.heap.size w W) => hA.below hb hA.lt)
  obtain ⟨A, c, rfl, hc, hx'⟩ := hx
  obtain ⟨A2, c2, rfl, hc2, hy'⟩ := hy
  clear hx' hy'
  have y0 := hA.cell 0
  have y1 := hA.cell 1
  go_enter Try.func76, Try.ntmps76
  go_wp2_with fail
  go_loopg [3, 11] (2 : Nat) (fun gk s3 s11 wr => ∃ k : Nat, k ≤ 2 ∧ gk = 2 - k ∧ s11 = .int .i64 (k : Int) ∧ s3 = .int .i64 ((pre2 xs ys k).length : Int) ∧ w = wr)
  case atStart => exact ⟨0, by omega, rfl, rfl, rfl, rfl⟩
  case round =>
    obtain ⟨k, hk, rfl, rfl, rfl, rfl⟩ := hrel
    rcases (by omega : k = 0 ∨ k = 1 ∨ k = 2) with rfl | rfl | rfl
    · have e0 : ((pre2 xs ys 0).length : Int) = 0 := rfl
      rw [e0]
      clear e0
      have z1 : ¬ ((xs.length : Int) < 0) := by omega
      go_wp2_with fail
      go_roundg (1 : Nat)
      case measure => omega
      case rel => exact ⟨1, by omega, rfl, rfl, by rw [show pre2 xs ys 1 = xs from rfl], rfl⟩
    · have e0 : ((pre2 xs ys 1).length : Int) = (xs.length : Int) := rfl
      rw [e0]
      clear e0
      have z1 : ¬ ((xs.length : Int) + (ys.length : Int) < 0) := by omega
      go_wp2_with fail
      go_roundg (0 : Nat)
      case measure => omega
      case rel => exact ⟨2, by omega, rfl, rfl, by rw [show pre2 xs ys 2 = xs ++ ys from rfl, List.length_append]; go_num, rfl⟩
    · have e0 : ((pre2 xs ys 2).length : Int) = ((xs.length + ys.length : Nat) : Int) := by rw [show pre2 xs ys 2 = xs ++ ys from rfl, List.length_append]
      rw [e0]
      clear e0
      have HGR := Lib.hid (grow_nil (xs.length + ys.length) w (by omega))
      generalize xs.length + ys.length = n2 at HGR ⊢
      go_upto_region 10 with (go_at_call 88; refine HGR.out.mono ?_; rintro e w1 ⟨v, rfl, hown, hb1⟩)
      clear y0 y1
      have HOW := Lib.hid hown
      clear hown
      go_wp2_with fail
      go_loopg [6, 27] (2 : Nat) (fun gk s6 s27 wr => ∃ k : Nat, k ≤ 2 ∧ gk = 2 - k ∧ s27 = .int .i64 (k : Int) ∧ OwnI 3 w.heap.size wr s6 (pre2 xs ys k) ∧ Below w.heap.size w wr)
      case atStart => exact ⟨0, by omega, rfl, rfl, HOW.out, hb1⟩
      case round =>
        clear HOW hb1
        obtain ⟨k, hk, rfl, rfl, hown, hbw⟩ := hrel
        have y0 := (HAA.out wr hbw).cell 0
        have y1 := (HAA.out wr hbw).cell 1
        have HOW := Lib.hid hown
        clear hown
        rcases (by omega : k = 0 ∨ k = 1 ∨ k = 2) with rfl | rfl | rfl
        · go_wp2_with (at_builtin; refine wpList_appI rfl _ _ 22 rfl Try.underlying22 hi0 hz0 hz1 hz2 rfl HOW.out rfl (HX.out _ hbw) (by show 0 + xs.length ≤ _; omega) hbw.size ?_; intro v' w2 hown' hb2 hk2)
          go_roundg (1 : Nat)
          case measure => omega
          case rel => exact ⟨1, by omega, rfl, rfl, hown', hbw.trans (hb2.mono (Nat.le_refl _))⟩
        · go_wp2_with (at_builtin; refine wpList_appI rfl _ _ 22 rfl Try.underlying22 hi0 hz0 hz1 hz2 rfl HOW.out rfl (HY.out _ hbw) (by show xs.length + ys.length ≤ _; omega) hbw.size ?_; intro v' w2 hown' hb2 hk2)
          go_roundg (0 : Nat)
          case measure => omega
          case rel => exact ⟨2, by omega, rfl, rfl, hown', hbw.trans (hb2.mono (Nat.le_refl _))⟩
        · go_wp2_with fail
          go_ret
          exact ⟨_, rfl, HOW.out, hbw⟩
end Go.Proofs.Ytcjaloddgilnpaa

namespace Go.Proofs.Ytcjaloddgilnpaa
open Go.RowKit
set_option linter.unusedVariables false

section
variable {P : Program} {Q : Exit → Act → World → Prop}
/-- behind one operation: what it makes (fr) lies in new memory -/
def PhfPost (w : World) (Φ : Nat → Value → World → Prop) (fr : Nat → Bool) (i : Nat) (b : Act) (d : Option Tmp) (a' : Act) (w' : World) : Prop := ∃ v, a' = b.put d v ∧ Below w.heap.size w w' ∧ Φ i v w' ∧ (fr i = true → ∀ k, v.ownBlock = some k → w.heap.size ≤ k)
/-- what is made by two operations lies apart -/
def ApF (fr : Nat → Bool) (D : Nat → Bool) (x : Nat → Value) : Prop := ∀ i j, i ≠ j → D i = true → D j = true → fr i = true → fr j = true → ∀ k, (x i).ownBlock = some k → (x j).ownBlock ≠ some k
def PhfI (w0 : World) (Φ : Nat → Value → World → Prop) (fr : Nat → Bool) (x0 : Nat → Value) (D : Nat → Bool) (x : Nat → Value) (w : World) : Prop := PhiI w0 Φ x0 D x w ∧ ApF fr D x
def PhsI (w0 : World) (n : Nat) (Φ : Nat → Value → World → Prop) (fr : Nat → Bool) (R : (Nat → Value) → World → Prop) (x0 : Nat → Value) (D : Nat → Bool) (x : Nat → Value) (w : World) : Prop := if D n = true then R x w else PhfI w0 Φ fr x0 D x w
theorem wp_region_phis {id : Nat} {l : List Oper} {a : Act} {w0 : World} (n : Nat) (hm : P.follows .mixedOrders = true) (hd : apartD (dstOf l.toArray) = true) (hb : backD l.toArray = true) (hg : l.all (fun o => o.guard.isNone) = true) (hn : inD a.tmps.size (dstOf l.toArray) = true)
    (hlen : l.length = n + 1) (hneed : needB l.toArray n = true)
    (Φ : Nat → Value → World → Prop) (hΦ : ∀ i v w w', Φ i v w → Below w.heap.size w w' → Φ i v w') (fr : Nat → Bool) (hfr : ∀ i v w, fr i = true → Φ i v w → ∀ k, v.ownBlock = some k → k < w.heap.size) (R : (Nat → Value) → World → Prop)
    (hstep : AllOps (fun i o => ∀ (x : Nat → Value) w (b : Act), Below w0.heap.size w0 w → (∀ j ∈ deps o, Φ j (x j) w) → (∀ j1 ∈ deps o, ∀ j2 ∈ deps o, j1 ≠ j2 → fr j1 = true → fr j2 = true → ∀ k, (x j1).ownBlock = some k → (x j2).ownBlock ≠ some k) → (∀ j, i ∈ depsAt l.toArray j → x j = slotV a ((dstOf l.toArray).getD (j - 0) none)) → (∀ t : Nat, b.tmps[t]?.getD undef = look (dstOf l.toArray) x a t) →
      (i < n → o.wp P b w (PhfPost w Φ fr i b o.dst) NoQ) ∧ (i = n → (∀ j, j < n → Φ j (x j) w) → o.wp P b w (fun a' w' => ∃ v, a' = b.put o.dst v ∧ R (upd x n v) w') NoQ)) 0 l)
    (hend : ∀ (x : Nat → Value) w, R x w → Q .normal (putAll (dstOf l.toArray) 0 x a) w) : (Code.region id l.toArray true).wp P Q a w0 := by
  refine wp_region_facts2U hm hd hb hg hn (PhsI w0 n Φ fr R (fun j => slotV a ((dstOf l.toArray).getD (j - 0) none))) ?_ ?_ ?_
  · unfold PhsI
    rw [if_neg (by simp)]
    exact ⟨⟨(Below.refl _ _).drew, fun i h => Bool.noConfusion h, fun _ _ => rfl⟩, fun i j _ h => Bool.noConfusion h⟩
  · have key : ∀ k o, l[k]? = some o → ∀ D x W (b : Act), PhsI w0 n Φ fr R (fun j => slotV a ((dstOf l.toArray).getD (j - 0) none)) D x W → D k = false → (∀ j ∈ deps o, D j = true) → (∀ j, D j = true → ∀ q ∈ depsAt l.toArray j, D q = true) → (∀ t : Nat, b.tmps[t]?.getD undef = look (dstOf l.toArray) x a t) → o.wp P b W (StepPost (PhsI w0 n Φ fr R (fun j => slotV a ((dstOf l.toArray).getD (j - 0) none))) D x k b o.dst) NoQ := by
      intro k o ho D x W b hI hD hdep hcl hbt
      have hk : k ≤ n := by have := (List.getElem?_eq_some_iff.1 ho).1; omega
      have hDn : D n = false := by
        cases h : D n with
        | false => rfl
        | true => have := need_all hneed hcl h _ k hk (Nat.le_refl _); rw [this] at hD; cases hD
      unfold PhsI at hI
      rw [hDn, if_neg (by simp)] at hI
      obtain ⟨hI, hAp⟩ := hI
      have hs := hstep.get _ _ k o ho x W b hI.1 (fun j hj => hI.2.1 j (hdep j hj)) (fun j1 h1 j2 h2 hne f1 f2 => hAp j1 j2 hne (hdep j1 h1) (hdep j2 h2) f1 f2) (fun j hj => hI.2.2 j (by
        cases h : D j with
        | false => rfl
        | true =>
          rw [Nat.zero_add] at hj
          have := hcl j h k hj
          rw [hD] at this; cases this)) hbt
      rw [Nat.zero_add] at hs
      by_cases hkn : k = n
      · subst hkn
        have hDall : ∀ j, j < k → D j = true := by
          intro j hj
          have hcl' : ∀ j, upd D k true j = true → ∀ q ∈ depsAt l.toArray j, upd D k true q = true := by
            intro j hj q hq
            by_cases eq : q = k
            · subst eq; rw [upd_same]
            rw [upd_ne _ _ eq]
            by_cases ej : j = k
            · subst ej
              have : depsAt l.toArray j = deps o := by
                have h1 : l.toArray[j]? = some o := by simpa using ho
                simp [depsAt, h1]
              rw [this] at hq
              exact hdep q hq
            · rw [upd_ne _ _ ej] at hj
              exact hcl j hj q hq
          have := need_all hneed hcl' (upd_same _ _ _) _ j (by omega) (Nat.le_refl _)
          rwa [upd_ne _ _ (show j ≠ k by omega)] at this
        refine Oper.wp_mono ?_ (hs.2 rfl (fun j hj => hI.2.1 j (hDall j hj)))
        rintro a' w' ⟨v, rfl, hR⟩
        refine ⟨v, rfl, ?_⟩
        unfold PhsI
        rw [if_pos (upd_same _ _ _)]
        exact hR
      · refine Oper.wp_mono ?_ (hs.1 (by omega))
        rintro a' w' ⟨v, rfl, hb', hv, hfv⟩
        refine ⟨v, rfl, ?_⟩
        unfold PhsI
        rw [upd_ne _ _ (show n ≠ k from fun e => hkn e.symm), hDn, if_neg (by simp)]
        refine ⟨⟨hI.1.trans (hb'.mono hI.1.size), fun i hi => ?_, fun i hi => ?_⟩, fun i j hij hi hj fi fj => ?_⟩
        · by_cases e : i = k
          · subst e; rw [upd_same]; exact hv
          · rw [upd_ne _ _ e] at hi ⊢
            exact hΦ i (x i) W w' (hI.2.1 i hi) hb'
        · by_cases e : i = k
          · subst e; rw [upd_same] at hi; cases hi
          · rw [upd_ne _ _ e] at hi ⊢
            exact hI.2.2 i hi
        · intro q hq
          by_cases ei : i = k
          · subst ei
            have ej : j ≠ i := fun e => hij e.symm
            rw [upd_same] at hq
            rw [upd_ne _ _ ej] at hj ⊢
            intro h2
            have h3 := hfr j (x j) W fj (hI.2.1 j hj) q h2
            have h4 := hfv fi q hq
            omega
          · rw [upd_ne _ _ ei] at hi hq
            by_cases ej : j = k
            · subst ej
              rw [upd_same]
              intro h2
              have h3 := hfr i (x i) W fi (hI.2.1 i hi) q hq
              have h4 := hfv fj q h2
              omega
            · rw [upd_ne _ _ ej] at hj ⊢
              exact hAp i j hij hi hj fi fj q hq
    have aux : ∀ (r : List Oper) (s : Nat), (∀ k, r[k]? = l[s + k]?) → AllOps (fun i o => ∀ D x W (b : Act), PhsI w0 n Φ fr R (fun j => slotV a ((dstOf l.toArray).getD (j - 0) none)) D x W → D i = false → (∀ j ∈ deps o, D j = true) → (∀ j, D j = true → ∀ q ∈ depsAt l.toArray j, D q = true) → (∀ t : Nat, b.tmps[t]?.getD undef = look (dstOf l.toArray) x a t) → o.wp P b W (StepPost (PhsI w0 n Φ fr R (fun j => slotV a ((dstOf l.toArray).getD (j - 0) none))) D x i b o.dst) NoQ) s r := by
      intro r
      induction r with
      | nil => intro s _; trivial
      | cons o r ih =>
        intro s hr
        refine ⟨key s o (by have := hr 0; simpa using this.symm), ih (s + 1) (fun k => ?_)⟩
        have := hr (k + 1)
        rw [List.getElem?_cons_succ] at this
        rw [this]; congr 1; omega
    exact aux l 0 (fun k => by rw [Nat.zero_add])
  · intro D x W hI hall
    have hDn := hall n (by omega)
    unfold PhsI at hI
    rw [if_pos hDn] at hI
    exact hend x W hI
variable {w : World} {Φ : Nat → Value → World → Prop} {fr : Nat → Bool} {i : Nat} {b : Act} {o : Oper}
theorem phs_store {R : (Nat → Value) → World → Prop} {x : Nat → Value} {n : Nat} (W : World) (h : (execOp b.eval o).run P w = .ok .skip W) (ho : o.dst = none) (hR : ∀ v, R (upd x n v) W) : o.wp P b w (fun a' w' => ∃ v, a' = b.put o.dst v ∧ R (upd x n v) w') NoQ := by
  unfold Oper.wp; rw [h]
  refine ⟨undef, ?_, hR undef⟩
  rw [ho]
theorem phf_run (v : Value) (hf : fr i = false) (h : (execOp b.eval o).run P w = .ok (.value v) w) (hv : Φ i v w) : o.wp P b w (PhfPost w Φ fr i b o.dst) NoQ := by
  unfold Oper.wp; rw [h]; exact ⟨v, rfl, Below.refl _ _, hv, fun e => by rw [hf] at e; cases e⟩
theorem phf_make (v : Value) (w' : World) (h : (execOp b.eval o).run P w = .ok (.value v) w') (hb : Below w.heap.size w w') (hv : Φ i v w') (hf : fr i = true → ∀ k, v.ownBlock = some k → w.heap.size ≤ k) : o.wp P b w (PhfPost w Φ fr i b o.dst) NoQ := by
  unfold Oper.wp; rw [h]; exact ⟨v, rfl, hb, hv, hf⟩
theorem phf_call {f : FuncId} {args : Array Value} (h : (execOp b.eval o).run P w = .ok (.enter f args) w) (hc : Calls P f args w fun e w' => ∃ v, e = .returned v ∧ Below w.heap.size w w' ∧ Φ i v w' ∧ (fr i = true → ∀ k, v.ownBlock = some k → w.heap.size ≤ k)) : o.wp P b w (PhfPost w Φ fr i b o.dst) NoQ := by
  unfold Oper.wp; rw [h]
  simp only [Oper.upon]
  refine hc.mono ?_
  rintro e w' ⟨v, rfl, hb, hv⟩
  exact ⟨v, rfl, hb, hv⟩
end
end Go.Proofs.Ytcjaloddgilnpaa
