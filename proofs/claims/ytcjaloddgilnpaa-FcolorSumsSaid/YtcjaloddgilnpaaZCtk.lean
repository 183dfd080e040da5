/- The minor that elimination finds kills what the rows leave of finite order (plain). -/
/- What is of finite order modulo the rows is killed by the minor; diagonal form over the integers (plain). -/
/- A diagonal form over the integers, by adding multiples of rows and columns (plain). -/
/- The number of solutions modulo e: kept by the steps (plain). -/
/- The steps keep what the minor kills; so each element of a diagonal form divides the minor (plain). -/
import Derived.Test.YtcjaloddgilnpaaZElm
namespace Go.Proofs.Ytcjaloddgilnpaa
set_option linter.unusedVariables false

theorem sum_perm {g : Nat → Nat} {l k : List Nat} (h : l.Perm k) : (l.map g).sum = (k.map g).sum := by
  induction h with
  | nil => rfl
  | cons a _ ih => simp [ih]
  | swap a b l => simp only [List.map_cons, List.sum_cons]; omega
  | trans _ _ h1 h2 => rw [h1, h2]
theorem sum_nodup (g : Nat → Nat) : ∀ (C : Nat) (l : List Nat), l.Nodup → (∀ x ∈ l, x < C) → (l.map g).sum ≤ sumN C g
  | 0, l, _, h => by
    cases l with
    | nil => simp [sumN]
    | cons a t => exact absurd (h a (by simp)) (by omega)
  | C + 1, l, hd, h => by
    rw [sumN]
    by_cases hm : C ∈ l
    · rw [sum_perm (List.perm_cons_erase hm), List.map_cons, List.sum_cons]
      have := sum_nodup g C (l.erase C) (hd.erase _) (fun x hx => by
        have h2 := (List.Nodup.mem_erase_iff hd).1 hx
        have := h x h2.2
        omega)
      omega
    · have := sum_nodup g C l hd (fun x hx => by
        have := h x hx
        have : x ≠ C := fun e => hm (e ▸ hx)
        omega)
      omega
theorem asum_sumN (r : List Int) : asum r = sumN r.length (fun j => (gi r j).natAbs) := by
  have h : ∀ x, x ≤ r.length → asum (r.take x) = sumN x (fun j => (gi r j).natAbs) := by
    intro x
    induction x with
    | zero => intro _; simp [asum, sumN]
    | succ x ih =>
      intro hx
      rw [asum_succ (by omega), ih (by omega), sumN]
      have : gi r x = r[x] := by unfold gi; rw [List.getElem?_eq_getElem (by omega)]; rfl
      rw [this]
  have := h r.length (Nat.le_refl _)
  rwa [List.take_length] at this
/-- the elements of a list of rows -/
def matZ (rows : List (List Int)) (i j : Nat) : Int := gi (rows[i]?.getD []) j
theorem matZ_get {rows : List (List Int)} {i : Nat} (h : i < rows.length) (j : Nat) : matZ rows i j = gi rows[i] j := by unfold matZ; rw [List.getElem?_eq_getElem h]; rfl
theorem rsum_le {rows : List (List Int)} {C n r i : Nat} {κ : Nat → Nat} (hn : rows.length = n) (hc : ∀ r ∈ rows, r.length = C) (hs : ∀ r ∈ rows, asum r ≤ 4) (hκ : Bij C κ) (hr : r ≤ C) (hi : i < n) : rsum (List.range' 0 r) (fun j => matZ rows i (κ j)) ≤ 4 := by
  have hi' : i < rows.length := by omega
  have h1 := sum_nodup (fun j => (matZ rows i j).natAbs) C ((List.range' 0 r).map κ) (by
    rw [List.Nodup, List.pairwise_map]
    refine (List.nodup_range' (step := 1)).imp_of_mem (fun {a b} ha hb hne he => hne ?_)
    have h1 := List.mem_range'_1.1 ha
    have h2 := List.mem_range'_1.1 hb
    exact hκ.inj a b (by omega) (by omega) he) (fun x hx => by
      obtain ⟨y, hy, rfl⟩ := List.mem_map.1 hx
      have h1 := List.mem_range'_1.1 hy
      exact hκ.lt y (by omega))
  rw [List.map_map] at h1
  have h2 := hs _ (List.getElem_mem hi')
  rw [asum_sumN, hc _ (List.getElem_mem hi')] at h2
  have h3 : sumN C (fun j => (matZ rows i j).natAbs) = sumN C (fun j => (gi rows[i] j).natAbs) := sumN_congr (fun j _ => by rw [matZ_get hi'])
  rw [h3] at h1
  exact Nat.le_trans h1 h2
theorem one_le4 {rows : List (List Int)} {n i : Nat} (hn : rows.length = n) (hs : ∀ r ∈ rows, asum r ≤ 4) (hi : i < n) (j : Nat) : (matZ rows i j).natAbs ≤ 4 := by
  have hi' : i < rows.length := by omega
  rw [matZ_get hi']
  rcases Nat.lt_or_ge j rows[i].length with q | q
  · have h1 : gi rows[i] j = rows[i][j] := by unfold gi; rw [List.getElem?_eq_getElem q]; rfl
    rw [h1]
    exact Nat.le_trans (asum_mem (List.getElem_mem q)) (hs _ (List.getElem_mem hi'))
  · have h1 : gi rows[i] j = 0 := by unfold gi; rw [List.getElem?_eq_none q]; rfl
    rw [h1]; simp
/-- a minor that is not 0, with as many rows as there are at all -/
structure Mnr (n C r : Nat) (M : Nat → Nat → Int) (ρ κ : Nat → Nat) (δ : Int) : Prop where
  row : Bij n ρ
  col : Bij C κ
  rn : r ≤ n
  rC : r ≤ C
  det : dt (List.range' 0 r) (fun l j => M (ρ l) (κ j)) = δ
  ne : δ ≠ 0
  brd : ∀ i j, i < n → j < C → dt (j :: List.range' 0 r) (fun l c => M (ρ (if l < r then l else i)) (κ c)) = 0
theorem mod_small {p : Nat} {a : Int} (h : (p : Int) ∣ a) (hb : a.natAbs < p) : a = 0 := by
  by_cases e : a = 0
  · exact e
  · have h1 := Int.ofNat_dvd_left.1 h
    have := Nat.le_of_dvd (by omega) h1
    omega
theorem minor_facts {rows : List (List Int)} {C : Nat} (hn : rows.length ≤ 14) (hc : ∀ r ∈ rows, r.length = C) (hs : ∀ r ∈ rows, asum r ≤ 4) :
    ∃ r ρ κ δ, Mnr rows.length C r (matZ rows) ρ κ δ ∧ smD C rows = 2 * δ.natAbs := by
  obtain ⟨n, hnn⟩ : ∃ n, n = rows.length := ⟨_, rfl⟩
  have hlt := resF_ltm (m := 2305843009213693951) (by omega) rows
  have hcl := resF_cl (m := 2305843009213693951) hc
  have hst : EI n C 0 (matZ rows) (resF 2305843009213693951 rows) (fun i => i) (fun j => j) := EI.start (by rw [resF_length]; exact hnn.symm) (fun i j hi hj => by
    have hi' : i < rows.length := by omega
    have hge : ge (resF 2305843009213693951 rows) i j = rs 2305843009213693951 (gi rows[i] j) := by
      unfold ge gr resF
      rw [List.getElem?_map, List.getElem?_eq_getElem hi']
      simp only [Option.map_some, Option.getD_some]
      unfold gn resR gi
      rw [List.getElem?_map, List.getElem?_eq_getElem (by rw [hc _ (List.getElem_mem hi')]; exact hj)]; rfl
    rw [hge, matZ_get hi']
    unfold rs
    split
    · next h =>
      have := mod_sub_dvd 2305843009213693951 0 (gi rows[i] j).natAbs (by omega)
      rwa [show ((0 : Nat) : Int) - ((gi rows[i] j).natAbs : Int) = gi rows[i] j by omega] at this
    · next h =>
      have h1 := Nat.div_add_mod (gi rows[i] j).natAbs 2305843009213693951
      refine ⟨-(((gi rows[i] j).natAbs / 2305843009213693951 : Nat) : Int), ?_⟩
      omega)
  obtain ⟨r, A', ρ, κ, hf⟩ := elF_fin (n := n) (C := C) (M := matZ rows) (rows.length + 1) (resF 2305843009213693951 rows) 0 1 _ _ hst hcl hlt (Nat.zero_le _) (Nat.zero_le _) (by omega) (Or.inl (by simp [prodI]))
  obtain ⟨m1, m2⟩ := elF_ne (C := C) (rows.length + 1) (resF 2305843009213693951 rows) 0 1 hlt hcl (by omega) (by omega)
  have hsm : smD C rows = 2 * (minS (elF C (rows.length + 1) (resF 2305843009213693951 rows) 0 1).2).natAbs := rfl
  generalize (elF C (rows.length + 1) (resF 2305843009213693951 rows) 0 1).2 = mi at *
  obtain ⟨he, hrn, hrC, hz, hm⟩ := hf
  have hr14 : r ≤ 14 := by omega
  have hlen : (List.range' 0 r).length = r := by simp
  obtain ⟨δ, hδ⟩ : ∃ δ, δ = dt (List.range' 0 r) (fun l j => matZ rows (ρ l) (κ j)) := ⟨_, rfl⟩
  have hb : δ.natAbs ≤ 4 ^ 14 := by
    rw [hδ]
    refine Nat.le_trans (dt_bound _ _) ?_
    rw [hlen]
    refine Nat.le_trans (prodN_mono (g := fun _ => 4) (fun l hl => rsum_le hnn.symm hc hs he.col hrC (he.row.lt l (by omega)))) ?_
    rw [prodN_const]
    exact Nat.pow_le_pow_right (by omega) hr14
  have h1 := he.det (List.range' 0 r) (fun l => l) (by rw [hlen]; exact Nat.le_refl _) (fun j hj => by have := List.mem_range'_1.1 hj; omega) (fun l hl => by rw [hlen] at hl; omega) (fun l _ => rfl)
  rw [dt_tri r 0 (fun l j => (ge A' l j : Int)) (fun l j hl hj hlt' => by
    rw [Nat.zero_add]
    show ((ge A' l j : Nat) : Int) = 0
    rw [he.tri l j (by omega) hj hlt']; rfl), ← hδ] at h1
  have e0 : prodI r (fun l => ((ge A' l (0 + l) : Nat) : Int)) = prodI r (fun l => (ge A' l l : Int)) := prodI_congr (fun l _ => by rw [Nat.zero_add])
  rw [e0] at h1
  generalize prodI r (fun l => (ge A' l l : Int)) = P at *
  have hms : ((2305843009213693951 : Nat) : Int) ∣ minS mi - (mi : Int) := by
    unfold minS
    split
    · exact ⟨-1, by omega⟩
    · exact ⟨0, by omega⟩
  obtain ⟨b1, b2⟩ := minS_bd m1 m2
  have hb' : δ.natAbs ≤ 268435456 := hb
  have hpm : (minS mi).natAbs = δ.natAbs := by
    rcases hm with hm | hm
    · have h2 : ((2305843009213693951 : Nat) : Int) ∣ minS mi - δ := by
        have e : minS mi - δ = (minS mi - (mi : Int)) + ((mi : Int) - P) + (P - δ) := by omega
        rw [e]; exact Int.dvd_add (Int.dvd_add hms hm) h1
      have := mod_small h2 (by omega)
      omega
    · have h2 : ((2305843009213693951 : Nat) : Int) ∣ minS mi + δ := by
        have e : minS mi + δ = (minS mi - (mi : Int)) + ((mi : Int) + P) - (P - δ) := by omega
        rw [e]; exact Int.dvd_sub (Int.dvd_add hms hm) h1
      have := mod_small h2 (by omega)
      omega
  refine ⟨r, ρ, κ, δ, ⟨by rw [← hnn]; exact he.row, he.col, by omega, hrC, hδ.symm, by omega, fun i j hi hj => ?_⟩, by rw [hsm, hpm]⟩
  rw [← hnn] at hi
  have hJl : (j :: List.range' 0 r).length = r + 1 := by simp
  rcases Nat.lt_or_ge i r with q | q
  · refine dt_alike (a := i) (b := r) (by rw [hJl]; omega) (by rw [hJl]; omega) (by omega) (fun c => ?_)
    show matZ rows (ρ (if i < r then i else i)) (κ c) = matZ rows (ρ (if r < r then r else i)) (κ c)
    rw [if_pos q, if_neg (by omega)]
  · have h2 := he.det (j :: List.range' 0 r) (fun l => if l < r then l else i) (by rw [hJl]; omega) (fun c hc' => by
      rcases List.mem_cons.1 hc' with e | e
      · rw [e]; exact hj
      · have := List.mem_range'_1.1 e; omega) (fun l hl => by
        show (if l < r then l else i) < n
        split <;> omega) (fun l hl => if_pos hl)
    have hzero : dt (j :: List.range' 0 r) (fun l c => (ge A' (if l < r then l else i) c : Int)) = 0 := by
      have e : dt (j :: List.range' 0 r) (fun l c => (ge A' (if l < r then l else i) c : Int)) = dt (j :: List.range' 0 r) (fup (fun l c => (ge A' (if l < r then l else i) c : Int)) r (fun _ => 0)) := dt_congr (fun l hl c hc' => by
        unfold fup
        by_cases e : l = r
        · rw [if_pos e, e]
          simp only [if_neg (show ¬ r < r by omega)]
          rw [hz i c q hi (by
            rcases List.mem_cons.1 hc' with e | e
            · rw [e]; exact hj
            · have := List.mem_range'_1.1 e; omega)]; rfl
        · rw [if_neg e])
      rw [e]
      exact dt_zero (by rw [hJl]; omega)
    rw [hzero] at h2
    have hbd : (dt (j :: List.range' 0 r) (fun l c => matZ rows (ρ (if l < r then l else i)) (κ c))).natAbs ≤ 8 ^ 15 := by
      refine Nat.le_trans (dt_bound _ _) ?_
      rw [hJl]
      refine Nat.le_trans (prodN_mono (g := fun _ => 8) (fun l hl => ?_)) ?_
      · show rsum (j :: List.range' 0 r) (fun c => matZ rows (ρ (if l < r then l else i)) (κ c)) ≤ 8
        have hρ : ρ (if l < r then l else i) < n := he.row.lt _ (by split <;> omega)
        have a1 := rsum_le (rows := rows) hnn.symm hc hs he.col hrC hρ
        have a2 := one_le4 (rows := rows) hnn.symm hs hρ (κ j)
        have a3 : rsum (j :: List.range' 0 r) (fun c => matZ rows (ρ (if l < r then l else i)) (κ c)) = (matZ rows (ρ (if l < r then l else i)) (κ j)).natAbs + rsum (List.range' 0 r) (fun c => matZ rows (ρ (if l < r then l else i)) (κ c)) := by simp [rsum]
        omega
      · rw [prodN_const]
        exact Nat.pow_le_pow_right (by omega) (by omega)
    have hbd' : (dt (j :: List.range' 0 r) (fun l c => matZ rows (ρ (if l < r then l else i)) (κ c))).natAbs ≤ 35184372088832 := hbd
    exact mod_small (p := 2305843009213693951) (by
      have := Int.dvd_neg.2 h2
      rwa [Int.zero_sub, Int.neg_neg] at this) (by omega)
end Go.Proofs.Ytcjaloddgilnpaa

namespace Go.Proofs.Ytcjaloddgilnpaa
set_option linter.unusedVariables false

theorem sumI_mulr {C : Nat} (f : Nat → Int) (b : Int) : sumI C (fun l => f l * b) = sumI C f * b := by
  induction C with
  | zero => simp [sumI]
  | succ c ih => simp only [sumI]; rw [ih, Int.add_mul]
theorem sumI_plus {C : Nat} (f g : Nat → Int) : sumI C (fun l => f l + g l) = sumI C f + sumI C g := by
  induction C with
  | zero => simp [sumI]
  | succ c ih => simp only [sumI]; rw [ih]; omega
theorem sumI_swap (n r : Nat) (F : Nat → Nat → Int) : sumI n (fun i => sumI r (fun k => F i k)) = sumI r (fun k => sumI n (fun i => F i k)) := by
  induction n with
  | zero => simp only [sumI]; rw [sumI_zero]
  | succ n ih => simp only [sumI]; rw [ih, sumI_plus]
/-- what has finite order modulo the rows is killed by δ -/
def Tk (n C : Nat) (δ : Int) (M : Nat → Nat → Int) : Prop :=
  ∀ (v : Nat → Int) (t : Int) (z : Nat → Int), t ≠ 0 → (∀ j, j < C → t * v j = sumI n (fun i => z i * M i j)) → ∃ z' : Nat → Int, ∀ j, j < C → δ * v j = sumI n (fun i => z' i * M i j)
theorem sgn_sq (k : Nat) : sgn k * sgn k = 1 := by unfold sgn; split <;> rfl
theorem Mnr.rows {n C r : Nat} {M : Nat → Nat → Int} {ρ κ : Nat → Nat} {δ : Int} (h : Mnr n C r M ρ κ δ) (i : Nat) (hi : i < n) : ∃ c : Nat → Int, ∀ j, j < C → δ * M i j = sumI r (fun k => c k * M (ρ k) j) := by
  obtain ⟨i', hi', rfl⟩ := h.row.sur i hi
  refine ⟨fun k => -(sgn r * (sgn k * dt (List.range' 0 r) (fun l c => M (ρ (if skp k l < r then skp k l else i')) (κ c)))), fun j hj => ?_⟩
  obtain ⟨j', hj', rfl⟩ := h.col.sur j hj
  have hb := h.brd i' j' hi' hj'
  rw [dt, List.length_range', sumI] at hb
  have e1 : dt (List.range' 0 r) (fun l c => M (ρ (if skp r l < r then skp r l else i')) (κ c)) = δ := by
    rw [← h.det]
    refine dt_congr (fun l hl c _ => ?_)
    rw [List.length_range'] at hl
    have : skp r l = l := by unfold skp; rw [if_pos hl]
    rw [this, if_pos hl]
  rw [if_neg (show ¬ r < r by omega), e1] at hb
  have e2 : sumI r (fun k => sgn k * M (ρ (if k < r then k else i')) (κ j') * dt (List.range' 0 r) (fun l c => M (ρ (if skp k l < r then skp k l else i')) (κ c))) = sumI r (fun k => (sgn k * dt (List.range' 0 r) (fun l c => M (ρ (if skp k l < r then skp k l else i')) (κ c))) * M (ρ k) (κ j')) := sumI_congr (fun k hk => by
    rw [if_pos hk, Int.mul_assoc, Int.mul_comm (M (ρ k) (κ j')), ← Int.mul_assoc])
  rw [e2] at hb
  have e3 : sumI r (fun k => -(sgn r * (sgn k * dt (List.range' 0 r) (fun l c => M (ρ (if skp k l < r then skp k l else i')) (κ c)))) * M (ρ k) (κ j')) = -(sgn r) * sumI r (fun k => (sgn k * dt (List.range' 0 r) (fun l c => M (ρ (if skp k l < r then skp k l else i')) (κ c))) * M (ρ k) (κ j')) := by
    rw [← sumI_mul]
    exact sumI_congr (fun k _ => by rw [Int.neg_mul, Int.neg_mul, Int.mul_assoc (sgn r)])
  rw [e3]
  generalize sumI r (fun k => (sgn k * dt (List.range' 0 r) (fun l c => M (ρ (if skp k l < r then skp k l else i')) (κ c))) * M (ρ k) (κ j')) = S at *
  generalize M (ρ i') (κ j') = x at *
  have e4 : sgn r * S + sgn r * (sgn r * x * δ) = 0 := by rw [← Int.mul_add, hb, Int.mul_zero]
  have e5 : sgn r * (sgn r * x * δ) = x * δ := by rw [← Int.mul_assoc, ← Int.mul_assoc, sgn_sq, Int.one_mul]
  rw [e5, Int.mul_comm x δ] at e4
  rw [Int.neg_mul]
  omega
theorem Mnr.tk {n C r : Nat} {M : Nat → Nat → Int} {ρ κ : Nat → Nat} {δ : Int} (h : Mnr n C r M ρ κ δ) : Tk n C δ M := by
  intro v t z ht hv
  have hrow : ∀ i, ∃ c : Nat → Int, i < n → ∀ j, j < C → δ * M i j = sumI r (fun k => c k * M (ρ k) j) := fun i => by
    by_cases hi : i < n
    · obtain ⟨c, hc⟩ := h.rows i hi; exact ⟨c, fun _ => hc⟩
    · exact ⟨fun _ => 0, fun q => absurd q hi⟩
  obtain ⟨c, hc⟩ : ∃ c : Nat → Nat → Int, ∀ i, i < n → ∀ j, j < C → δ * M i j = sumI r (fun k => c i k * M (ρ k) j) := ⟨fun i => (hrow i).choose, fun i => (hrow i).choose_spec⟩
  obtain ⟨B, hB⟩ : ∃ B : Nat → Int, B = fun k => sumI n (fun i => z i * c i k) := ⟨_, rfl⟩
  have h1 : ∀ j, j < C → δ * t * v j = sumI r (fun k => B k * M (ρ k) j) := by
    intro j hj
    have e1 : δ * t * v j = sumI n (fun i => z i * (δ * M i j)) := by
      rw [Int.mul_assoc, hv j hj, ← sumI_mul]
      exact sumI_congr (fun i _ => by rw [Int.mul_left_comm])
    rw [e1]
    have e2 : sumI n (fun i => z i * (δ * M i j)) = sumI n (fun i => sumI r (fun k => z i * c i k * M (ρ k) j)) := sumI_congr (fun i hi => by
      rw [hc i hi j hj, ← sumI_mul]
      exact sumI_congr (fun k _ => by rw [Int.mul_assoc]))
    rw [e2, sumI_swap]
    exact sumI_congr (fun k _ => by rw [sumI_mulr, hB])
  have hlen : (List.range' 0 r).length = r := by simp
  obtain ⟨β, hβ⟩ : ∃ β : Nat → Int, β = fun k => dt (List.range' 0 r) (fup (fun l j => M (ρ l) (κ j)) k (fun j => v (κ j))) := ⟨_, rfl⟩
  have h2 : ∀ k, k < r → B k = t * β k := by
    intro k hk
    have e1 := dt_mul (J := List.range' 0 r) (f := fun l j => M (ρ l) (κ j)) (k := k) (fun j => v (κ j)) (δ * t) (by rw [hlen]; exact hk)
    have e2 := dt_comb (J := List.range' 0 r) (f := fun l j => M (ρ l) (κ j)) (k := k) (by rw [hlen]; exact hk) B
    rw [hlen] at e2
    have e3 : dt (List.range' 0 r) (fup (fun l j => M (ρ l) (κ j)) k (fun j => δ * t * v (κ j))) = dt (List.range' 0 r) (fup (fun l j => M (ρ l) (κ j)) k (fun j => sumI r (fun l => B l * M (ρ l) (κ j)))) := dt_congr (fun l hl j hj => by
      unfold fup
      split
      · have hj' := List.mem_range'_1.1 hj
        exact h1 (κ j) (h.col.lt j (by have := h.rC; omega))
      · rfl)
    rw [e1, e2, h.det] at e3
    have e4 : δ * (t * β k) = δ * B k := by
      rw [hβ, ← Int.mul_assoc, e3, Int.mul_comm]
    exact (Int.eq_of_mul_eq_mul_left h.ne e4).symm
  have h3 : ∀ j, j < C → δ * v j = sumI r (fun k => β k * M (ρ k) j) := by
    intro j hj
    have e1 : t * (δ * v j) = t * sumI r (fun k => β k * M (ρ k) j) := by
      rw [← sumI_mul, ← Int.mul_assoc, Int.mul_comm t δ, h1 j hj]
      exact sumI_congr (fun k hk => by rw [h2 k hk, Int.mul_assoc])
    exact Int.eq_of_mul_eq_mul_left ht e1
  refine ⟨fun i => sumI r (fun k => if ρ k = i then β k else 0), fun j hj => ?_⟩
  rw [h3 j hj]
  have e1 : sumI n (fun i => sumI r (fun k => if ρ k = i then β k else 0) * M i j) = sumI n (fun i => sumI r (fun k => (if ρ k = i then β k else 0) * M i j)) := sumI_congr (fun i _ => by rw [sumI_mulr])
  rw [e1, sumI_swap]
  refine sumI_congr (fun k hk => ?_)
  have hk' : ρ k < n := h.row.lt k (by have := h.rn; omega)
  rw [sumI_single (f := fun i => (if ρ k = i then β k else 0) * M i j) hk' (fun l _ hne => by
    show (if ρ k = l then β k else 0) * M l j = 0
    rw [if_neg (fun e => hne e.symm), Int.zero_mul])]
  rw [if_pos rfl]
end Go.Proofs.Ytcjaloddgilnpaa

namespace Go.Proofs.Ytcjaloddgilnpaa
set_option linter.unusedVariables false

def rAdd (a b : Nat) (c : Int) (M : Nat → Nat → Int) : Nat → Nat → Int := fun i j => if i = a then M a j + c * M b j else M i j
def cAdd (a b : Nat) (c : Int) (M : Nat → Nat → Int) : Nat → Nat → Int := fun i j => if j = a then M i a + c * M i b else M i j
/-- a property that the steps keep -/
structure ClP (n C : Nat) (P : (Nat → Nat → Int) → Prop) : Prop where
  r : ∀ M a b c, a < n → b < n → a ≠ b → P M → P (rAdd a b c M)
  c : ∀ M a b c, a < C → b < C → a ≠ b → P M → P (cAdd a b c M)
def blkZ (n C k : Nat) (M : Nat → Nat → Int) : Prop := ∀ i j, i < n → j < C → (i < k ∨ j < k) → i ≠ j → M i j = 0
section
variable {n C k : Nat} {P : (Nat → Nat → Int) → Prop} {M : Nat → Nat → Int}
theorem blkZ.r (h : blkZ n C k M) {a b : Nat} (c : Int) (ha : a < n) (hb : b < n) (hka : k ≤ a) (hkb : k ≤ b) : blkZ n C k (rAdd a b c M) := by
  intro i j hi hj hor hne
  unfold rAdd
  split
  · next e =>
    rw [h a j ha hj (by omega) (by omega), h b j hb hj (by omega) (by omega)]; simp
  · exact h i j hi hj hor hne
theorem blkZ.c (h : blkZ n C k M) {a b : Nat} (c : Int) (ha : a < C) (hb : b < C) (hka : k ≤ a) (hkb : k ≤ b) : blkZ n C k (cAdd a b c M) := by
  intro i j hi hj hor hne
  unfold cAdd
  split
  · next e =>
    rw [h i a hi ha (by omega) (by omega), h i b hi hb (by omega) (by omega)]; simp
  · exact h i j hi hj hor hne
theorem swapRZ (hP : ClP n C P) (h : P M) (hb : blkZ n C k M) {a : Nat} (hk : k < n) (ha : a < n) (hka : k ≤ a) : ∃ M', P M' ∧ blkZ n C k M' ∧ ∀ j, M' k j = M a j := by
  by_cases e : a = k
  · exact ⟨M, h, hb, fun j => by rw [e]⟩
  · have e' : k ≠ a := fun q => e q.symm
    refine ⟨rAdd k a 1 (rAdd a k (-1) (rAdd k a 1 M)), hP.r _ _ _ _ hk ha e' (hP.r _ _ _ _ ha hk e (hP.r _ _ _ _ hk ha e' h)), ((hb.r 1 hk ha (Nat.le_refl _) hka).r (-1) ha hk hka (Nat.le_refl _)).r 1 hk ha (Nat.le_refl _) hka, fun j => ?_⟩
    simp only [rAdd, if_pos, if_neg e, if_neg e']
    omega
theorem swapCZ (hP : ClP n C P) (h : P M) (hb : blkZ n C k M) {a : Nat} (hk : k < C) (ha : a < C) (hka : k ≤ a) : ∃ M', P M' ∧ blkZ n C k M' ∧ ∀ i, M' i k = M i a := by
  by_cases e : a = k
  · exact ⟨M, h, hb, fun j => by rw [e]⟩
  · have e' : k ≠ a := fun q => e q.symm
    refine ⟨cAdd k a 1 (cAdd a k (-1) (cAdd k a 1 M)), hP.c _ _ _ _ hk ha e' (hP.c _ _ _ _ ha hk e (hP.c _ _ _ _ hk ha e' h)), ((hb.c 1 hk ha (Nat.le_refl _) hka).c (-1) ha hk hka (Nat.le_refl _)).c 1 hk ha (Nat.le_refl _) hka, fun j => ?_⟩
    simp only [cAdd, if_pos, if_neg e, if_neg e']
    omega
theorem clearC (hP : ClP n C P) (h : P M) (hb : blkZ n C k M) (hk : k < n) (hd : ∀ i, k < i → i < n → M k k ∣ M i k) : ∃ M', P M' ∧ blkZ n C k M' ∧ (∀ j, M' k j = M k j) ∧ ∀ i, k < i → i < n → M' i k = 0 := by
  have key : ∀ x, ∃ M', P M' ∧ blkZ n C k M' ∧ (∀ j, M' k j = M k j) ∧ (∀ i, k < i → i < n → i < x → M' i k = 0) ∧ (∀ i, x ≤ i → ∀ j, M' i j = M i j) := by
    intro x
    induction x with
    | zero => exact ⟨M, h, hb, fun _ => rfl, fun i _ _ q => by omega, fun _ _ _ => rfl⟩
    | succ x ih =>
      obtain ⟨M', h1, h2, h3, h4, h5⟩ := ih
      by_cases hx : k < x ∧ x < n
      · obtain ⟨q, hq⟩ := hd x hx.1 hx.2
        refine ⟨rAdd x k (-q) M', hP.r _ _ _ _ hx.2 hk (by omega) h1, h2.r (-q) hx.2 hk (by omega) (Nat.le_refl _), fun j => ?_, fun i i1 i2 i3 => ?_, fun i hi j => ?_⟩
        · unfold rAdd; rw [if_neg (by omega)]; exact h3 j
        · unfold rAdd
          split
          · rw [h5 x (Nat.le_refl _) k, h3 k, hq, Int.neg_mul, Int.mul_comm q]; omega
          · exact h4 i i1 i2 (by omega)
        · unfold rAdd; rw [if_neg (by omega)]; exact h5 i (by omega) j
      · exact ⟨M', h1, h2, h3, fun i i1 i2 i3 => h4 i i1 i2 (by omega), fun i hi j => h5 i (by omega) j⟩
  obtain ⟨M', h1, h2, h3, h4, _⟩ := key n
  exact ⟨M', h1, h2, h3, fun i i1 i2 => h4 i i1 i2 i2⟩
theorem clearR (hP : ClP n C P) (h : P M) (hb : blkZ n C k M) (hk : k < C) (hd : ∀ j, k < j → j < C → M k k ∣ M k j) : ∃ M', P M' ∧ blkZ n C k M' ∧ (∀ i, M' i k = M i k) ∧ ∀ j, k < j → j < C → M' k j = 0 := by
  have key : ∀ x, ∃ M', P M' ∧ blkZ n C k M' ∧ (∀ i, M' i k = M i k) ∧ (∀ j, k < j → j < C → j < x → M' k j = 0) ∧ (∀ j, x ≤ j → ∀ i, M' i j = M i j) := by
    intro x
    induction x with
    | zero => exact ⟨M, h, hb, fun _ => rfl, fun i _ _ q => by omega, fun _ _ _ => rfl⟩
    | succ x ih =>
      obtain ⟨M', h1, h2, h3, h4, h5⟩ := ih
      by_cases hx : k < x ∧ x < C
      · obtain ⟨q, hq⟩ := hd x hx.1 hx.2
        refine ⟨cAdd x k (-q) M', hP.c _ _ _ _ hx.2 hk (by omega) h1, h2.c (-q) hx.2 hk (by omega) (Nat.le_refl _), fun i => ?_, fun j i1 i2 i3 => ?_, fun j hj i => ?_⟩
        · unfold cAdd; rw [if_neg (by omega)]; exact h3 i
        · unfold cAdd
          split
          · rw [h5 x (Nat.le_refl _) k, h3 k, hq, Int.neg_mul, Int.mul_comm q]; omega
          · exact h4 j i1 i2 (by omega)
        · unfold cAdd; rw [if_neg (by omega)]; exact h5 j (by omega) i
      · exact ⟨M', h1, h2, h3, fun i i1 i2 i3 => h4 i i1 i2 (by omega), fun i hi j => h5 i (by omega) j⟩
  obtain ⟨M', h1, h2, h3, h4, _⟩ := key C
  exact ⟨M', h1, h2, h3, fun i i1 i2 => h4 i i1 i2 i2⟩
end
theorem rem_small {a e : Int} (he : e ≠ 0) (hd : ¬ e ∣ a) : a + -(a / e) * e ≠ 0 ∧ (a + -(a / e) * e).natAbs < e.natAbs := by
  have h1 : a + -(a / e) * e = a % e := by rw [Int.emod_def, Int.neg_mul, Int.mul_comm (a / e)]; omega
  rw [h1]
  have h2 := Int.emod_nonneg a he
  have h3 := Int.emod_lt a he
  refine ⟨fun q => hd (Int.dvd_of_emod_eq_zero q), ?_⟩
  omega
theorem stepZ {n C k : Nat} {P : (Nat → Nat → Int) → Prop} (hP : ClP n C P) (hk : k < n) (hkC : k < C) : ∀ (μ : Nat) (M : Nat → Nat → Int), P M → blkZ n C k M → (∃ a b, k ≤ a ∧ a < n ∧ k ≤ b ∧ b < C ∧ M a b ≠ 0 ∧ (M a b).natAbs ≤ μ) → ∃ M', P M' ∧ blkZ n C (k + 1) M'
  | 0, M, _, _, ⟨a, b, _, _, _, _, h1, h2⟩ => by omega
  | μ + 1, M, h, hb, ⟨a, b, ha1, ha2, hb1, hb2, hne, hle⟩ => by
    obtain ⟨M1, p1, k1, e1⟩ := swapRZ hP h hb hk ha2 ha1
    obtain ⟨M2, p2, k2, e2⟩ := swapCZ hP p1 k1 hkC hb2 hb1
    have he : M2 k k = M a b := by rw [e2, e1]
    rw [← he] at hne hle
    by_cases q1 : ∀ i, k < i → i < n → M2 k k ∣ M2 i k
    · obtain ⟨M3, p3, k3, e3, z3⟩ := clearC hP p2 k2 hk q1
      by_cases q2 : ∀ j, k < j → j < C → M3 k k ∣ M3 k j
      · obtain ⟨M4, p4, k4, e4, z4⟩ := clearR hP p3 k3 hkC q2
        refine ⟨M4, p4, fun i j hi hj hor hij => ?_⟩
        by_cases w : i < k ∨ j < k
        · exact k4 i j hi hj w hij
        · by_cases w2 : i = k
          · subst w2; exact z4 j (by omega) hj
          · have w3 : j = k := by omega
            subst w3
            rw [e4]; exact z3 i (by omega) hi
      · have ⟨j, hj⟩ := Classical.not_forall.1 q2
        have ⟨j1, hj'⟩ := Classical.not_imp.1 hj
        have ⟨j2, hnd⟩ := Classical.not_imp.1 hj'
        rw [e3 k] at hnd
        obtain ⟨r1, r2⟩ := rem_small hne hnd
        refine stepZ hP hk hkC μ (cAdd j k (-(M3 k j / M2 k k)) M3) (hP.c _ _ _ _ j2 hkC (by omega) p3) (k3.c _ j2 hkC (by omega) (Nat.le_refl _)) ⟨k, j, Nat.le_refl _, hk, by omega, j2, ?_, ?_⟩
        · simp only [cAdd, if_pos]; rw [e3 k]; exact r1
        · simp only [cAdd, if_pos]; rw [e3 k]; omega
    · have ⟨i, hi⟩ := Classical.not_forall.1 q1
      have ⟨i1, hi'⟩ := Classical.not_imp.1 hi
      have ⟨i2, hnd⟩ := Classical.not_imp.1 hi'
      obtain ⟨r1, r2⟩ := rem_small hne hnd
      refine stepZ hP hk hkC μ (rAdd i k (-(M2 i k / M2 k k)) M2) (hP.r _ _ _ _ i2 hk (by omega) p2) (k2.r _ i2 hk (by omega) (Nat.le_refl _)) ⟨i, k, by omega, i2, Nat.le_refl _, hkC, ?_, ?_⟩
      · simp only [rAdd, if_pos]; exact r1
      · simp only [rAdd, if_pos]; omega
theorem diagZ {n C : Nat} {P : (Nat → Nat → Int) → Prop} {M : Nat → Nat → Int} (hP : ClP n C P) (h : P M) : ∃ M', P M' ∧ ∀ i j, i < n → j < C → i ≠ j → M' i j = 0 := by
  have key : ∀ k, k ≤ n → k ≤ C → ∃ M', P M' ∧ blkZ n C k M' := by
    intro k
    induction k with
    | zero => intro _ _; exact ⟨M, h, fun i j _ _ q => by omega⟩
    | succ k ih =>
      intro h1 h2
      obtain ⟨M', p, b⟩ := ih (by omega) (by omega)
      by_cases q : ∃ a b, k ≤ a ∧ a < n ∧ k ≤ b ∧ b < C ∧ M' a b ≠ 0
      · obtain ⟨a, b', a1, a2, b1, b2, hne⟩ := q
        exact stepZ hP (by omega) (by omega) (M' a b').natAbs M' p b ⟨a, b', a1, a2, b1, b2, hne, Nat.le_refl _⟩
      · refine ⟨M', p, fun i j hi hj hor hij => ?_⟩
        by_cases w : i < k ∨ j < k
        · exact b i j hi hj w hij
        · by_cases z : M' i j = 0
          · exact z
          · exact absurd ⟨i, j, by omega, hi, by omega, hj, z⟩ q
  rcases Nat.le_total n C with w | w
  · obtain ⟨M', p, b⟩ := key n (Nat.le_refl _) w
    exact ⟨M', p, fun i j hi hj hij => b i j hi hj (Or.inl hi) hij⟩
  · obtain ⟨M', p, b⟩ := key C w (Nat.le_refl _)
    exact ⟨M', p, fun i j hi hj hij => b i j hi hj (Or.inr hj) hij⟩
end Go.Proofs.Ytcjaloddgilnpaa

namespace Go.Proofs.Ytcjaloddgilnpaa
set_option linter.unusedVariables false

/-- digit j of t -/
def dg (e t j : Nat) : Nat := t / e ^ j % e
/-- the number with these digits -/
def enc (e : Nat) (x : Nat → Nat) : Nat → Nat
  | 0 => 0
  | c + 1 => enc e x c + x c * e ^ c
theorem enc_lt {e : Nat} {x : Nat → Nat} (he : 0 < e) : ∀ {c : Nat}, (∀ j, j < c → x j < e) → enc e x c < e ^ c
  | 0, _ => by simp [enc]
  | c + 1, h => by
    have h1 := enc_lt he (c := c) (fun j hj => h j (by omega))
    have h2 := h c (by omega)
    rw [enc, Nat.pow_succ]
    have h3 : (x c + 1) * e ^ c ≤ e * e ^ c := Nat.mul_le_mul_right _ h2
    rw [Nat.add_mul, Nat.one_mul, Nat.mul_comm e] at h3
    omega
theorem dg_enc {e : Nat} {x : Nat → Nat} (he : 0 < e) : ∀ {c j : Nat}, (∀ j, j < c → x j < e) → j < c → dg e (enc e x c) j = x j
  | 0, j, _, hj => by omega
  | c + 1, j, h, hj => by
    have hl := enc_lt he (c := c) (fun j hj => h j (by omega))
    have hp : 0 < e ^ j := Nat.pow_pos he
    unfold dg
    rw [enc]
    by_cases q : j = c
    · subst q
      rw [Nat.add_mul_div_right _ _ hp, Nat.div_eq_of_lt hl, Nat.zero_add, Nat.mod_eq_of_lt (h j (by omega))]
    · have e1 : x c * e ^ c = x c * e ^ (c - j - 1) * e * e ^ j := by
        rw [Nat.mul_assoc, Nat.mul_assoc, ← Nat.pow_succ', ← Nat.pow_add]
        congr 2; omega
      rw [e1, Nat.add_mul_div_right _ _ hp, Nat.add_mul_mod_self_right]
      exact dg_enc he (fun j hj => h j (by omega)) (by omega)
theorem enc_dg (e t : Nat) : ∀ c, enc e (dg e t) c = t % e ^ c
  | 0 => by simp [enc, Nat.mod_one]
  | c + 1 => by
    rw [enc, enc_dg e t c, Nat.mod_pow_succ, Nat.mul_comm (e ^ c)]; rfl
theorem dg_lt {e : Nat} (he : 0 < e) (t j : Nat) : dg e t j < e := Nat.mod_lt _ he
/-- how many vectors have the property -/
def cntV (e C : Nat) (p : (Nat → Nat) → Bool) : Nat := ((List.range (e ^ C)).filter (fun t => p (dg e t))).length
theorem len_le_of_sub : ∀ (l k : List Nat), l.Nodup → (∀ x ∈ l, x ∈ k) → l.length ≤ k.length
  | [], k, _, _ => by simp
  | a :: l, k, hd, h => by
    have hd' := List.nodup_cons.1 hd
    have ha := h a (by simp)
    have h1 := len_le_of_sub l (k.erase a) hd'.2 (fun x hx => by
      have hne : x ≠ a := fun e => hd'.1 (e ▸ hx)
      exact (List.mem_erase_of_ne hne).2 (h x (by simp [hx])))
    rw [List.length_erase_of_mem ha] at h1
    have : 0 < k.length := List.length_pos_of_mem ha
    simp only [List.length_cons]
    omega
/-- p depends on the first C places alone -/
def Loc (C : Nat) (p : (Nat → Nat) → Bool) : Prop := ∀ x y : Nat → Nat, (∀ j, j < C → x j = y j) → p x = p y
theorem cntV_le {e C : Nat} {p q : (Nat → Nat) → Bool} (he : 0 < e) (hq : Loc C q) (φ : (Nat → Nat) → Nat → Nat) (h1 : ∀ x, (∀ j, j < C → x j < e) → p x = true → q (φ x) = true ∧ ∀ j, j < C → φ x j < e)
    (h2 : ∀ x y, (∀ j, j < C → x j < e) → (∀ j, j < C → y j < e) → (∀ j, j < C → φ x j = φ y j) → ∀ j, j < C → x j = y j) : cntV e C p ≤ cntV e C q := by
  unfold cntV
  have hsub : ∀ z ∈ ((List.range (e ^ C)).filter (fun t => p (dg e t))).map (fun t => enc e (φ (dg e t)) C), z ∈ (List.range (e ^ C)).filter (fun t => q (dg e t)) := by
    intro z hz
    obtain ⟨t, ht, rfl⟩ := List.mem_map.1 hz
    obtain ⟨ht1, ht2⟩ := List.mem_filter.1 ht
    obtain ⟨a, b⟩ := h1 (dg e t) (fun j _ => dg_lt he t j) ht2
    refine List.mem_filter.2 ⟨List.mem_range.2 (enc_lt he b), ?_⟩
    rw [hq (dg e (enc e (φ (dg e t)) C)) (φ (dg e t)) (fun j hj => dg_enc he b hj)]
    exact a
  have hnd : (((List.range (e ^ C)).filter (fun t => p (dg e t))).map (fun t => enc e (φ (dg e t)) C)).Nodup := by
    rw [List.Nodup, List.pairwise_map]
    refine ((List.nodup_range (n := e ^ C)).filter _).imp_of_mem (fun {s t} hs ht hne he' => hne ?_)
    obtain ⟨hs1, hs2⟩ := List.mem_filter.1 hs
    obtain ⟨ht1, ht2⟩ := List.mem_filter.1 ht
    have hs3 := (h1 (dg e s) (fun j _ => dg_lt he s j) hs2).2
    have ht3 := (h1 (dg e t) (fun j _ => dg_lt he t j) ht2).2
    have h3 := h2 (dg e s) (dg e t) (fun j _ => dg_lt he s j) (fun j _ => dg_lt he t j) (fun j hj => by
      rw [← dg_enc he hs3 hj, ← dg_enc he ht3 hj, he'])
    have h4 : ∀ c, c ≤ C → enc e (dg e s) c = enc e (dg e t) c := by
      intro c
      induction c with
      | zero => intro _; rfl
      | succ c ih => intro hc; rw [enc, enc, ih (by omega), h3 c (by omega)]
    have h5 := h4 C (Nat.le_refl _)
    rw [enc_dg, enc_dg, Nat.mod_eq_of_lt (List.mem_range.1 hs1), Nat.mod_eq_of_lt (List.mem_range.1 ht1)] at h5
    exact h5
  have := len_le_of_sub _ _ hnd hsub
  rwa [List.length_map] at this
theorem cntV_congr {e C : Nat} {p q : (Nat → Nat) → Bool} (h : ∀ x, p x = q x) : cntV e C p = cntV e C q := by
  have : p = q := funext h
  rw [this]
/-- x is a solution modulo e -/
def solB (n C : Nat) (M : Nat → Nat → Int) (e : Nat) (x : Nat → Nat) : Bool := (List.range n).all fun i => decide ((e : Int) ∣ sumI C (fun j => M i j * (x j : Int)))
theorem solB_true {n C e : Nat} {M : Nat → Nat → Int} {x : Nat → Nat} : solB n C M e x = true ↔ ∀ i, i < n → (e : Int) ∣ sumI C (fun j => M i j * (x j : Int)) := by
  unfold solB
  rw [List.all_eq_true]
  exact ⟨fun h i hi => of_decide_eq_true (h i (List.mem_range.2 hi)), fun h i hi => decide_eq_true (h i (List.mem_range.1 hi))⟩
theorem solB_loc (n C : Nat) (M : Nat → Nat → Int) (e : Nat) : Loc C (solB n C M e) := by
  intro x y h
  unfold solB
  congr 1
  funext i
  rw [sumI_congr (f := fun j => M i j * (x j : Int)) (g := fun j => M i j * (y j : Int)) (fun j hj => by rw [h j hj])]
/-- the number of solutions -/
def nSol (n C : Nat) (M : Nat → Nat → Int) (e : Nat) : Nat := cntV e C (solB n C M e)
theorem nSol_row {n C : Nat} {M : Nat → Nat → Int} {e a b : Nat} (c : Int) (ha : a < n) (hb : b < n) (hab : a ≠ b) : nSol n C (rAdd a b c M) e = nSol n C M e := by
  refine cntV_congr (fun x => ?_)
  rw [Bool.eq_iff_iff, solB_true, solB_true]
  have e1 : ∀ i, i ≠ a → sumI C (fun j => rAdd a b c M i j * (x j : Int)) = sumI C (fun j => M i j * (x j : Int)) := fun i hi => sumI_congr (fun j _ => by unfold rAdd; rw [if_neg hi])
  have e2 : sumI C (fun j => rAdd a b c M a j * (x j : Int)) = sumI C (fun j => M a j * (x j : Int)) + c * sumI C (fun j => M b j * (x j : Int)) := by
    rw [← sumI_add]
    exact sumI_congr (fun j _ => by unfold rAdd; rw [if_pos rfl, Int.add_mul, Int.mul_assoc])
  constructor
  · intro h i hi
    by_cases q : i = a
    · subst q
      have h1 := h i hi
      have h2 := h b hb
      rw [e1 b (fun z => hab z.symm)] at h2
      rw [e2] at h1
      have := Int.dvd_sub h1 (Int.dvd_trans h2 (Int.dvd_mul_left c _))
      rwa [Int.add_sub_cancel] at this
    · rw [← e1 i q]; exact h i hi
  · intro h i hi
    by_cases q : i = a
    · subst q
      rw [e2]
      exact Int.dvd_add (h i hi) (Int.dvd_trans (h b hb) (Int.dvd_mul_left c _))
    · rw [e1 i q]; exact h i hi
theorem nSol_col_le {n C : Nat} {M : Nat → Nat → Int} {e a b : Nat} (he : 0 < e) (c : Int) (ha : a < C) (hb : b < C) (hab : a ≠ b) : nSol n C (cAdd a b c M) e ≤ nSol n C M e := by
  have hmod : ∀ x : Nat → Nat, (e : Int) ∣ ((((x b : Int) + c * (x a : Int)) % (e : Int)).toNat : Int) - ((x b : Int) + c * (x a : Int)) := by
    intro x
    have h0 := Int.emod_nonneg ((x b : Int) + c * (x a : Int)) (show (e : Int) ≠ 0 by omega)
    rw [Int.toNat_of_nonneg h0, Int.emod_def]
    exact ⟨-(((x b : Int) + c * (x a : Int)) / (e : Int)), by rw [Int.mul_neg]; omega⟩
  refine cntV_le he (solB_loc n C M e) (fun x j => if j = b then (((x b : Int) + c * (x a : Int)) % (e : Int)).toNat else x j) (fun x hx hs => ⟨?_, fun j hj => ?_⟩) (fun x y hx hy h j hj => ?_)
  · rw [solB_true] at hs ⊢
    intro i hi
    have h1 := hs i hi
    have e1 := sumI_one (f := fun j => cAdd a b c M i j * (x j : Int)) (g := fun j => M i j * (x j : Int)) ha (fun l _ hne => by
      show cAdd a b c M i l * (x l : Int) = M i l * (x l : Int)
      unfold cAdd; rw [if_neg hne])
    have e2 := sumI_one (f := fun j => M i j * ((if j = b then (((x b : Int) + c * (x a : Int)) % (e : Int)).toNat else x j : Nat) : Int)) (g := fun j => M i j * (x j : Int)) hb (fun l _ hne => by
      show M i l * ((if l = b then (((x b : Int) + c * (x a : Int)) % (e : Int)).toNat else x l : Nat) : Int) = M i l * (x l : Int)
      rw [if_neg hne])
    simp only [cAdd, if_pos] at e1
    simp only [cAdd] at h1
    simp only [if_pos] at e2
    rw [e2]
    rw [e1] at h1
    obtain ⟨q, hq⟩ := hmod x
    generalize ((((x b : Int) + c * (x a : Int)) % (e : Int)).toNat : Int) = X at *
    generalize sumI C (fun j => M i j * (x j : Int)) = S at *
    have e3 : S + (M i b * X - M i b * (x b : Int)) = (S + ((M i a + c * M i b) * (x a : Int) - M i a * (x a : Int))) + (e : Int) * (M i b * q) := by
      have e4 : X = (x b : Int) + c * (x a : Int) + (e : Int) * q := by omega
      rw [e4, Int.mul_add, Int.mul_add, Int.add_mul, Int.mul_left_comm (M i b) (e : Int) q, ← Int.mul_assoc (M i b) c, Int.mul_comm (M i b) c]
      omega
    rw [e3]
    exact Int.dvd_add h1 (Int.dvd_mul_right _ _)
  · show (if j = b then _ else x j) < e
    split
    · have h0 := Int.emod_nonneg ((x b : Int) + c * (x a : Int)) (show (e : Int) ≠ 0 by omega)
      have h1 := Int.emod_lt_of_pos ((x b : Int) + c * (x a : Int)) (show (0 : Int) < (e : Int) by omega)
      omega
    · exact hx j hj
  · have hA := h a ha
    rw [if_neg hab, if_neg hab] at hA
    by_cases q : j = b
    · subst q
      have hB := h j hj
      rw [if_pos rfl, if_pos rfl] at hB
      obtain ⟨q1, hq1⟩ := hmod x
      obtain ⟨q2, hq2⟩ := hmod y
      rw [hB] at hq1
      rw [hA] at hq1
      have h5 : (e : Int) ∣ (x j : Int) - (y j : Int) := ⟨q2 - q1, by rw [Int.mul_sub]; omega⟩
      have := hx j hj
      have := hy j hj
      have := mod_small h5 (by omega)
      omega
    · have := h j hj
      rwa [if_neg q, if_neg q] at this
theorem cAdd_back {a b : Nat} (hab : a ≠ b) (c : Int) (M : Nat → Nat → Int) : cAdd a b (-c) (cAdd a b c M) = M := by
  funext i j
  unfold cAdd
  by_cases q : j = a
  · rw [if_pos q, if_pos rfl, if_neg (fun z => hab z.symm), q, Int.neg_mul]; omega
  · rw [if_neg q, if_neg q]
theorem nSol_col {n C : Nat} {M : Nat → Nat → Int} {e a b : Nat} (he : 0 < e) (c : Int) (ha : a < C) (hb : b < C) (hab : a ≠ b) : nSol n C (cAdd a b c M) e = nSol n C M e := by
  apply Nat.le_antisymm (nSol_col_le he c ha hb hab)
  have := nSol_col_le (n := n) (M := cAdd a b c M) he (-c) ha hb hab
  rwa [cAdd_back hab] at this
end Go.Proofs.Ytcjaloddgilnpaa

namespace Go.Proofs.Ytcjaloddgilnpaa
set_option linter.unusedVariables false

theorem comb_row {n : Nat} {M : Nat → Nat → Int} {a b : Nat} (c : Int) (ha : a < n) (hb : b < n) (hab : a ≠ b) (z : Nat → Int) (j : Nat) :
    sumI n (fun i => z i * rAdd a b c M i j) = sumI n (fun i => (if i = b then z b + c * z a else z i) * M i j) := by
  have e := sumI_two (f := fun i => z i * rAdd a b c M i j) (g := fun i => (if i = b then z b + c * z a else z i) * M i j) ha hb hab (fun l _ h1 h2 => by
    show z l * rAdd a b c M l j = (if l = b then z b + c * z a else z l) * M l j
    unfold rAdd; rw [if_neg h1, if_neg h2])
  simp only [rAdd, if_pos, if_neg hab, if_neg (fun q : b = a => hab q.symm)] at e
  have e2 : z a * (M a j + c * M b j) - z a * M a j + (z b * M b j - (z b + c * z a) * M b j) = 0 := by
    rw [Int.mul_add, Int.add_mul, ← Int.mul_assoc, Int.mul_comm (z a) c]; omega
  have e3 : sumI n (fun i => z i * rAdd a b c M i j) = sumI n (fun i => z i * if i = a then M a j + c * M b j else M i j) := rfl
  rw [e3, e]; omega
theorem Tk.r {n C : Nat} {δ : Int} {M : Nat → Nat → Int} (h : Tk n C δ M) {a b : Nat} (c : Int) (ha : a < n) (hb : b < n) (hab : a ≠ b) : Tk n C δ (rAdd a b c M) := by
  intro v t z ht hv
  obtain ⟨w, hw⟩ := h v t (fun i => if i = b then z b + c * z a else z i) ht (fun j hj => by rw [hv j hj, comb_row c ha hb hab])
  refine ⟨fun i => if i = b then w b - c * w a else w i, fun j hj => ?_⟩
  rw [hw j hj, comb_row c ha hb hab]
  refine sumI_congr (fun i _ => ?_)
  by_cases q : i = b
  · subst q
    rw [if_pos rfl, if_pos rfl, if_neg hab]
    congr 1; omega
  · rw [if_neg q, if_neg q]
theorem comb_col {n : Nat} {M : Nat → Nat → Int} {a b : Nat} (c : Int) (z : Nat → Int) (j : Nat) :
    sumI n (fun i => z i * cAdd a b c M i j) = if j = a then sumI n (fun i => z i * M i a) + c * sumI n (fun i => z i * M i b) else sumI n (fun i => z i * M i j) := by
  unfold cAdd
  split
  · rw [← sumI_add]
    exact sumI_congr (fun i _ => by rw [Int.mul_add, Int.mul_left_comm])
  · rfl
theorem Tk.c {n C : Nat} {δ : Int} {M : Nat → Nat → Int} (h : Tk n C δ M) {a b : Nat} (c : Int) (ha : a < C) (hb : b < C) (hab : a ≠ b) : Tk n C δ (cAdd a b c M) := by
  intro v t z ht hv
  obtain ⟨w, hw⟩ := h (fun j => if j = a then v a - c * v b else v j) t z ht (fun j hj => by
    show t * (if j = a then v a - c * v b else v j) = _
    by_cases q : j = a
    · subst q
      have h1 := hv j hj
      have h2 := hv b hb
      rw [comb_col, if_pos rfl] at h1
      rw [comb_col, if_neg (fun z => hab z.symm)] at h2
      rw [if_pos rfl, Int.mul_sub, h1, Int.mul_left_comm, h2]; omega
    · have h1 := hv j hj
      rw [comb_col, if_neg q] at h1
      rw [if_neg q]; exact h1)
  refine ⟨w, fun j hj => ?_⟩
  rw [comb_col]
  by_cases q : j = a
  · subst q
    have h1 := hw j hj
    have h2 := hw b hb
    rw [if_pos rfl] at h1
    rw [if_neg (fun z => hab z.symm)] at h2
    rw [if_pos rfl, ← h1, ← h2, Int.mul_sub, Int.mul_left_comm]; omega
  · have h1 := hw j hj
    rw [if_neg q] at h1
    rw [if_neg q]; exact h1
/-- a diagonal form with the same numbers of solutions, whose elements divide the minor or are 0 -/
theorem diag_ex {n C : Nat} {δ : Int} {M : Nat → Nat → Int} (h : Tk n C δ M) : ∃ M' : Nat → Nat → Int, (∀ e, 0 < e → nSol n C M' e = nSol n C M e) ∧ (∀ i j, i < n → j < C → i ≠ j → M' i j = 0) ∧ ∀ i, i < n → i < C → M' i i = 0 ∨ M' i i ∣ δ := by
  obtain ⟨M', ⟨p1, p2⟩, hz⟩ := diagZ (n := n) (C := C) (P := fun X => (∀ e, 0 < e → nSol n C X e = nSol n C M e) ∧ Tk n C δ X) (M := M)
    ⟨fun X a b c ha hb hab hX => ⟨fun e he => by rw [nSol_row c ha hb hab]; exact hX.1 e he, hX.2.r c ha hb hab⟩,
     fun X a b c ha hb hab hX => ⟨fun e he => by rw [nSol_col he c ha hb hab]; exact hX.1 e he, hX.2.c c ha hb hab⟩⟩ ⟨fun _ _ => rfl, h⟩
  refine ⟨M', p1, hz, fun i hi hiC => ?_⟩
  by_cases q : M' i i = 0
  · exact Or.inl q
  · right
    obtain ⟨w, hw⟩ := p2 (fun j => if j = i then 1 else 0) (M' i i) (fun l => if l = i then 1 else 0) q (fun j hj => by
      rw [sumI_single (f := fun l => (if l = i then (1 : Int) else 0) * M' l j) hi (fun l _ hne => by
        show (if l = i then (1 : Int) else 0) * M' l j = 0
        rw [if_neg hne, Int.zero_mul])]
      rw [if_pos rfl, Int.one_mul]
      by_cases e : j = i
      · rw [if_pos e, e, Int.mul_one]
      · rw [if_neg e, Int.mul_zero, hz i j hi hj (fun z => e z.symm)])
    have h1 := hw i hiC
    rw [if_pos rfl, Int.mul_one, sumI_single (f := fun l => w l * M' l i) hi (fun l hl hne => by
      show w l * M' l i = 0
      rw [hz l i hl hiC hne, Int.mul_zero])] at h1
    exact ⟨w i, by rw [h1, Int.mul_comm]⟩
end Go.Proofs.Ytcjaloddgilnpaa
