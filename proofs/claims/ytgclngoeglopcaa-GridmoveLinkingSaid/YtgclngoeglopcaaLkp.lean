/- Twice the total linking number as a sum over pairs of columns, and that the moves keep it. -/
import Derived.Test.YtgclngoeglopcaaCyi
namespace Go.Proofs.Ytgclngoeglopcaa
open Go.RowKit

/-- sums -/
def sumR : Nat → (Nat → Int) → Int
  | 0, _ => 0
  | n + 1, f => sumR n f + f n
theorem sumR_congr {n : Nat} {f g : Nat → Int} (h : ∀ i, i < n → f i = g i) : sumR n f = sumR n g := by
  induction n with
  | zero => rfl
  | succ n ih => rw [sumR, sumR, ih (fun i hi => h i (by omega)), h n (by omega)]
theorem sumR_zero {n : Nat} {f : Nat → Int} (h : ∀ i, i < n → f i = 0) : sumR n f = 0 := by
  induction n with
  | zero => rfl
  | succ n ih => rw [sumR, ih (fun i hi => h i (by omega)), h n (by omega)]; rfl
theorem sumR_add (n : Nat) (f g : Nat → Int) : sumR n (fun i => f i + g i) = sumR n f + sumR n g := by
  induction n with
  | zero => rfl
  | succ n ih => rw [sumR, sumR, sumR, ih]; omega
theorem sumR_sub (n : Nat) (f g : Nat → Int) : sumR n (fun i => f i - g i) = sumR n f - sumR n g := by
  induction n with
  | zero => rfl
  | succ n ih => rw [sumR, sumR, sumR, ih]; omega
theorem sumR_neg (n : Nat) (f : Nat → Int) : sumR n (fun i => - f i) = - sumR n f := by
  induction n with
  | zero => rfl
  | succ n ih => rw [sumR, sumR, ih]; omega
theorem sumR_swap (n m : Nat) (f : Nat → Nat → Int) : sumR n (fun i => sumR m (f i)) = sumR m (fun j => sumR n (fun i => f i j)) := by
  induction n with
  | zero => rw [sumR]; exact (sumR_zero (fun j _ => rfl)).symm
  | succ n ih => simp only [sumR]; rw [ih, sumR_add]
theorem sumR_one {n a : Nat} (ha : a < n) (f : Nat → Int) (h : ∀ i, i < n → i ≠ a → f i = 0) : sumR n f = f a := by
  induction n with
  | zero => omega
  | succ n ih =>
    rw [sumR]
    by_cases e : a = n
    · subst e; rw [sumR_zero (fun i hi => h i (by omega) (by omega))]; omega
    · rw [ih (by omega) (fun i hi => h i (by omega)), h n (by omega) (by omega)]; omega
/-- sums over lists -/
def sumL (l : List Nat) (f : Nat → Int) : Int := l.foldr (fun x s => f x + s) 0
theorem sumL_append (l m : List Nat) (f : Nat → Int) : sumL (l ++ m) f = sumL l f + sumL m f := by
  induction l with
  | nil => simp [sumL]
  | cons a l ih => simp only [sumL, List.cons_append, List.foldr_cons] at ih ⊢; rw [ih]; omega
theorem sumL_perm {l m : List Nat} (h : l.Perm m) (f : Nat → Int) : sumL l f = sumL m f := by
  induction h with
  | nil => rfl
  | cons a _ ih => simp only [sumL, List.foldr_cons] at ih ⊢; rw [ih]
  | swap a b l => simp only [sumL, List.foldr_cons]; omega
  | trans _ _ h1 h2 => exact h1.trans h2
theorem sumL_range (n : Nat) (f : Nat → Int) : sumL (List.range n) f = sumR n f := by
  induction n with
  | zero => rfl
  | succ n ih => rw [List.range_succ, sumL_append, ih, sumR]; simp [sumL]
theorem sumL_map (l : List Nat) (g : Nat → Nat) (f : Nat → Int) : sumL (l.map g) f = sumL l (fun i => f (g i)) := by
  induction l with
  | nil => rfl
  | cons a l ih => simp only [sumL, List.map_cons, List.foldr_cons] at ih ⊢; rw [ih]
theorem perm_subN : ∀ (l X : List Nat), l.Nodup → (∀ x ∈ l, x ∈ X) → X.length ≤ l.length → l.Perm X := by
  intro l
  induction l with
  | nil =>
    intro X _ _ h
    have : X = [] := List.eq_nil_of_length_eq_zero (by simpa using h)
    rw [this]
  | cons a l ih =>
    intro X hn hs hl
    have ha := hs a List.mem_cons_self
    have h1 := ih (X.erase a) (List.nodup_cons.1 hn).2 (fun x hx => by
      rw [List.mem_erase_of_ne]
      · exact hs x (List.mem_cons_of_mem _ hx)
      · intro e; subst e; exact (List.nodup_cons.1 hn).1 hx) (by rw [List.length_erase_of_mem ha]; simp at hl; omega)
    exact (h1.cons a).trans (List.perm_cons_erase ha).symm
theorem sumR_perm {n : Nat} {σ : Nat → Nat} (h : PermF n σ) (f : Nat → Int) : sumR n (fun i => f (σ i)) = sumR n f := by
  rw [← sumL_range, ← sumL_range, ← sumL_map]
  refine sumL_perm (perm_subN _ _ (nodup_map List.nodup_range (fun a ha b hb e => h.inj a b (List.mem_range.1 ha) (List.mem_range.1 hb) e)) (fun x hx => ?_) (by simp)) f
  obtain ⟨i, hi, rfl⟩ := List.mem_map.1 hx
  exact List.mem_range.2 (h.lt i (List.mem_range.1 hi))
theorem sumR_skip (n a : Nat) (ha : a ≤ n) (f : Nat → Int) (h0 : f a = 0) : sumR (n + 1) f = sumR n (fun j => f (skp a j)) := by
  have : ∀ m, a ≤ m → sumR (m + 1) f = sumR m (fun j => f (skp a j)) := by
    intro m
    induction m with
    | zero => intro h; obtain rfl : a = 0 := by omega
              simp [sumR, h0]
    | succ m ih =>
      intro h
      by_cases e : a = m + 1
      · subst e
        rw [sumR, h0, Int.add_zero]
        refine sumR_congr (fun j hj => ?_)
        unfold skp
        rw [if_pos hj]
      · rw [sumR, ih (by omega), sumR]
        congr 2
        unfold skp
        rw [if_neg (by omega)]
  exact this n ha

def lti (x y : Int) : Int := if x < y then 1 else 0
theorem lti_anti {x y : Int} (h : x ≠ y) : lti y x = 1 - lti x y := by unfold lti; split <;> split <;> omega
/-- columns of different components -/
def dl (X O : List Int) (i k : Nat) : Int := if rB (fC X O) X.length i k = true then 0 else 1
def Tt (X O : List Int) (i k : Nat) : Int := lti (gt X i) (gt X k) - lti (gt X i) (gt O k) - lti (gt O i) (gt X k) + lti (gt O i) (gt O k)
def onI (p : Prop) [Decidable p] : Int := if p then 1 else 0
/-- a sum over pairs of columns -/
def pairS (X O : List Int) (c : Nat → Nat → Int) : Int := sumR X.length fun i => sumR X.length fun k => c i k * (dl X O i k * Tt X O i k)
def lkI (X O : List Int) : Int := pairS X O fun i k => onI (k < i)

section
variable {X O : List Int}
theorem dl_zero (h : Vd X O) {i k : Nat} (hi : i < X.length) (hr : Rl (fC X O) i k) : dl X O i k = 0 := by
  unfold dl; rw [if_pos ((rB_iff (fC_perm h) hi).2 hr)]
theorem dl_one (h : Vd X O) {i k : Nat} (hi : i < X.length) (hr : ¬ Rl (fC X O) i k) : dl X O i k = 1 := by
  unfold dl; rw [if_neg (fun e => hr ((rB_iff (fC_perm h) hi).1 e))]
theorem dl_congr (h : Vd X O) {i k : Nat} {Y P : List Int} (h' : Vd Y P) {j l : Nat} (hi : i < X.length) (hj : j < Y.length) (hr : Rl (fC X O) i k ↔ Rl (fC Y P) j l) : dl X O i k = dl Y P j l := by
  by_cases e : Rl (fC X O) i k
  · rw [dl_zero h hi e, dl_zero h' hj (hr.1 e)]
  · rw [dl_one h hi e, dl_one h' hj (fun e' => e (hr.2 e'))]
theorem dl_symm (h : Vd X O) {i k : Nat} (hi : i < X.length) (hk : k < X.length) : dl X O i k = dl X O k i :=
  dl_congr h h hi hk ⟨fun r => (fC_perm h).symm hi r, fun r => (fC_perm h).symm hk r⟩
theorem dl_f (h : Vd X O) {i k : Nat} (hi : i < X.length) (hk : k < X.length) : dl X O i (fC X O k) = dl X O i k :=
  dl_congr h h hi hi ⟨fun r => r.trans ((fC_perm h).symm hk (Rl.step _ _)), fun r => r.trans (Rl.step _ _)⟩
/-- rows of different components differ -/
theorem rows_ne (h : Vd X O) {i k : Nat} (hi : i < X.length) (hk : k < X.length) (hr : ¬ Rl (fC X O) i k) : gt X i ≠ gt X k ∧ gt X i ≠ gt O k ∧ gt O i ≠ gt X k ∧ gt O i ≠ gt O k := by
  have hp := fC_perm h
  have hfi := fC_spec h hi
  have hfk := fC_spec h hk
  refine ⟨fun e => hr ?_, fun e => hr ?_, fun e => hr ?_, fun e => hr ?_⟩
  · rw [h.pX.gt_inj hi hk e]; exact Rl.refl _ _
  · rw [← hfk.2] at e
    rw [h.pX.gt_inj hi hfk.1 e]
    exact hp.symm hk (Rl.step _ _)
  · rw [← hfi.2] at e
    have := h.pX.gt_inj hfi.1 hk e
    rw [← this]; exact Rl.step _ _
  · rw [h.pO.gt_inj (by have := h.len; omega) (by have := h.len; omega) e]; exact Rl.refl _ _
theorem Tt_anti (h : Vd X O) {i k : Nat} (hi : i < X.length) (hk : k < X.length) : dl X O k i * Tt X O k i = - (dl X O i k * Tt X O i k) := by
  rw [dl_symm h hk hi]
  by_cases hr : Rl (fC X O) i k
  · rw [dl_zero h hi hr]; simp
  · obtain ⟨h1, h2, h3, h4⟩ := rows_ne h hi hk hr
    unfold Tt
    rw [lti_anti h1, lti_anti h2, lti_anti h3, lti_anti h4]
    rw [dl_one h hi hr]
    omega
/-- the sum over all columns of other components is 0 -/
theorem row_zero (h : Vd X O) {i : Nat} (hi : i < X.length) : sumR X.length (fun k => dl X O i k * Tt X O i k) = 0 := by
  have hp := fC_perm h
  have key : ∀ φ : Int → Int, sumR X.length (fun k => dl X O i k * φ (gt O k)) = sumR X.length (fun k => dl X O i k * φ (gt X k)) := by
    intro φ
    rw [← sumR_perm hp (fun k => dl X O i k * φ (gt X k))]
    refine sumR_congr (fun k hk => ?_)
    rw [dl_f h hi hk, (fC_spec h hk).2]
  have e : ∀ k, dl X O i k * Tt X O i k = dl X O i k * (lti (gt X i) (gt X k) - lti (gt O i) (gt X k)) - dl X O i k * (lti (gt X i) (gt O k) - lti (gt O i) (gt O k)) := by
    intro k
    rw [← Int.mul_sub]
    congr 1
    unfold Tt
    omega
  simp only [e]
  rw [sumR_sub, key (fun y => lti (gt X i) y - lti (gt O i) y)]
  omega
theorem col_zero (h : Vd X O) {k : Nat} (hk : k < X.length) : sumR X.length (fun i => dl X O i k * Tt X O i k) = 0 := by
  have : sumR X.length (fun i => dl X O i k * Tt X O i k) = sumR X.length (fun i => - (dl X O k i * Tt X O k i)) := sumR_congr (fun i hi => Tt_anti h hk hi)
  rw [this, sumR_neg, row_zero h hk]; rfl
theorem pairS_congr {c d : Nat → Nat → Int} (h : ∀ i k, i < X.length → k < X.length → c i k * (dl X O i k * Tt X O i k) = d i k * (dl X O i k * Tt X O i k)) : pairS X O c = pairS X O d :=
  sumR_congr (fun i hi => sumR_congr (fun k hk => h i k hi hk))
theorem pairS_add (c d : Nat → Nat → Int) : pairS X O (fun i k => c i k + d i k) = pairS X O c + pairS X O d := by
  unfold pairS
  rw [← sumR_add]
  refine sumR_congr (fun i _ => ?_)
  rw [← sumR_add]
  exact sumR_congr (fun k _ => Int.add_mul _ _ _)
theorem pairS_row (h : Vd X O) {a : Nat} (ha : a < X.length) : pairS X O (fun i _ => onI (i = a)) = 0 := by
  unfold pairS
  rw [sumR_one ha]
  · simp only [onI, if_true, Int.one_mul]; exact row_zero h ha
  · intro i _ hne
    exact sumR_zero (fun k _ => by simp [onI, hne])
theorem pairS_col (h : Vd X O) {a : Nat} (ha : a < X.length) : pairS X O (fun _ k => - onI (k = a)) = 0 := by
  unfold pairS
  rw [sumR_swap, sumR_one ha]
  · simp only [onI, if_true, Int.neg_mul, Int.one_mul]; rw [sumR_neg, col_zero h ha]; rfl
  · intro k _ hne
    exact sumR_zero (fun i _ => by simp [onI, hne])
end
/-- a relabelling of the columns turns the order alone -/
theorem pairS_map {X O Y P : List Int} {σ : Nat → Nat} (h : Vd X O) (h' : Vd Y P) (hl : Y.length = X.length) (hσ : PermF X.length σ) (gX : ∀ i, i < X.length → gt Y i = gt X (σ i)) (gO : ∀ i, i < X.length → gt P i = gt O (σ i))
    (c d : Nat → Nat → Int) (hc : ∀ i k, i < X.length → k < X.length → c i k = d (σ i) (σ k)) : pairS Y P c = pairS X O d := by
  have hf : ∀ i, i < X.length → σ (fC Y P i) = fC X O (σ i) := fun i hi => by
    have h1 := fC_spec h' (i := i) (by omega)
    refine (fC_uniq h (hσ.lt _ (by omega)) ?_).symm
    rw [← gX _ (by omega), h1.2, gO i hi]
  have hr : ∀ i k, i < X.length → k < X.length → (Rl (fC Y P) i k ↔ Rl (fC X O) (σ i) (σ k)) := fun i k hi hk => by
    have hit : ∀ m, σ (itr (fC Y P) m i) = itr (fC X O) m (σ i) := by
      intro m
      induction m with
      | zero => rfl
      | succ m ih =>
        have hlt := (fC_perm h').itr_lt (show i < Y.length by omega) m
        rw [itr, itr, hf _ (by omega), ih]
    constructor
    · rintro ⟨m, rfl⟩; exact ⟨m, (hit m).symm⟩
    · rintro ⟨m, e⟩
      refine ⟨m, ?_⟩
      have hlt := (fC_perm h').itr_lt (show i < Y.length by omega) m
      exact hσ.inj _ _ (by omega) hk ((hit m).trans e)
  unfold pairS
  rw [hl, ← sumR_perm hσ (fun i => sumR X.length fun k => d i k * (dl X O i k * Tt X O i k))]
  refine sumR_congr (fun i hi => ?_)
  rw [← sumR_perm hσ (fun k => d (σ i) k * (dl X O (σ i) k * Tt X O (σ i) k))]
  refine sumR_congr (fun k hk => ?_)
  have e1 : dl Y P i k = dl X O (σ i) (σ k) := dl_congr h' h (by omega) (hσ.lt i hi) (hr i k hi hk)
  have e2 : Tt Y P i k = Tt X O (σ i) (σ k) := by unfold Tt; rw [gX i hi, gX k hk, gO i hi, gO k hk]
  rw [hc i k hi hk, e1, e2]

theorem lk_rot {X O : List Int} (h : Vd X O) : lkI (rotL X) (rotL O) = lkI X O := by
  have hl := h.len
  have h2 := h.two
  have hσ : PermF X.length (fun i => (i + 1) % X.length) := ⟨fun i _ => Nat.mod_lt _ (by omega), fun i j hi hj e => mod_inj hi hj e⟩
  unfold lkI
  rw [pairS_map (d := fun i k => onI (k < i) + (onI (i = 0) + - onI (k = 0))) h (rotL_vd h) (rotL_length X) hσ (fun i hi => gt_rot X hi) (fun i hi => by rw [gt_rot O (by omega), hl])]
  · rw [pairS_add, pairS_add, pairS_row h (by omega), pairS_col h (by omega)]; omega
  · intro i k hi hk
    simp only [onI]
    by_cases h1 : i + 1 = X.length
    · rw [h1, Nat.mod_self]
      by_cases h3 : k + 1 = X.length
      · rw [h3, Nat.mod_self]; simp; omega
      · rw [Nat.mod_eq_of_lt (show k + 1 < X.length by omega)]
        simp [show k < i from by omega]
    · rw [Nat.mod_eq_of_lt (show i + 1 < X.length by omega)]
      by_cases h3 : k + 1 = X.length
      · rw [h3, Nat.mod_self]; simp; omega
      · rw [Nat.mod_eq_of_lt (show k + 1 < X.length by omega)]
        by_cases h4 : k < i <;> simp [h4]

/-- the columns a and a + 1 of different components: nothing changes if they are exchanged -/
theorem comm_zero {X O : List Int} {a : Nat} (h : commB (gt X a) (gt O a) (gt X (a + 1)) (gt O (a + 1)) = true) : Tt X O a (a + 1) = 0 := by
  unfold commB commIv minG maxG at h
  unfold Tt lti
  generalize gt X a = x at *
  generalize gt O a = o at *
  generalize gt X (a + 1) = x2 at *
  generalize gt O (a + 1) = o2 at *
  by_cases h1 : o < x <;> by_cases h2 : o2 < x2 <;> by_cases h3 : x < o <;> by_cases h4 : x2 < o2 <;> simp only [h1, h2, h3, h4, if_true, if_false] at h <;> simp at h <;> repeat' split <;> omega
theorem lk_swap {X O : List Int} {a : Nat} (h : Vd X O) (ha : a + 1 < X.length) (hc : commB (gt X a) (gt O a) (gt X (a + 1)) (gt O (a + 1)) = true) : lkI (swapL X a) (swapL O a) = lkI X O := by
  have hl := h.len
  have hσ : PermF X.length (sw a) := ⟨fun i hi => sw_lt ha hi, fun i j _ _ e => by have := congrArg (sw a) e; rwa [sw_sw, sw_sw] at this⟩
  have ht := comm_zero hc
  unfold lkI
  rw [pairS_map (d := fun i k => onI (sw a k < sw a i)) h (swapL_vd h ha) (swapL_length X a) hσ (fun i _ => gt_swap X ha i) (fun i _ => gt_swap O (by omega) i) _ (fun i k _ _ => by rw [sw_sw, sw_sw])]
  refine pairS_congr (fun i k hi hk => ?_)
  by_cases e1 : i = a ∧ k = a + 1
  · obtain ⟨rfl, rfl⟩ := e1
    rw [ht]; simp
  · by_cases e2 : i = a + 1 ∧ k = a
    · obtain ⟨rfl, rfl⟩ := e2
      rw [Tt_anti h (by omega) ha, ht]; simp
    · congr 1
      unfold onI sw
      by_cases h1 : i = a <;> by_cases h2 : i = a + 1 <;> by_cases h3 : k = a <;> by_cases h4 : k = a + 1 <;> simp [h1, h2, h3, h4] <;> (try (first | omega | (split <;> split <;> omega)))
theorem lowr_lti {r x y : Int} (h1 : ¬ (x = r ∧ y = r + 1)) : lti (lowr r x) (lowr r y) = lti x y := by
  unfold lti lowr
  repeat' split
  all_goals omega
theorem del_rel {X O : List Int} {a : Nat} (h : Vd X O) (ha : a < X.length) (hd : desOk X O a (gt X a) (gt O a) = true) :
    ∀ j l, j < X.length - 1 → l < X.length - 1 → (Rl (fC (delL X a (minG (gt X a) (gt O a))) (delL O a (minG (gt X a) (gt O a)))) j l ↔ Rl (fC X O) (skp a j) (skp a l)) := by
  have h1 : Vd (delL X a (minG (gt X a) (gt O a))) (delL O a (minG (gt X a) (gt O a))) := delL_vd h ha hd
  have hl := h.len
  have hao : a < O.length := by omega
  have hmm : maxG (gt X a) (gt O a) = minG (gt X a) (gt O a) + 1 := by
    simp only [desOk, Bool.and_eq_true, decide_eq_true_eq] at hd
    exact hd.1.2
  generalize hr : minG (gt X a) (gt O a) = r at *
  have hlen1 : (delL X a r).length = X.length - 1 := delL_length X a r ha
  have lx : lowr r (gt X a) = r := by unfold minG at hr; unfold maxG at hmm; unfold lowr; split at hr <;> split at hmm <;> split <;> omega
  have lo : lowr r (gt O a) = r := by unfold minG at hr; unfold maxG at hmm; unfold lowr; split at hr <;> split at hmm <;> split <;> omega
  have gX : ∀ i, i < X.length → i ≠ a → gt (delL X a r) (drp a i) = lowr r (gt X i) := fun i hi hne => by
    have e : (if drp a i < a then drp a i else drp a i + 1) = i := skp_drp hne
    rw [gt_del X r ha (by rw [e]; exact hi), e]
  have gO : ∀ i, i < X.length → i ≠ a → gt (delL O a r) (drp a i) = lowr r (gt O i) := fun i hi hne => by
    have e : (if drp a i < a then drp a i else drp a i + 1) = i := skp_drp hne
    rw [gt_del O r hao (by rw [e]; omega), e]
  have dlt : ∀ i, i < X.length → i ≠ a → drp a i < X.length - 1 := fun i hi hne => by unfold drp; split <;> omega
  have slt : ∀ j, j < X.length - 1 → skp a j < X.length := fun j hj => by unfold skp; split <;> omega
  have hfa := fC_spec h ha
  have hfne := fC_ne h ha
  have hpf := fC_perm h
  have hpg := fC_perm h1
  rw [hlen1] at hpg
  -- the three kinds of steps
  have s1 : ∀ i, i < X.length → i ≠ a → fC X O i ≠ a → fC (delL X a r) (delL O a r) (drp a i) = drp a (fC X O i) := fun i hi hne hne' => by
    have hf := fC_spec h hi
    refine fC_uniq h1 (by rw [hlen1]; exact dlt _ hf.1 hne') ?_
    rw [gX _ hf.1 hne', gO _ hi hne, hf.2]
  have s2 : ∀ i, i < X.length → i ≠ a → fC X O i = a → fC (delL X a r) (delL O a r) (drp a i) = drp a (fC X O a) := fun i hi hne e => by
    have hf := fC_spec h hi
    rw [e] at hf
    refine fC_uniq h1 (by rw [hlen1]; exact dlt _ hfa.1 hfne) ?_
    rw [gX _ hfa.1 hfne, gO _ hi hne, hfa.2, ← hf.2, lx, lo]
  have b1 : ∀ i, i < X.length → Rl (fC (delL X a r) (delL O a r)) (if i = a then drp a (fC X O a) else drp a i) (if fC X O i = a then drp a (fC X O a) else drp a (fC X O i)) := by
    intro i hi
    by_cases hne : i = a
    · subst hne
      rw [if_pos rfl, if_neg hfne]
      exact Rl.refl _ _
    · rw [if_neg hne]
      by_cases e : fC X O i = a
      · rw [if_pos e, ← s2 i hi hne e]; exact Rl.step _ _
      · rw [if_neg e, ← s1 i hi hne e]; exact Rl.step _ _
  have b2 : ∀ j, j < X.length - 1 → Rl (fC X O) (skp a j) (skp a (fC (delL X a r) (delL O a r) j)) := by
    intro j hj
    have hs := slt j hj
    have hne := skp_ne a j
    by_cases e : fC X O (skp a j) = a
    · have := s2 _ hs hne e
      rw [drp_skp] at this
      rw [this, skp_drp hfne]
      exact ⟨2, by show fC X O (fC X O (skp a j)) = _; rw [e]⟩
    · have := s1 _ hs hne e
      rw [drp_skp] at this
      rw [this, skp_drp e]
      exact Rl.step _ _
  intro j l hj hl'
  constructor
  · intro hr
    exact rl_map hpg (skp a) b2 hj hr
  · intro hr
    have := rl_map hpf (fun i => if i = a then drp a (fC X O a) else drp a i) b1 (slt j hj) hr
    simp only [if_neg (skp_ne a j), if_neg (skp_ne a l), drp_skp] at this
    exact this

theorem lk_del {X O : List Int} {a : Nat} (h : Vd X O) (ha : a < X.length) (hd : desOk X O a (gt X a) (gt O a) = true) :
    lkI (delL X a (minG (gt X a) (gt O a))) (delL O a (minG (gt X a) (gt O a))) = lkI X O := by
  have h1 : Vd (delL X a (minG (gt X a) (gt O a))) (delL O a (minG (gt X a) (gt O a))) := delL_vd h ha hd
  have hrel := del_rel h ha hd
  have hl := h.len
  have hao : a < O.length := by omega
  have hmm : maxG (gt X a) (gt O a) = minG (gt X a) (gt O a) + 1 := by
    simp only [desOk, Bool.and_eq_true, decide_eq_true_eq] at hd
    exact hd.1.2
  generalize hr : minG (gt X a) (gt O a) = r at *
  have hlen1 : (delL X a r).length = X.length - 1 := delL_length X a r ha
  -- the rows r and r + 1 are those of the column a
  have hxo : (gt X a = r ∧ gt O a = r + 1) ∨ (gt X a = r + 1 ∧ gt O a = r) := by unfold minG at hr; unfold maxG at hmm; split at hr <;> split at hmm <;> omega
  have slt : ∀ j, j < X.length - 1 → skp a j < X.length := fun j hj => by unfold skp; split <;> omega
  have gX : ∀ j, j < X.length - 1 → gt (delL X a r) j = lowr r (gt X (skp a j)) := fun j hj => gt_del X r ha (slt j hj)
  have gO : ∀ j, j < X.length - 1 → gt (delL O a r) j = lowr r (gt O (skp a j)) := fun j hj => gt_del O r hao (by have := slt j hj; show skp a j < _; omega)
  -- pairs with the column a add nothing
  have za : ∀ k, k < X.length → dl X O a k * Tt X O a k = 0 := by
    intro k hk
    by_cases hR : Rl (fC X O) a k
    · rw [dl_zero h ha hR]; simp
    · obtain ⟨n1, n2, n3, n4⟩ := rows_ne h ha hk hR
      have : Tt X O a k = 0 := by
        unfold Tt lti
        rcases hxo with ⟨e1, e2⟩ | ⟨e1, e2⟩ <;> rw [e1] at n1 n2 ⊢ <;> rw [e2] at n3 n4 ⊢ <;> repeat' split <;> omega
      rw [this]; simp
  have za' : ∀ i, i < X.length → dl X O i a * Tt X O i a = 0 := fun i hi => by rw [Tt_anti h ha hi, za i hi]; rfl
  unfold lkI pairS
  rw [hlen1, show X.length = (X.length - 1) + 1 from by omega]
  rw [sumR_skip (X.length - 1) a (by omega) _ (sumR_zero (fun k hk => by rw [za k (by omega)]; simp))]
  refine sumR_congr (fun i hi => ?_)
  rw [sumR_skip (X.length - 1) a (by omega) _ (by rw [za' _ (slt i (by omega))]; simp)]
  refine sumR_congr (fun k hk => ?_)
  have hi' : i < X.length - 1 := by omega
  have hk' : k < X.length - 1 := by omega
  have e0 : onI (k < i) = onI (skp a k < skp a i) := by
    unfold onI skp
    by_cases h3 : k < a <;> by_cases h4 : i < a <;> simp [h3, h4] <;> (try (split <;> split <;> omega))
  show onI (k < i) * _ = onI (skp a k < skp a i) * _
  rw [e0]
  congr 1
  by_cases hR : Rl (fC X O) (skp a i) (skp a k)
  · rw [dl_zero h (slt i hi') hR, dl_zero h1 (by omega) ((hrel i k hi' hk').2 hR)]; simp
  · rw [dl_one h (slt i hi') hR, dl_one h1 (by omega) (fun e => hR ((hrel i k hi' hk').1 e))]
    congr 1
    have hp := fC_perm h
    -- a row of the column a is in the component of a
    have key : ∀ m, m < X.length → ∀ y, (y = gt X m ∨ y = gt O m) → (y = r ∨ y = r + 1) → Rl (fC X O) m a := by
      intro m hm y hy hyr
      by_cases hc : Rl (fC X O) m a
      · exact hc
      · exfalso
        obtain ⟨n1, n2, n3, n4⟩ := rows_ne h hm ha hc
        rcases hy with rfl | rfl <;> rcases hxo with ⟨e1, e2⟩ | ⟨e1, e2⟩ <;> rw [e1] at n1 n3 <;> rw [e2] at n2 n4 <;> omega
    have nn : ∀ x y, (x = gt X (skp a i) ∨ x = gt O (skp a i)) → (y = gt X (skp a k) ∨ y = gt O (skp a k)) → ¬ (x = r ∧ y = r + 1) := by
      rintro x y hx hy ⟨e1, e2⟩
      have r1 := key _ (slt i hi') x hx (.inl e1)
      have r2 := key _ (slt k hk') y hy (.inr e2)
      exact hR (r1.trans (hp.symm (slt k hk') r2))
    unfold Tt
    rw [gX i hi', gX k hk', gO i hi', gO k hk', lowr_lti (nn _ _ (.inl rfl) (.inl rfl)), lowr_lti (nn _ _ (.inl rfl) (.inr rfl)), lowr_lti (nn _ _ (.inr rfl) (.inl rfl)), lowr_lti (nn _ _ (.inr rfl) (.inr rfl))]
end Go.Proofs.Ytgclngoeglopcaa
