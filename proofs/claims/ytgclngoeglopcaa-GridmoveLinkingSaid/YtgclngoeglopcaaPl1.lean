/- Plain facts: rows stay in range under the moves of columns. -/
import Derived.Test.YtgclngoeglopcaaCols
namespace Go.Proofs.Ytgclngoeglopcaa
open Go.RowKit

theorem relStep_rows {n : Nat} {mv : Int → Int → Bool → Int × Int} {b : Bool} {i : Nat} {x : Int} {acc : List Int} (h : Rows n acc) (hx : 0 ≤ (mv i x b).2 ∧ (mv i x b).2 < n) : Rows n (relStep mv b i x acc) := by
  unfold relStep
  split
  · intro y hy
    rcases List.mem_or_eq_of_mem_set hy with h1 | h1
    · exact h y h1
    · rw [h1]; exact hx
  · exact h
theorem relTo_rows {n : Nat} {mv : Int → Int → Bool → Int × Int} {b : Bool} (xs : List Int) : ∀ (i : Nat) (acc : List Int), Rows n acc → (∀ k (h : k < xs.length), 0 ≤ (mv (i + k : Nat) xs[k] b).2 ∧ (mv (i + k : Nat) xs[k] b).2 < n) → Rows n (relTo mv b i xs acc) := by
  induction xs with
  | nil => intro i acc h _; exact h
  | cons x xs ih =>
    intro i acc h hx
    rw [relTo]
    refine ih (i + 1) _ (relStep_rows h (by have := hx 0 (by simp); simpa using this)) (fun k hk => ?_)
    have := hx (k + 1) (by simpa using hk)
    rw [show i + 1 + k = i + (k + 1) from by omega]
    simpa using this
theorem reloc_rows {m n : Nat} {mv : Int → Int → Bool → Int × Int} {b : Bool} {xs : List Int} (hm : 0 < m) (hx : ∀ k (h : k < xs.length), 0 ≤ (mv k xs[k] b).2 ∧ (mv k xs[k] b).2 < m) : Rows m (reloc mv b n xs) := by
  refine relTo_rows xs 0 _ (fun y hy => ?_) (fun k hk => by have := hx k hk; simpa using this)
  have := List.eq_of_mem_replicate hy
  omega
theorem reloc_length (mv : Int → Int → Bool → Int × Int) (b : Bool) (n : Nat) (xs : List Int) : (reloc mv b n xs).length = n := by simp [reloc, relTo_length]

theorem Rows.set {n : Nat} {l : List Int} (h : Rows n l) (i : Nat) {x : Int} (hx : 0 ≤ x ∧ x < n) : Rows n (l.set i x) := by
  intro y hy
  rcases List.mem_or_eq_of_mem_set hy with h1 | h1
  · exact h y h1
  · rw [h1]; exact hx

theorem getD_rows {n : Nat} {l : List Int} (h : Rows n l) {a : Nat} (ha : a < l.length) : 0 ≤ l.getD a 0 ∧ l.getD a 0 < n := by
  have : l.getD a 0 = l[a] := by simp [List.getD_eq_getElem?_getD, ha]
  rw [this]; exact h.get ha

/-- a move of columns that goes through gives lists of one length, with their rows in range -/
theorem colsM_rows {X O : List Int} {k : Int} {a v : Nat} (hk : 1 ≤ k ∧ k ≤ 4) (ha : a < limAt k X.length) (hv : v < limVar k X.length) (hl : 2 ≤ X.length) (hlen : X.length = O.length) (rX : Rows X.length X) (rO : Rows X.length O)
    (h0 : (colsM X O k a v).1 = 0) : ∃ m, (colsM X O k a v).2.1.length = m ∧ (colsM X O k a v).2.2.length = m ∧ 1 ≤ m ∧ m ≤ X.length + 1 ∧ Rows m (colsM X O k a v).2.1 ∧ Rows m (colsM X O k a v).2.2 := by
  obtain ⟨h1, h4⟩ := hk
  unfold colsM at h0 ⊢
  by_cases k1 : k = 1
  · simp only [if_pos k1]
    refine ⟨X.length, reloc_length _ _ _ _, reloc_length _ _ _ _, by omega, by omega, reloc_rows (by omega) (fun k hk => rX.get hk), reloc_rows (by omega) (fun k hk => rO.get hk)⟩
  simp only [if_neg k1] at h0 ⊢
  by_cases k2 : k = 2
  · simp only [if_pos k2] at h0 ⊢
    unfold swapM at h0 ⊢
    split at h0
    · rename_i hc
      simp only [if_pos hc]
      exact ⟨X.length, reloc_length _ _ _ _, reloc_length _ _ _ _, by omega, by omega, reloc_rows (by omega) (fun k hk => rX.get hk), reloc_rows (by omega) (fun k hk => rO.get hk)⟩
    · simp at h0
  simp only [if_neg k2] at h0 ⊢
  by_cases k3 : k = 3
  · simp only [if_pos k3] at h0 ⊢
    have ha' : a < X.length := by rw [k3] at ha; simp only [limAt] at ha; simpa using ha
    unfold desM at h0 ⊢
    split at h0
    · rename_i hc
      simp only [if_pos hc]
      have gx := getD_rows rX ha'
      have go := getD_rows rO (by omega : a < O.length)
      generalize X.getD a 0 = x at *
      generalize O.getD a 0 = o at *
      have hd : 3 ≤ X.length ∧ maxG x o = minG x o + 1 := by
        simp only [desOk, Bool.and_eq_true, decide_eq_true_eq] at hc
        exact ⟨hc.1.1, hc.1.2⟩
      have hlow : minG x o + 1 < X.length := by rw [← hd.2]; unfold maxG; split <;> omega
      have hlow0 : 0 ≤ minG x o := by unfold minG; split <;> omega
      refine ⟨X.length - 1, reloc_length _ _ _ _, reloc_length _ _ _ _, by omega, by omega, reloc_rows (by omega) (fun k hk => ?_), reloc_rows (by omega) (fun k hk => ?_)⟩
      · have := rX.get hk
        simp only [mvDel]; split <;> omega
      · have := rO.get hk
        simp only [mvDel]; split <;> omega
    · simp at h0
  simp only [if_neg k3] at h0 ⊢
  have k4 : k = 4 := by omega
  subst k4
  have ha' : a < X.length + 1 := by simp only [limAt] at ha; simp at ha; omega
  have hv' : v < 2 * X.length := by simp only [limVar] at hv; simp at hv; omega
  unfold staM at h0 ⊢
  split at h0
  · simp at h0
  · rename_i hc
    simp only [if_neg hc]
    generalize decide (v % 2 = 0) = st
    have hr : v / 2 < X.length := by omega
    generalize v / 2 = r at *
    refine ⟨X.length + 1, by simp [staX, reloc_length], by simp [staO, reloc_length], by omega, by omega, Rows.set (reloc_rows (by omega) (fun k hk => ?_)) _ ?_, Rows.set (reloc_rows (by omega) (fun k hk => ?_)) _ ?_⟩
    · have := rX.get hk
      simp only [mvAdd]; split <;> omega
    · split <;> omega
    · have := rO.get hk
      simp only [mvAdd]; split <;> omega
    · split <;> omega

theorem permFrom_rows {n : Nat} : ∀ (l s : List Int), permFrom n s l = true → Rows n l := by
  intro l
  induction l with
  | nil => intro s _ x hx; simp at hx
  | cons y ys ih =>
    intro s h x hx
    simp only [permFrom, Bool.and_eq_true, decide_eq_true_eq] at h
    rcases List.mem_cons.1 hx with rfl | hx
    · exact ⟨h.1.1.1, h.1.1.2⟩
    · exact ih _ h.2 x hx
theorem validB_facts {X O : List Int} (h : validB X O = true) : 2 ≤ X.length ∧ X.length ≤ 40 ∧ X.length = O.length ∧ Rows X.length X ∧ Rows X.length O := by
  simp only [validB, Bool.and_eq_true, decide_eq_true_eq, permB] at h
  obtain ⟨⟨⟨⟨⟨h1, h2⟩, h3⟩, _⟩, h5⟩, h6⟩ := h
  exact ⟨h1, h2, h3.symm, permFrom_rows _ _ h5, by rw [← h3]; exact permFrom_rows _ _ h6⟩
end Go.Proofs.Ytgclngoeglopcaa
