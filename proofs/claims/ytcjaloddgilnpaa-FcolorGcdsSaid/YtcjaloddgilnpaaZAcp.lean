/- The numbers of the arcs by a map: plain. -/
import Derived.Test.YtcjaloddgilnpaaZFnd
import Derived.Maps.OwnSet
import Derived.Maps.OwnOps
namespace Go.Proofs.Ytcjaloddgilnpaa
set_option linter.unusedVariables false
open Go.RowKit Go.Maps

def ky (r : Nat) : Lit := .int .i64 (r : Int)
theorem ky_ne {a b : Nat} (h : a ≠ b) : ky a ≠ ky b := by
  intro e
  unfold ky at e
  injection e with _ e
  omega
/-- the map of the numbers when k half-edges have been looked at -/
structure NM {H : Type} (lab : List Nat) (ρ : Nat → Nat) (k : Nat) (D : DataW H) : Prop where
  tidy : Tidy D
  has : ∀ r : Nat, Maps.has D (ky r) = true ↔ ∃ h, h < k ∧ ρ h = r
  val : ∀ h, h < k → D.atKey (ky (ρ h)) (.lit (.int .i64 0)) = .lit (.int .i64 (rk lab (gn lab h) : Nat))
  size : Maps.size D = rk lab k
section
variable {H : Type} {lab : List Nat} {ρ : Nat → Nat} {k N : Nat} {D : DataW H}
theorem NM.start : NM lab ρ 0 (.map [] : DataW H) := ⟨tidy_empty, fun r => by simp [Maps.has], fun h hh => by omega, rfl⟩
/-- which labels fit the roots -/
structure Fits (lab : List Nat) (ρ : Nat → Nat) (N : Nat) : Prop where
  le : ∀ x, x < N → gn lab x ≤ x
  self : ∀ x, x < N → gn lab (gn lab x) = gn lab x
  iff : ∀ x y, x < N → y < N → (ρ x = ρ y ↔ gn lab x = gn lab y)
theorem NM.old (f : Fits lab ρ N) (h : NM lab ρ k D) (hk : k < N) (hh : Maps.has D (ky (ρ k)) = true) :
    NM lab ρ (k + 1) D ∧ D.atKey (ky (ρ k)) (.lit (.int .i64 0)) = .lit (.int .i64 (rk lab (gn lab k) : Nat)) := by
  obtain ⟨j, hj, e⟩ := (h.has _).1 hh
  have e2 := (f.iff j k (by omega) hk).1 e
  have hle := f.le j (by omega)
  have hv : D.atKey (ky (ρ k)) (.lit (.int .i64 0)) = .lit (.int .i64 (rk lab (gn lab k) : Nat)) := by rw [← e, h.val j hj, e2]
  refine ⟨⟨h.tidy, fun r => (h.has r).trans ⟨fun ⟨i, h1, h2⟩ => ⟨i, by omega, h2⟩, fun ⟨i, h1, h2⟩ => ?_⟩, fun i hi => ?_, ?_⟩, hv⟩
  · by_cases q : i = k
    · subst q; exact ⟨j, hj, e.trans h2⟩
    · exact ⟨i, by omega, h2⟩
  · by_cases q : i = k
    · subst q; exact hv
    · exact h.val i (by omega)
  · rw [h.size, rk, if_neg (by omega)]
theorem NM.new (f : Fits lab ρ N) (h : NM lab ρ k D) (hk : k < N) (hh : Maps.has D (ky (ρ k)) = false) :
    NM lab ρ (k + 1) (D.put (ky (ρ k)) (.lit (.int .i64 (Maps.size D : Nat)))) ∧ rk lab (gn lab k) = Maps.size D := by
  have hno : ∀ j, j < k → ρ j ≠ ρ k := fun j hj e => by
    have := (h.has (ρ k)).2 ⟨j, hj, e⟩
    rw [hh] at this; cases this
  have hle := f.le k hk
  have hs : gn lab k = k := by
    by_cases q : gn lab k < k
    · exact absurd ((f.iff (gn lab k) k (by omega) hk).2 (f.self k hk)) (hno _ q)
    · omega
  have hr : rk lab (gn lab k) = Maps.size D := by rw [hs, h.size]
  have hkl : WideAt.IsKeyLit (ky (ρ k)) := trivial
  refine ⟨⟨h.tidy.put hkl _, fun r => ?_, fun i hi => ?_, ?_⟩, hr⟩
  · by_cases q : r = ρ k
    · subst q
      rw [has_put_same h.tidy.isMap hkl]
      exact ⟨fun _ => ⟨k, by omega, rfl⟩, fun _ => rfl⟩
    · rw [has_put_other (ky_ne q), h.has]
      constructor
      · rintro ⟨i, h1, h2⟩; exact ⟨i, by omega, h2⟩
      · rintro ⟨i, h1, h2⟩
        by_cases q2 : i = k
        · subst q2; exact absurd h2.symm q
        · exact ⟨i, by omega, h2⟩
  · by_cases q : i = k
    · subst q
      rw [atKey_put_same h.tidy.isMap hkl, hr]
    · rw [atKey_put_other (ky_ne (hno i (by omega))), h.val i (by omega)]
  · rw [size_put h.tidy, hh, h.size, rk, if_pos hs]; rfl
end
theorem rk_mono (l : List Nat) : ∀ {a b : Nat}, a ≤ b → rk l a ≤ rk l b := by
  intro a b h
  induction b with
  | zero => have : a = 0 := by omega
            subst this; exact Nat.le_refl _
  | succ b ih =>
    rcases Nat.lt_or_ge b a with q | q
    · have : a = b + 1 := by omega
      subst this; exact Nat.le_refl _
    · have := ih q
      rw [rk]; split <;> omega
/-- the roots of a forest as a function -/
theorem root_fun {N : Nat} {P : List Nat} (h : Fst N P) : ∃ ρ : Nat → Nat, ∀ x, x < N → ρ x < N ∧ ∃ n, Dp P n x (ρ x) := by
  refine ⟨fun x => if hx : x < N then (h.ex x hx).choose_spec.choose else 0, fun x hx => ?_⟩
  have hs := (h.ex x hx).choose_spec.choose_spec
  simp only [hx, dif_pos]
  exact ⟨hs.lt h.lt hx, _, hs⟩
theorem fits_of {S M : List Int} {L : Int} (k : Ok S M L) {P : List Nat} (h : UF (Sees M M.length) M.length P) (h1 : ∀ x, x < M.length → Sm P x (mt M x)) (h2 : ∀ c, c < S.length → Sm P (4 * c + 1) (4 * c + 3))
    {ρ : Nat → Nat} (hρ : ∀ x, x < M.length → ρ x < M.length ∧ ∃ n, Dp P n x (ρ x)) : Fits (labA M M.length M.length) ρ M.length := by
  refine ⟨fun x hx => la_le k hx, fun x hx => la_self k hx, fun x y hx hy => ?_⟩
  rw [la_eq k hx hy, ← uf_conn k h h1 h2 hx hy]
  obtain ⟨_, n, d1⟩ := hρ x hx
  obtain ⟨_, m, d2⟩ := hρ y hy
  constructor
  · intro e; rw [← e] at d2; exact ⟨n, m, _, d1, d2⟩
  · rintro ⟨a, b, r, d3, d4⟩
    rw [(Dp.uniq d1 d3).2, (Dp.uniq d2 d4).2]
end Go.Proofs.Ytcjaloddgilnpaa
