/- wirtinger's closure find. -/
/- The numbers of the arcs by a map: plain. -/
import Derived.Test.YtlbihllmpbhhcaaDoorZStr
import Derived.Test.YtlbihllmpbhhcaaDoorZVac
import Derived.Deep.RegionWith
import Derived.Maps.OwnSet
import Derived.Maps.OwnOps
namespace Go.Proofs.YtlbihllmpbhhcaaDoor
open Go.RowKit
set_option linter.unusedVariables false

/-- only block g has been written -/
structure Onl (g : Nat) (w w' : World) : Prop where
  os : w'.os = w.os
  tape : w'.tape = w.tape
  output : w'.output = w.output
  size : w'.heap.size = w.heap.size
  block : ∀ k, k ≠ g → w'.heap[k]? = w.heap[k]?
theorem Onl.refl (g : Nat) (w : World) : Onl g w w := ⟨rfl, rfl, rfl, rfl, fun _ _ => rfl⟩
theorem Onl.trans {g : Nat} {a b c : World} (h : Onl g a b) (k : Onl g b c) : Onl g a c := ⟨k.os.trans h.os, k.tape.trans h.tape, k.output.trans h.output, k.size.trans h.size, fun i hi => (k.block i hi).trans (h.block i hi)⟩
theorem Onl.drew {g : Nat} {a w : World} (h : Onl g a w) : Onl g a w.drew := ⟨h.os, h.tape, h.output, h.size, h.block⟩
theorem Onl.drewN {g : Nat} {a w : World} (h : Onl g a w) (n : Nat) : Onl g a (w.drewN n) := ⟨h.os, h.tape, h.output, h.size, h.block⟩
theorem Onl.below {g B : Nat} {a w : World} (h : Onl g a w) (hB : B ≤ g) : Below B a w := ⟨h.os, h.tape, h.output, Nat.le_of_eq h.size.symm, fun k hk => h.block k (by omega)⟩
theorem Onl.setCell {g : Nat} {a w : World} (h : Onl g a w) (i : Nat) (u : Value) : Onl g a (w.setCell ⟨g, i, none⟩ u) := by
  have hb := (Below.refl 0 w).setCell (p := ⟨g, i, none⟩) (Nat.zero_le _) u
  exact ⟨hb.os.trans h.os, hb.tape.trans h.tape, hb.output.trans h.output, by simp [h.size], fun k hk => (Below.heap_setCell w ⟨g, i, none⟩ u k hk).trans (h.block k hk)⟩
theorem Arr.onl {g b : Nat} {w w' : World} {t : TypeId} {cs : List Value} (h : Arr w b t cs) (o : Onl g w w') (hb : b ≠ g) : Arr w' b t cs := (o.block b hb).trans h
theorem Onl.cell {g : Nat} {w w' : World} (o : Onl g w w') {p : Addr} (hp : p.block ≠ g) : w'.cell? p = w.cell? p := by
  unfold World.cell?; rw [o.block p.block hp]

/-- the closure that finds roots -/
def fnV (pb fb : Nat) : Value := .func (.func 76) #[] #[.pointer (some ⟨pb, 0, none⟩), .pointer (some ⟨fb, 0, none⟩)]

set_option maxHeartbeats 4000000 in
theorem find_code (pb fb g N : Nat) (hpg : pb ≠ g) (hfg : fb ≠ g) (hN : N ≤ 256) : ∀ (n x r : Nat) (P : List Nat) (w : World), P.length = N → (∀ y, y < N → gn P y < N) → x < N → Dp P n x r →
    Arr w pb 22 [.slice (some ⟨g, 0, none⟩) N N] → Arr w fb 99 [fnV pb fb] → Arr w g 3 (nc P) →
    Calls Tryd.prog 76 #[.int .i64 x, .pointer (some ⟨pb, 0, none⟩), .pointer (some ⟨fb, 0, none⟩)] w fun e w' => ∃ P', e = .returned (.int .i64 (r : Nat)) ∧ Fnd P P' n ∧ Arr w' g 3 (nc P') ∧ Onl g w w' := by
  intro n
  induction n with
  | zero =>
    intro x r P w hl hP hx hd ap af ag
    have y0 := ap.cell 0
    have zc := (ag.cell x).trans (nc_get (by omega))
    obtain ⟨h1, rfl⟩ := hd
    rw [h1] at zc
    have z1 : (r : Int) < (N : Int) := by omega
    clear h1
    go_enter Tryd.func76, Tryd.ntmps76
    go_wp2_with fail
    go_ret
    exact ⟨P, rfl, Fnd.refl P, ag, Onl.refl _ _⟩
  | succ n ih =>
    intro x r P w hl hP hx hd ap af ag
    have y0 := ap.cell 0
    have y1 := af.cell 0
    have zc := (ag.cell x).trans (nc_get (by omega))
    have hpx := hP x hx
    have HD := Lib.hid hd
    have hne := hd.1
    have HI := Lib.hid (fun W (hW : Onl g w W) (hg : Arr W g 3 (nc P)) => ih (gn P x) r P W hl hP hpx hd.2 (ap.onl hW hpg) (af.onl hW hfg) hg)
    clear hd ih
    have z1 : (x : Int) < (N : Int) := by omega
    have z2 : ((gn P x : Nat) : Int) ≠ (x : Int) := by omega
    have z3 : (((gn P x : Nat) : Int) != (x : Int)) = true := by simp; omega
    generalize hp : gn P x = p at *
    have HP := Lib.hid hp
    clear hp
    go_enter Tryd.func76, Tryd.ntmps76
    go_wp2_with fail
    have y1' : w.cell? ⟨fb, 0, none⟩ = some (.func (.func 76) #[] #[.pointer (some ⟨pb, 0, none⟩), .pointer (some ⟨fb, 0, none⟩)]) := y1
    clear y1
    have HZ := Lib.hid (fun (P' : List Nat) (W : World) (hF : Fnd P P' n) (ag : Arr W g 3 (nc P')) => show W.cell? ⟨g, x, none⟩ = some (.int .i64 (p : Int)) by
      have e := hF.stays HD.out.1 HD.out.2
      rw [HP.out] at e
      rw [ag.cell x, nc_get (by rw [hF.kp.len]; omega), e])
    have HQ := Lib.hid (fun (W : World) (hb : Onl g w W) => (⟨(hb.cell hpg).trans y0, (hb.cell hfg).trans y1'⟩ : W.cell? ⟨pb, 0, none⟩ = some (.slice (some ⟨g, 0, none⟩) N N) ∧ W.cell? ⟨fb, 0, none⟩ = some (.func (.func 76) #[] #[.pointer (some ⟨pb, 0, none⟩), .pointer (some ⟨fb, 0, none⟩)])))
    go_region_with (go_at_call 76; refine (HI.out _ ?_ ?_).mono ?_; (focus (first | exact Onl.refl _ _ | exact (Onl.refl _ _).drew | exact (Onl.refl _ _).drew.drew)); exact ag; rintro e w1 ⟨P', rfl, hF, ag1, hO1⟩; have hO : Onl g w w1 := Onl.trans (by first | exact Onl.refl _ _ | exact (Onl.refl _ _).drew | exact (Onl.refl _ _).drew.drew) hO1; clear hO1; have zd := HZ.out _ _ hF ag1; have zf := ag1.frozen x; obtain ⟨y3, y4⟩ := HQ.out _ hO)
    all_goals
      go_wp2_with fail
      go_ret
      exact ⟨P'.set x r, rfl, hF.step (by omega) HD.out.1 HD.out.2, by rw [← nc_set]; exact ag1.set x _, hO.setCell _ _⟩
end Go.Proofs.YtlbihllmpbhhcaaDoor

namespace Go.Proofs.YtlbihllmpbhhcaaDoor
set_option linter.unusedVariables false
open Go.RowKit Go.Maps

def ky (r : Nat) : Lit := .int .i64 (r : Int)
theorem ky_ne {a b : Nat} (h : a ≠ b) : ky a ≠ ky b := by
  intro e
  unfold ky at e
  injection e with _ e
  omega
/-- the map of the numbers when k half-edges have been looked at -/
structure NM {H : Type} (lab : List Nat) (ρ : Nat → Nat) (k : Nat) (D : DataW H) : Prop where
  tidy : Tidy D
  has : ∀ r : Nat, Maps.has D (ky r) = true ↔ ∃ h, h < k ∧ ρ h = r
  val : ∀ h, h < k → D.atKey (ky (ρ h)) (.lit (.int .i64 0)) = .lit (.int .i64 (rk lab (gn lab h) : Nat))
  size : Maps.size D = rk lab k
section
variable {H : Type} {lab : List Nat} {ρ : Nat → Nat} {k N : Nat} {D : DataW H}
theorem NM.start : NM lab ρ 0 (.map [] : DataW H) := ⟨tidy_empty, fun r => by simp [Maps.has], fun h hh => by omega, rfl⟩
/-- which labels fit the roots -/
structure Fits (lab : List Nat) (ρ : Nat → Nat) (N : Nat) : Prop where
  le : ∀ x, x < N → gn lab x ≤ x
  self : ∀ x, x < N → gn lab (gn lab x) = gn lab x
  iff : ∀ x y, x < N → y < N → (ρ x = ρ y ↔ gn lab x = gn lab y)
theorem NM.old (f : Fits lab ρ N) (h : NM lab ρ k D) (hk : k < N) (hh : Maps.has D (ky (ρ k)) = true) :
    NM lab ρ (k + 1) D ∧ D.atKey (ky (ρ k)) (.lit (.int .i64 0)) = .lit (.int .i64 (rk lab (gn lab k) : Nat)) := by
  obtain ⟨j, hj, e⟩ := (h.has _).1 hh
  have e2 := (f.iff j k (by omega) hk).1 e
  have hle := f.le j (by omega)
  have hv : D.atKey (ky (ρ k)) (.lit (.int .i64 0)) = .lit (.int .i64 (rk lab (gn lab k) : Nat)) := by rw [← e, h.val j hj, e2]
  refine ⟨⟨h.tidy, fun r => (h.has r).trans ⟨fun ⟨i, h1, h2⟩ => ⟨i, by omega, h2⟩, fun ⟨i, h1, h2⟩ => ?_⟩, fun i hi => ?_, ?_⟩, hv⟩
  · by_cases q : i = k
    · subst q; exact ⟨j, hj, e.trans h2⟩
    · exact ⟨i, by omega, h2⟩
  · by_cases q : i = k
    · subst q; exact hv
    · exact h.val i (by omega)
  · rw [h.size, rk, if_neg (by omega)]
theorem NM.new (f : Fits lab ρ N) (h : NM lab ρ k D) (hk : k < N) (hh : Maps.has D (ky (ρ k)) = false) :
    NM lab ρ (k + 1) (D.put (ky (ρ k)) (.lit (.int .i64 (Maps.size D : Nat)))) ∧ rk lab (gn lab k) = Maps.size D := by
  have hno : ∀ j, j < k → ρ j ≠ ρ k := fun j hj e => by
    have := (h.has (ρ k)).2 ⟨j, hj, e⟩
    rw [hh] at this; cases this
  have hle := f.le k hk
  have hs : gn lab k = k := by
    by_cases q : gn lab k < k
    · exact absurd ((f.iff (gn lab k) k (by omega) hk).2 (f.self k hk)) (hno _ q)
    · omega
  have hr : rk lab (gn lab k) = Maps.size D := by rw [hs, h.size]
  have hkl : WideAt.IsKeyLit (ky (ρ k)) := trivial
  refine ⟨⟨h.tidy.put hkl _, fun r => ?_, fun i hi => ?_, ?_⟩, hr⟩
  · by_cases q : r = ρ k
    · subst q
      rw [has_put_same h.tidy.isMap hkl]
      exact ⟨fun _ => ⟨k, by omega, rfl⟩, fun _ => rfl⟩
    · rw [has_put_other (ky_ne q), h.has]
      constructor
      · rintro ⟨i, h1, h2⟩; exact ⟨i, by omega, h2⟩
      · rintro ⟨i, h1, h2⟩
        by_cases q2 : i = k
        · subst q2; exact absurd h2.symm q
        · exact ⟨i, by omega, h2⟩
  · by_cases q : i = k
    · subst q
      rw [atKey_put_same h.tidy.isMap hkl, hr]
    · rw [atKey_put_other (ky_ne (hno i (by omega))), h.val i (by omega)]
  · rw [size_put h.tidy, hh, h.size, rk, if_pos hs]; rfl
end
theorem rk_mono (l : List Nat) : ∀ {a b : Nat}, a ≤ b → rk l a ≤ rk l b := by
  intro a b h
  induction b with
  | zero => have : a = 0 := by omega
            subst this; exact Nat.le_refl _
  | succ b ih =>
    rcases Nat.lt_or_ge b a with q | q
    · have : a = b + 1 := by omega
      subst this; exact Nat.le_refl _
    · have := ih q
      rw [rk]; split <;> omega
/-- the roots of a forest as a function -/
theorem root_fun {N : Nat} {P : List Nat} (h : Fst N P) : ∃ ρ : Nat → Nat, ∀ x, x < N → ρ x < N ∧ ∃ n, Dp P n x (ρ x) := by
  refine ⟨fun x => if hx : x < N then (h.ex x hx).choose_spec.choose else 0, fun x hx => ?_⟩
  have hs := (h.ex x hx).choose_spec.choose_spec
  simp only [hx, dif_pos]
  exact ⟨hs.lt h.lt hx, _, hs⟩
theorem fits_of {S M : List Int} {L : Int} (k : Ok S M L) {P : List Nat} (h : UF (Sees M M.length) M.length P) (h1 : ∀ x, x < M.length → Sm P x (mt M x)) (h2 : ∀ c, c < S.length → Sm P (4 * c + 1) (4 * c + 3))
    {ρ : Nat → Nat} (hρ : ∀ x, x < M.length → ρ x < M.length ∧ ∃ n, Dp P n x (ρ x)) : Fits (labA M M.length M.length) ρ M.length := by
  refine ⟨fun x hx => la_le k hx, fun x hx => la_self k hx, fun x y hx hy => ?_⟩
  rw [la_eq k hx hy, ← uf_conn k h h1 h2 hx hy]
  obtain ⟨_, n, d1⟩ := hρ x hx
  obtain ⟨_, m, d2⟩ := hρ y hy
  constructor
  · intro e; rw [← e] at d2; exact ⟨n, m, _, d1, d2⟩
  · rintro ⟨a, b, r, d3, d4⟩
    rw [(Dp.uniq d1 d3).2, (Dp.uniq d2 d4).2]
end Go.Proofs.YtlbihllmpbhhcaaDoor
