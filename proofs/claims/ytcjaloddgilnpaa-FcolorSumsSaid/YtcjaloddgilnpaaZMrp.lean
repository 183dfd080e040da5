/- Mirror images and the reverse: as many colorings (plain). -/
/- mirror: the closures. -/
/- mirror.move: cells by a function. -/
import Derived.Test.YtcjaloddgilnpaaZRel
import Derived.Test.YtcjaloddgilnpaaZNco
namespace Go.Proofs.Ytcjaloddgilnpaa
open Go.RowKit
set_option linter.unusedVariables false

section
variable {n : Nat} {M M' : List Int} {τ ti : Nat → Nat}
theorem Rlb.slots (r : Rlb n M M' τ ti) (hp : ∀ h, τ h % 2 = h % 2) (c : Nat) : ((ti (4 * c) = 4 * c ∧ ti (4 * c + 2) = 4 * c + 2) ∨ (ti (4 * c) = 4 * c + 2 ∧ ti (4 * c + 2) = 4 * c)) ∧ ((ti (4 * c + 1) = 4 * c + 1 ∧ ti (4 * c + 3) = 4 * c + 3) ∨ (ti (4 * c + 1) = 4 * c + 3 ∧ ti (4 * c + 3) = 4 * c + 1)) := by
  have hq : ∀ h, ti h % 2 = h % 2 := fun h => by have := hp (ti h); rw [r.tr] at this; exact this.symm
  have hi : ∀ a b, a ≠ b → ti a ≠ ti b := fun a b h e => h (by rw [← r.tr a, e, r.tr])
  have a0 := hq (4 * c)
  have a1 := hq (4 * c + 1)
  have a2 := hq (4 * c + 2)
  have a3 := hq (4 * c + 3)
  have b0 := r.t2 (4 * c)
  have b1 := r.t2 (4 * c + 1)
  have b2 := r.t2 (4 * c + 2)
  have b3 := r.t2 (4 * c + 3)
  have c0 := hi (4 * c) (4 * c + 2) (by omega)
  have c1 := hi (4 * c + 1) (4 * c + 3) (by omega)
  constructor <;> omega
theorem Rlb.slotsU (r : Rlb n M M' τ ti) (hp : ∀ h, τ h % 2 ≠ h % 2) (c : Nat) : ((ti (4 * c) = 4 * c + 1 ∧ ti (4 * c + 2) = 4 * c + 3) ∨ (ti (4 * c) = 4 * c + 3 ∧ ti (4 * c + 2) = 4 * c + 1)) ∧ ((ti (4 * c + 1) = 4 * c ∧ ti (4 * c + 3) = 4 * c + 2) ∨ (ti (4 * c + 1) = 4 * c + 2 ∧ ti (4 * c + 3) = 4 * c)) := by
  have hq : ∀ h, ti h % 2 ≠ h % 2 := fun h => by have := hp (ti h); rw [r.tr] at this; exact this.symm
  have hi : ∀ a b, a ≠ b → ti a ≠ ti b := fun a b h e => h (by rw [← r.tr a, e, r.tr])
  have a0 : ti (4 * c) % 2 = 1 := by have := hq (4 * c); omega
  have a1 : ti (4 * c + 1) % 2 = 0 := by have := hq (4 * c + 1); omega
  have a2 : ti (4 * c + 2) % 2 = 1 := by have := hq (4 * c + 2); omega
  have a3 : ti (4 * c + 3) % 2 = 0 := by have := hq (4 * c + 3); omega
  have b0 := r.t2 (4 * c)
  have b1 := r.t2 (4 * c + 1)
  have b2 := r.t2 (4 * c + 2)
  have b3 := r.t2 (4 * c + 3)
  have c0 := hi (4 * c) (4 * c + 2) (by omega)
  have c1 := hi (4 * c + 1) (4 * c + 3) (by omega)
  constructor <;> omega
theorem Rlb.edge (r : Rlb n M M' τ ti) {x : Nat → Nat} (hx : ∀ h, h < 4 * n → x (mt M h) = x h) : ∀ h, h < 4 * n → x (ti (mt M' h)) = x (ti h) := fun h hh => by
  rw [r.mt' hh, r.tl, hx _ (r.tilt hh)]
theorem Rlb.fox (r : Rlb n M M' τ ti) (hp : ∀ h, τ h % 2 = h % 2) {m : Nat} {x : Nat → Nat} (hx : Fox n (mt M) m x) : Fox n (mt M') m (fun h => x (ti h)) := by
  refine ⟨r.edge hx.1, fun c hc => ?_⟩
  obtain ⟨s0, s1⟩ := r.slots hp c
  obtain ⟨e, d⟩ := hx.2 c hc
  show x (ti (4 * c + 1)) = x (ti (4 * c + 3)) ∧ (m : Int) ∣ 2 * (x (ti (4 * c + 1)) : Int) - (x (ti (4 * c)) : Int) - (x (ti (4 * c + 2)) : Int)
  have e1 : x (ti (4 * c + 1)) = x (4 * c + 1) ∧ x (ti (4 * c + 3)) = x (4 * c + 1) := by
    rcases s1 with ⟨u, v⟩ | ⟨u, v⟩ <;> rw [u, v]
    · exact ⟨rfl, e.symm⟩
    · exact ⟨e.symm, rfl⟩
  rw [e1.1, e1.2]
  refine ⟨rfl, ?_⟩
  rcases s0 with ⟨u, v⟩ | ⟨u, v⟩ <;> rw [u, v]
  · exact d
  · rwa [show ∀ a b c : Int, a - b - c = a - c - b from fun a b c => by omega]
theorem Rlb.foxU (r : Rlb n M M' τ ti) (hp : ∀ h, τ h % 2 ≠ h % 2) {m : Nat} {x : Nat → Nat} (hx : Fox n (mt M) m x) : FoxU n (mt M') m (fun h => x (ti h)) := by
  refine ⟨r.edge hx.1, fun c hc => ?_⟩
  obtain ⟨s0, s1⟩ := r.slotsU hp c
  obtain ⟨e, d⟩ := hx.2 c hc
  show x (ti (4 * c)) = x (ti (4 * c + 2)) ∧ (m : Int) ∣ 2 * (x (ti (4 * c)) : Int) - (x (ti (4 * c + 1)) : Int) - (x (ti (4 * c + 3)) : Int)
  have e1 : x (ti (4 * c)) = x (4 * c + 1) ∧ x (ti (4 * c + 2)) = x (4 * c + 1) := by
    rcases s0 with ⟨u, v⟩ | ⟨u, v⟩ <;> rw [u, v]
    · exact ⟨rfl, e.symm⟩
    · exact ⟨e.symm, rfl⟩
  rw [e1.1, e1.2]
  refine ⟨rfl, ?_⟩
  rcases s1 with ⟨u, v⟩ | ⟨u, v⟩ <;> rw [u, v]
  · exact d
  · rwa [show ∀ a b c : Int, a - b - c = a - c - b from fun a b c => by omega]
theorem Rlb.Ufox (r : Rlb n M M' τ ti) (hp : ∀ h, τ h % 2 ≠ h % 2) {m : Nat} {x : Nat → Nat} (hx : FoxU n (mt M) m x) : Fox n (mt M') m (fun h => x (ti h)) := by
  refine ⟨r.edge hx.1, fun c hc => ?_⟩
  obtain ⟨s0, s1⟩ := r.slotsU hp c
  obtain ⟨e, d⟩ := hx.2 c hc
  show x (ti (4 * c + 1)) = x (ti (4 * c + 3)) ∧ (m : Int) ∣ 2 * (x (ti (4 * c + 1)) : Int) - (x (ti (4 * c)) : Int) - (x (ti (4 * c + 2)) : Int)
  have e1 : x (ti (4 * c + 1)) = x (4 * c) ∧ x (ti (4 * c + 3)) = x (4 * c) := by
    rcases s1 with ⟨u, v⟩ | ⟨u, v⟩ <;> rw [u, v]
    · exact ⟨rfl, e.symm⟩
    · exact ⟨e.symm, rfl⟩
  rw [e1.1, e1.2]
  refine ⟨rfl, ?_⟩
  rcases s0 with ⟨u, v⟩ | ⟨u, v⟩ <;> rw [u, v]
  · exact d
  · rwa [show ∀ a b c : Int, a - b - c = a - c - b from fun a b c => by omega]
theorem cnt_relabel {m : Nat} (hm : 0 < m) {p q : (Nat → Nat) → Bool} (r : Rlb n M M' τ ti) (hq : Loc (4 * n) q) (h : ∀ x, p x = true → q (fun h => x (ti h)) = true) : cntV m (4 * n) p ≤ cntV m (4 * n) q := by
  refine cntV_le2 hm hq (fun x h => x (ti h)) (fun x hx hpx => ⟨h x hpx, fun j hj => hx _ (r.tilt hj)⟩) (fun x y hx hy _ _ he j hj => ?_)
  have := he (τ j) (r.tlt hj)
  simp only [r.tl] at this
  exact this
theorem Rlb.nFox (r : Rlb n M M' τ ti) (hp : ∀ h, τ h % 2 = h % 2) {m : Nat} (hm : 0 < m) : nFox n (mt M') m = nFox n (mt M) m := by
  have hq : ∀ h, ti h % 2 = h % 2 := fun h => by have := hp (ti h); rw [r.tr] at this; exact this.symm
  unfold Go.Proofs.Ytcjaloddgilnpaa.nFox
  exact Nat.le_antisymm (cnt_relabel hm r.symm (foxB_loc r.lt) (fun x hx => foxB_iff.2 (r.symm.fox hq (foxB_iff.1 hx)))) (cnt_relabel hm r (foxB_loc r.symm.lt) (fun x hx => foxB_iff.2 (r.fox hp (foxB_iff.1 hx))))
theorem Rlb.nFoxU (r : Rlb n M M' τ ti) (hp : ∀ h, τ h % 2 ≠ h % 2) {m : Nat} (hm : 0 < m) : Go.Proofs.Ytcjaloddgilnpaa.nFox n (mt M') m = cntV m (4 * n) (foxUB n (mt M) m) := by
  have hq : ∀ h, ti h % 2 ≠ h % 2 := fun h => by have := hp (ti h); rw [r.tr] at this; exact this.symm
  unfold Go.Proofs.Ytcjaloddgilnpaa.nFox
  exact Nat.le_antisymm (cnt_relabel hm r.symm (foxUB_loc r.lt) (fun x hx => foxUB_iff.2 (r.symm.foxU hq (foxB_iff.1 hx)))) (cnt_relabel hm r (foxB_loc r.symm.lt) (fun x hx => foxB_iff.2 (r.Ufox hp (foxUB_iff.1 hx))))
end

/-- what Count returns, by the colorings of the half-edges -/
theorem cntP_fox {S M : List Int} {L : Int} (k : Ok S M L) (hn : S.length ≤ 14) {m : Nat} (hm : 0 < m) :
    cntP (invL S M L) m (colN M L) = if nFox S.length (mt M) m * m ^ L.toNat ≤ 1125899906842624 then some (nFox S.length (mt M) m * m ^ L.toNat) else none := by
  rw [← nCol_fox k hm, nCol_sol k hm, inv_sol k hn hm]
  by_cases h : prodN (colN M L) (fun j => Nat.gcd (gn (invL S M L) j) m) ≤ 1125899906842624
  · rw [if_pos h, cntP_small hm h]
  · rw [if_neg h]
    cases e : cntP (invL S M L) m (colN M L) with
    | none => rfl
    | some a =>
      have h1 := cntP_bd hm e
      rw [cntP_prod e] at h1
      exact absurd h1.2 h

/-- the relabelled list of mates -/
def relL (N : Nat) (τ ti : Nat → Nat) (M : List Int) : List Int := (List.range N).map fun h => ((τ (mt M (ti h)) : Nat) : Int)
theorem relL_length (N : Nat) (τ ti : Nat → Nat) (M : List Int) : (relL N τ ti M).length = N := by simp [relL]
theorem relL_get {N : Nat} {τ ti : Nat → Nat} {M : List Int} {h : Nat} (hh : h < N) : (relL N τ ti M)[h]?.getD 0 = ((τ (mt M (ti h)) : Nat) : Int) := by
  unfold relL
  rw [List.getElem?_map, List.getElem?_range hh]; rfl
theorem mt_relL {N : Nat} {τ ti : Nat → Nat} {M : List Int} {h : Nat} (hh : h < N) : mt (relL N τ ti M) h = τ (mt M (ti h)) := by
  have h1 := relL_get (τ := τ) (ti := ti) (M := M) hh
  have h2 : mt (relL N τ ti M) h = ((relL N τ ti M)[h]?.getD 0).toNat := rfl
  omega
theorem rlb_of {S M : List Int} {L : Int} (k : Ok S M L) {τ ti : Nat → Nat} (t : ∀ h, τ h / 4 = h / 4) (t2 : ∀ h, ti h / 4 = h / 4) (tl : ∀ h, ti (τ h) = h) (tr : ∀ h, τ (ti h) = h)
    (tt : (∀ h, τ (turnN h 3) = turnN (τ h) 3) ∨ ∀ h, τ (turnN h 3) = turnN (τ h) 1) : Rlb S.length M (relL (4 * S.length) τ ti M) τ ti := by
  refine ⟨k.m, relL_length _ _ _ _, fun h hh => ?_, fun h hh => ?_, t, t2, tl, tr, fun h hh => ?_, tt⟩
  · have := k.lt h (by have := k.m; omega); have := k.m; omega
  · exact k.inv h (by have := k.m; omega)
  · rw [mt_relL (by have := t h; omega), tl]
def mirT (S : List Int) (h : Nat) : Nat := if gi S (h / 4) = 1 then turnN h 1 else turnN h 3
def mirI (S : List Int) (h : Nat) : Nat := if gi S (h / 4) = 1 then turnN h 3 else turnN h 1
def refT (h : Nat) : Nat := h / 4 * 4 + (4 - h % 4) % 4
def revT (h : Nat) : Nat := turnN h 2
theorem mirT_div (S : List Int) (h : Nat) : mirT S h / 4 = h / 4 := by unfold mirT; split <;> exact turn_div _ _
theorem mirI_div (S : List Int) (h : Nat) : mirI S h / 4 = h / 4 := by unfold mirI; split <;> exact turn_div _ _
theorem gi_neg (S : List Int) (c : Nat) : gi (S.map fun s => -s) c = - gi S c := by
  unfold gi
  rw [List.getElem?_map]
  cases S[c]? <;> simp
/-- a valid diagram with as many colorings -/
structure Twin (S M S' M' : List Int) (L : Int) : Prop where
  v : valB S' M' L = true
  n : S'.length = S.length
  c : ∀ m, 0 < m → nFox S'.length (mt M') m = nFox S.length (mt M) m
theorem Twin.cnt {S M S' M' : List Int} {L : Int} (t : Twin S M S' M' L) (k : Ok S M L) (hn : S.length ≤ 14) {m : Nat} (hm : 0 < m) : cntP (invL S' M' L) m (colN M' L) = cntP (invL S M L) m (colN M L) := by
  rw [cntP_fox k hn hm, cntP_fox (valB_ok t.v) (by rw [t.n]; exact hn) hm, t.c m hm]
section
variable {S M : List Int} {L : Int}
theorem sg_gi (k : Ok S M L) {c : Nat} (hc : c < S.length) : gi S c = 1 ∨ gi S c = -1 := by
  unfold gi
  rw [List.getElem?_eq_getElem hc]
  exact k.sg c hc
theorem neg_sg (k : Ok S M L) : ∀ s ∈ S.map (fun s => -s), s = 1 ∨ s = -1 := fun s hs => by
  obtain ⟨x, hx, rfl⟩ := List.mem_map.1 hs
  obtain ⟨i, hi, rfl⟩ := List.mem_iff_getElem.1 hx
  have := k.sg i hi
  omega
theorem mirror_twin (hv : valB S M L = true) : Twin S M (S.map fun s => -s) (relL (4 * S.length) (mirT S) (mirI S) M) L := by
  have k := valB_ok hv
  have hl : ∀ h, mirI S (mirT S h) = h := fun h => by
    have e := mirT_div S h
    unfold mirI
    rw [e]
    unfold mirT
    split <;> (unfold turnN; omega)
  have hr : ∀ h, mirT S (mirI S h) = h := fun h => by
    have e := mirI_div S h
    unfold mirT
    rw [e]
    unfold mirI
    split <;> (unfold turnN; omega)
  have r : Rlb S.length M (relL (4 * S.length) (mirT S) (mirI S) M) (mirT S) (mirI S) := rlb_of k (mirT_div S) (mirI_div S) hl hr (Or.inl fun h => by
    unfold mirT
    rw [turn_div]
    split <;> (unfold turnN; omega))
  have hp : ∀ h, mirT S h % 2 ≠ h % 2 := fun h => by
    unfold mirT
    split <;> (unfold turnN; omega)
  refine ⟨r.valid hv (by simp) (neg_sg k) (fun h hh => by rw [relL_get hh]; omega) (Or.inl fun h hh => ?_), by simp, fun m hm => ?_⟩
  · have h1 := sg_gi k (c := h / 4) (by omega)
    have h2 := gi_neg S (h / 4)
    have h3 := mirT_div S h
    have h4 : ∀ T, outB T = fun h => if h % 4 = 1 then gi T (h / 4) == 1 else if h % 4 = 2 then true else if h % 4 = 3 then gi T (h / 4) == -1 else false := fun T => rfl
    rw [h4, h4]
    simp only [h3, h2]
    rcases h1 with e | e
    · have h5 : mirT S h % 4 = (h % 4 + 1) % 4 := by unfold mirT; rw [if_pos e]; unfold turnN; omega
      rw [h5, e]
      rcases (by omega : h % 4 = 0 ∨ h % 4 = 1 ∨ h % 4 = 2 ∨ h % 4 = 3) with q | q | q | q <;> rw [q] <;> rfl
    · have h5 : mirT S h % 4 = (h % 4 + 3) % 4 := by unfold mirT; rw [if_neg (by rw [e]; decide)]; unfold turnN; omega
      rw [h5, e]
      rcases (by omega : h % 4 = 0 ∨ h % 4 = 1 ∨ h % 4 = 2 ∨ h % 4 = 3) with q | q | q | q <;> rw [q] <;> rfl
  · obtain ⟨fc, lab, p⟩ := planar hv
    rw [List.length_map, r.nFoxU hp hm, p.switch hm]
theorem reflect_twin (hv : valB S M L = true) : Twin S M (S.map fun s => -s) (relL (4 * S.length) refT refT M) L := by
  have k := valB_ok hv
  have hd : ∀ h, refT h / 4 = h / 4 := fun h => by unfold refT; omega
  have hl : ∀ h, refT (refT h) = h := fun h => by unfold refT; omega
  have r : Rlb S.length M (relL (4 * S.length) refT refT M) refT refT := rlb_of k hd hd hl hl (Or.inr fun h => by unfold refT turnN; omega)
  have hp : ∀ h, refT h % 2 = h % 2 := fun h => by unfold refT; omega
  refine ⟨r.valid hv (by simp) (neg_sg k) (fun h hh => by rw [relL_get hh]; omega) (Or.inl fun h hh => ?_), by simp, fun m hm => by rw [List.length_map, r.nFox hp hm]⟩
  have h1 := sg_gi k (c := h / 4) (by omega)
  have h2 := gi_neg S (h / 4)
  have h3 := hd h
  have h4 : ∀ T, outB T = fun h => if h % 4 = 1 then gi T (h / 4) == 1 else if h % 4 = 2 then true else if h % 4 = 3 then gi T (h / 4) == -1 else false := fun T => rfl
  rw [h4, h4]
  simp only [h3, h2]
  have h5 : refT h % 4 = (4 - h % 4) % 4 := by unfold refT; omega
  rw [h5]
  rcases h1 with e | e <;> rw [e] <;> rcases (by omega : h % 4 = 0 ∨ h % 4 = 1 ∨ h % 4 = 2 ∨ h % 4 = 3) with q | q | q | q <;> rw [q] <;> rfl
theorem reverse_twin (hv : valB S M L = true) : Twin S M S (relL (4 * S.length) revT revT M) L := by
  have k := valB_ok hv
  have hd : ∀ h, revT h / 4 = h / 4 := fun h => by unfold revT turnN; omega
  have hl : ∀ h, revT (revT h) = h := fun h => by unfold revT turnN; omega
  have r : Rlb S.length M (relL (4 * S.length) revT revT M) revT revT := rlb_of k hd hd hl hl (Or.inl fun h => by unfold revT turnN; omega)
  have hp : ∀ h, revT h % 2 = h % 2 := fun h => by unfold revT turnN; omega
  refine ⟨r.valid hv rfl (fun s hs => ?_) (fun h hh => by rw [relL_get hh]; omega) (Or.inr fun h hh => ?_), rfl, fun m hm => r.nFox hp hm⟩
  · obtain ⟨i, hi, rfl⟩ := List.mem_iff_getElem.1 hs
    exact k.sg i hi
  have h1 := sg_gi k (c := h / 4) (by omega)
  have h3 := hd h
  have h4 : ∀ T, outB T = fun h => if h % 4 = 1 then gi T (h / 4) == 1 else if h % 4 = 2 then true else if h % 4 = 3 then gi T (h / 4) == -1 else false := fun T => rfl
  rw [h4]
  simp only [h3]
  have h5 : revT h % 4 = (h % 4 + 2) % 4 := by unfold revT turnN; omega
  rw [h5]
  rcases h1 with e | e <;> rw [e] <;> rcases (by omega : h % 4 = 0 ∨ h % 4 = 1 ∨ h % 4 = 2 ∨ h % 4 = 3) with q | q | q | q <;> rw [q] <;> rfl
end
end Go.Proofs.Ytcjaloddgilnpaa

namespace Go.Proofs.Ytcjaloddgilnpaa
open Go.RowKit
set_option linter.unusedVariables false

set_option maxHeartbeats 400000 in
theorem turn_m3 (h : Nat) (w : World) (hh : h < 1000) :
    Calls Try.prog 74 #[.int .i64 h, .int .i64 (-3)] w fun e w' => e = .returned (.int .i64 ((h / 4 * 4 + (h % 4 + 1) % 4 : Nat) : Int)) ∧ w = w' := by
  have u0 : ¬ ((h : Int) < 0) := by omega
  rcases (by omega : h % 4 = 0 ∨ h % 4 = 1 ∨ h % 4 = 2 ∨ h % 4 = 3) with q | q | q | q
  · have q1 : (h : Int) % 4 = 0 := by omega
    go_enter Try.func74, Try.ntmps74
    go_wp2_with fail
    go_ret
    exact ⟨congrArg (fun z => Ending.returned (Value.int .i64 z)) (by go_num), rfl⟩
  · have q1 : (h : Int) % 4 = 1 := by omega
    go_enter Try.func74, Try.ntmps74
    go_wp2_with fail
    go_ret
    exact ⟨congrArg (fun z => Ending.returned (Value.int .i64 z)) (by go_num), rfl⟩
  · have q1 : (h : Int) % 4 = 2 := by omega
    go_enter Try.func74, Try.ntmps74
    go_wp2_with fail
    go_ret
    exact ⟨congrArg (fun z => Ending.returned (Value.int .i64 z)) (by go_num), rfl⟩
  · have q1 : (h : Int) % 4 = 3 := by omega
    go_enter Try.func74, Try.ntmps74
    go_wp2_with fail
    go_ret
    exact ⟨congrArg (fun z => Ending.returned (Value.int .i64 z)) (by go_num), rfl⟩
set_option maxHeartbeats 400000 in
theorem turn_p4 (h : Nat) (w : World) (hh : h < 1000) :
    Calls Try.prog 74 #[.int .i64 h, .int .i64 (4)] w fun e w' => e = .returned (.int .i64 ((h / 4 * 4 + (h % 4 + 0) % 4 : Nat) : Int)) ∧ w = w' := by
  have u0 : ¬ ((h : Int) < 0) := by omega
  rcases (by omega : h % 4 = 0 ∨ h % 4 = 1 ∨ h % 4 = 2 ∨ h % 4 = 3) with q | q | q | q
  · have q1 : (h : Int) % 4 = 0 := by omega
    go_enter Try.func74, Try.ntmps74
    go_wp2_with fail
    go_ret
    exact ⟨congrArg (fun z => Ending.returned (Value.int .i64 z)) (by go_num), rfl⟩
  · have q1 : (h : Int) % 4 = 1 := by omega
    go_enter Try.func74, Try.ntmps74
    go_wp2_with fail
    go_ret
    exact ⟨congrArg (fun z => Ending.returned (Value.int .i64 z)) (by go_num), rfl⟩
  · have q1 : (h : Int) % 4 = 2 := by omega
    go_enter Try.func74, Try.ntmps74
    go_wp2_with fail
    go_ret
    exact ⟨congrArg (fun z => Ending.returned (Value.int .i64 z)) (by go_num), rfl⟩
  · have q1 : (h : Int) % 4 = 3 := by omega
    go_enter Try.func74, Try.ntmps74
    go_wp2_with fail
    go_ret
    exact ⟨congrArg (fun z => Ending.returned (Value.int .i64 z)) (by go_num), rfl⟩
set_option maxHeartbeats 400000 in
theorem turn_p2 (h : Nat) (w : World) (hh : h < 1000) :
    Calls Try.prog 74 #[.int .i64 h, .int .i64 (2)] w fun e w' => e = .returned (.int .i64 ((h / 4 * 4 + (h % 4 + 2) % 4 : Nat) : Int)) ∧ w = w' := by
  have u0 : ¬ ((h : Int) < 0) := by omega
  rcases (by omega : h % 4 = 0 ∨ h % 4 = 1 ∨ h % 4 = 2 ∨ h % 4 = 3) with q | q | q | q
  · have q1 : (h : Int) % 4 = 0 := by omega
    go_enter Try.func74, Try.ntmps74
    go_wp2_with fail
    go_ret
    exact ⟨congrArg (fun z => Ending.returned (Value.int .i64 z)) (by go_num), rfl⟩
  · have q1 : (h : Int) % 4 = 1 := by omega
    go_enter Try.func74, Try.ntmps74
    go_wp2_with fail
    go_ret
    exact ⟨congrArg (fun z => Ending.returned (Value.int .i64 z)) (by go_num), rfl⟩
  · have q1 : (h : Int) % 4 = 2 := by omega
    go_enter Try.func74, Try.ntmps74
    go_wp2_with fail
    go_ret
    exact ⟨congrArg (fun z => Ending.returned (Value.int .i64 z)) (by go_num), rfl⟩
  · have q1 : (h : Int) % 4 = 3 := by omega
    go_enter Try.func74, Try.ntmps74
    go_wp2_with fail
    go_ret
    exact ⟨congrArg (fun z => Ending.returned (Value.int .i64 z)) (by go_num), rfl⟩
set_option maxHeartbeats 400000 in
theorem turn_z (h : Nat) (w : World) (hh : h < 1000) :
    Calls Try.prog 74 #[.int .i64 h, .int .i64 (0)] w fun e w' => e = .returned (.int .i64 ((h / 4 * 4 + (h % 4 + 0) % 4 : Nat) : Int)) ∧ w = w' := by
  have u0 : ¬ ((h : Int) < 0) := by omega
  rcases (by omega : h % 4 = 0 ∨ h % 4 = 1 ∨ h % 4 = 2 ∨ h % 4 = 3) with q | q | q | q
  · have q1 : (h : Int) % 4 = 0 := by omega
    go_enter Try.func74, Try.ntmps74
    go_wp2_with fail
    go_ret
    exact ⟨congrArg (fun z => Ending.returned (Value.int .i64 z)) (by go_num), rfl⟩
  · have q1 : (h : Int) % 4 = 1 := by omega
    go_enter Try.func74, Try.ntmps74
    go_wp2_with fail
    go_ret
    exact ⟨congrArg (fun z => Ending.returned (Value.int .i64 z)) (by go_num), rfl⟩
  · have q1 : (h : Int) % 4 = 2 := by omega
    go_enter Try.func74, Try.ntmps74
    go_wp2_with fail
    go_ret
    exact ⟨congrArg (fun z => Ending.returned (Value.int .i64 z)) (by go_num), rfl⟩
  · have q1 : (h : Int) % 4 = 3 := by omega
    go_enter Try.func74, Try.ntmps74
    go_wp2_with fail
    go_ret
    exact ⟨congrArg (fun z => Ending.returned (Value.int .i64 z)) (by go_num), rfl⟩
set_option maxHeartbeats 400000 in
theorem turn_m2 (h : Nat) (w : World) (hh : h < 1000) :
    Calls Try.prog 74 #[.int .i64 h, .int .i64 (-2)] w fun e w' => e = .returned (.int .i64 ((h / 4 * 4 + (h % 4 + 2) % 4 : Nat) : Int)) ∧ w = w' := by
  have u0 : ¬ ((h : Int) < 0) := by omega
  rcases (by omega : h % 4 = 0 ∨ h % 4 = 1 ∨ h % 4 = 2 ∨ h % 4 = 3) with q | q | q | q
  · have q1 : (h : Int) % 4 = 0 := by omega
    go_enter Try.func74, Try.ntmps74
    go_wp2_with fail
    go_ret
    exact ⟨congrArg (fun z => Ending.returned (Value.int .i64 z)) (by go_num), rfl⟩
  · have q1 : (h : Int) % 4 = 1 := by omega
    go_enter Try.func74, Try.ntmps74
    go_wp2_with fail
    go_ret
    exact ⟨congrArg (fun z => Ending.returned (Value.int .i64 z)) (by go_num), rfl⟩
  · have q1 : (h : Int) % 4 = 2 := by omega
    go_enter Try.func74, Try.ntmps74
    go_wp2_with fail
    go_ret
    exact ⟨congrArg (fun z => Ending.returned (Value.int .i64 z)) (by go_num), rfl⟩
  · have q1 : (h : Int) % 4 = 3 := by omega
    go_enter Try.func74, Try.ntmps74
    go_wp2_with fail
    go_ret
    exact ⟨congrArg (fun z => Ending.returned (Value.int .i64 z)) (by go_num), rfl⟩
theorem revBy (a0 a1 : Int) (w : World) : Calls Try.prog 55 #[.int .i64 a0, .int .i64 a1] w fun e w' => e = .returned (.int .i64 2) ∧ w = w' := by
  go_enter Try.func55, Try.ntmps55
  go_wp2_with fail
  go_ret
  exact ⟨rfl, rfl⟩
theorem revSg (a0 : Int) (w : World) : Calls Try.prog 56 #[.int .i64 a0] w fun e w' => e = .returned (.int .i64 1) ∧ w = w' := by
  go_enter Try.func56, Try.ntmps56
  go_wp2_with fail
  go_ret
  exact ⟨rfl, rfl⟩
theorem refSg (a0 : Int) (w : World) : Calls Try.prog 54 #[.int .i64 a0] w fun e w' => e = .returned (.int .i64 (-1)) ∧ w = w' := by
  go_enter Try.func54, Try.ntmps54
  go_wp2_with fail
  go_ret
  exact ⟨rfl, rfl⟩
theorem mirCh (a0 : Int) (w : World) : Calls Try.prog 51 #[.int .i64 a0] w fun e w' => e = .returned (.bool true) ∧ w = w' := by
  go_enter Try.func51, Try.ntmps51
  go_wp2_with fail
  go_ret
  exact ⟨rfl, rfl⟩
theorem refBy (a0 : Int) (x : Nat) (w : World) (hx : x < 4) : Calls Try.prog 52 #[.int .i64 a0, .int .i64 (x : Nat)] w fun e w' => e = .returned (.int .i64 (4 - 2 * (x : Int))) ∧ w = w' := by
  go_enter Try.func52, Try.ntmps52
  go_wp2_with fail
  go_ret
  exact ⟨congrArg (fun z => Ending.returned (Value.int .i64 z)) (by go_num), rfl⟩
def chV : Value := .func (.func 51) #[] #[]
theorem mirSg (a0 : Int) (cb : Nat) (w : World) (y : w.cell? ⟨cb, 0, none⟩ = some (.func (.func 51) #[] #[])) : Calls Try.prog 72 #[.int .i64 a0, .pointer (some ⟨cb, 0, none⟩)] w fun e w' => e = .returned (.int .i64 (-1)) ∧ w = w' := by
  go_enter Try.func72, Try.ntmps72
  go_wp2_with (go_at_call 51; refine (mirCh a0 w).mono ?_; rintro e w1 ⟨rfl, rfl⟩)
  go_ret
  exact ⟨rfl, rfl⟩
set_option maxHeartbeats 1000000 in
theorem mirBy (c : Nat) (x : Int) (cb db : Nat) (vs vm : Value) (S : List Int) (L : Int) (w : World) (hS : Ints w vs S) (hc : c < S.length) (y : w.cell? ⟨cb, 0, none⟩ = some (.func (.func 51) #[] #[])) (q : Arr w db 24 [vs, vm, .int .i64 L]) :
    Calls Try.prog 71 #[.int .i64 (c : Nat), .int .i64 x, .pointer (some ⟨cb, 0, none⟩), .pointer (some ⟨db, 0, none⟩)] w fun e w' => e = .returned (.int .i64 (if gi S c = 1 then -3 else -1)) ∧ w = w' := by
  have y0 := q.cell 0
  obtain ⟨A, n, rfl, hn, hx⟩ := hS
  obtain ⟨b, o, hA, hcell⟩ := hx c (gi S c) (by unfold gi; rw [List.getElem?_eq_getElem hc]; rfl)
  subst hA
  have z1 : (c : Int) < (S.length : Int) := by omega
  clear hx q
  generalize gi S c = s at *
  by_cases e : s = 1
  · rw [if_pos e]
    subst e
    go_enter Try.func71, Try.ntmps71
    go_wp2_with (go_at_call 51; refine (mirCh _ w).mono ?_; rintro e w1 ⟨rfl, rfl⟩)
    go_ret
    exact ⟨rfl, rfl⟩
  · rw [if_neg e]
    have z2 : (s == 1) = false := by simp [e]
    clear e
    go_enter Try.func71, Try.ntmps71
    go_wp2_with (go_at_call 51; refine (mirCh _ w).mono ?_; rintro e w1 ⟨rfl, rfl⟩)
    go_ret
    exact ⟨rfl, rfl⟩
theorem div4 (h : Nat) : ((h : Int) / 4) = ((h / 4 : Nat) : Int) := by omega
set_option maxHeartbeats 1000000 in
theorem to_rev (h bb : Nat) (w : World) (hh : h < 1000) (y : w.cell? ⟨bb, 0, none⟩ = some (.func (.func 55) #[] #[])) :
    Calls Try.prog 73 #[.int .i64 (h : Nat), .pointer (some ⟨bb, 0, none⟩)] w fun e w' => e = .returned (.int .i64 (revT h : Nat)) ∧ w = w' := by
  have HT := Lib.hid (turn_p2 h w hh)
  have hr : (h / 4 * 4 + (h % 4 + 2) % 4) = revT h := rfl
  rw [hr] at HT
  clear hr
  generalize revT h = t at *
  go_enter Try.func73, Try.ntmps73
  go_wp2_with (first | (go_at_call 55; refine (revBy _ _ w).mono ?_; rintro e w1 ⟨rfl, rfl⟩) | (go_at_call 74; refine HT.out.mono ?_; rintro e w1 ⟨rfl, rfl⟩))
  go_ret
  exact ⟨rfl, rfl⟩
set_option maxHeartbeats 2000000 in
theorem to_ref (h bb : Nat) (w : World) (hh : h < 1000) (y : w.cell? ⟨bb, 0, none⟩ = some (.func (.func 52) #[] #[])) :
    Calls Try.prog 73 #[.int .i64 (h : Nat), .pointer (some ⟨bb, 0, none⟩)] w fun e w' => e = .returned (.int .i64 (refT h : Nat)) ∧ w = w' := by
  rcases (by omega : h % 4 = 0 ∨ h % 4 = 1 ∨ h % 4 = 2 ∨ h % 4 = 3) with q | q | q | q
  · have q1 : (h : Int) % 4 = ((0 : Nat) : Int) := by omega
    have HT := Lib.hid (turn_p4 h w hh)
    have hr : (h / 4 * 4 + (h % 4 + 0) % 4) = refT h := by unfold refT; omega
    rw [hr] at HT
    clear hr
    have HB := Lib.hid (fun a0 => refBy a0 0 w (by omega))
    have q2 : (4 : Int) - 2 * ((0 : Nat) : Int) = 4 := by omega
    rw [q2] at HB
    generalize refT h = t at *
    go_enter Try.func73, Try.ntmps73
    go_wp2_with (first | (go_at_call 52; refine (HB.out _).mono ?_; rintro e w1 ⟨rfl, rfl⟩) | (go_at_call 74; refine HT.out.mono ?_; rintro e w1 ⟨rfl, rfl⟩))
    go_ret
    exact ⟨rfl, rfl⟩
  · have q1 : (h : Int) % 4 = ((1 : Nat) : Int) := by omega
    have HT := Lib.hid (turn_p2 h w hh)
    have hr : (h / 4 * 4 + (h % 4 + 2) % 4) = refT h := by unfold refT; omega
    rw [hr] at HT
    clear hr
    have HB := Lib.hid (fun a0 => refBy a0 1 w (by omega))
    have q2 : (4 : Int) - 2 * ((1 : Nat) : Int) = 2 := by omega
    rw [q2] at HB
    generalize refT h = t at *
    go_enter Try.func73, Try.ntmps73
    go_wp2_with (first | (go_at_call 52; refine (HB.out _).mono ?_; rintro e w1 ⟨rfl, rfl⟩) | (go_at_call 74; refine HT.out.mono ?_; rintro e w1 ⟨rfl, rfl⟩))
    go_ret
    exact ⟨rfl, rfl⟩
  · have q1 : (h : Int) % 4 = ((2 : Nat) : Int) := by omega
    have HT := Lib.hid (turn_z h w hh)
    have hr : (h / 4 * 4 + (h % 4 + 0) % 4) = refT h := by unfold refT; omega
    rw [hr] at HT
    clear hr
    have HB := Lib.hid (fun a0 => refBy a0 2 w (by omega))
    have q2 : (4 : Int) - 2 * ((2 : Nat) : Int) = 0 := by omega
    rw [q2] at HB
    generalize refT h = t at *
    go_enter Try.func73, Try.ntmps73
    go_wp2_with (first | (go_at_call 52; refine (HB.out _).mono ?_; rintro e w1 ⟨rfl, rfl⟩) | (go_at_call 74; refine HT.out.mono ?_; rintro e w1 ⟨rfl, rfl⟩))
    go_ret
    exact ⟨rfl, rfl⟩
  · have q1 : (h : Int) % 4 = ((3 : Nat) : Int) := by omega
    have HT := Lib.hid (turn_m2 h w hh)
    have hr : (h / 4 * 4 + (h % 4 + 2) % 4) = refT h := by unfold refT; omega
    rw [hr] at HT
    clear hr
    have HB := Lib.hid (fun a0 => refBy a0 3 w (by omega))
    have q2 : (4 : Int) - 2 * ((3 : Nat) : Int) = -2 := by omega
    rw [q2] at HB
    generalize refT h = t at *
    go_enter Try.func73, Try.ntmps73
    go_wp2_with (first | (go_at_call 52; refine (HB.out _).mono ?_; rintro e w1 ⟨rfl, rfl⟩) | (go_at_call 74; refine HT.out.mono ?_; rintro e w1 ⟨rfl, rfl⟩))
    go_ret
    exact ⟨rfl, rfl⟩
set_option maxHeartbeats 2000000 in
theorem to_mir (h bb cb db : Nat) (vs vm : Value) (S : List Int) (L : Int) (w : World) (hh : h < 1000) (hS : Ints w vs S) (hc : h / 4 < S.length) (yb : w.cell? ⟨bb, 0, none⟩ = some (.func (.func 71) #[] #[.pointer (some ⟨cb, 0, none⟩), .pointer (some ⟨db, 0, none⟩)])) (y : w.cell? ⟨cb, 0, none⟩ = some (.func (.func 51) #[] #[])) (q : Arr w db 24 [vs, vm, .int .i64 L]) :
    Calls Try.prog 73 #[.int .i64 (h : Nat), .pointer (some ⟨bb, 0, none⟩)] w fun e w' => e = .returned (.int .i64 (mirT S h : Nat)) ∧ w = w' := by
  have HB := Lib.hid (fun x => mirBy (h / 4) x cb db vs vm S L w hS hc y q)
  have hT : mirT S h = if gi S (h / 4) = 1 then h / 4 * 4 + (h % 4 + 1) % 4 else h / 4 * 4 + (h % 4 + 3) % 4 := rfl
  rw [hT]
  clear hT hS q y
  by_cases e : gi S (h / 4) = 1
  · rw [if_pos e] at HB ⊢
    have HT := Lib.hid (turn_m3 h w hh)
    generalize h / 4 * 4 + (h % 4 + 1) % 4 = t at *
    clear e
    obtain ⟨c, hcq⟩ : ∃ c, c = h / 4 := ⟨_, rfl⟩
    have e4 : (h : Int) / 4 = (c : Int) := by omega
    rw [← hcq] at HB hc
    clear hcq
    go_enter Try.func73, Try.ntmps73
    go_wp2_with (first | (go_at_call 71; refine (HB.out _).mono ?_; rintro e w1 ⟨rfl, rfl⟩) | (go_at_call 74; refine HT.out.mono ?_; rintro e w1 ⟨rfl, rfl⟩))
    go_ret
    exact ⟨rfl, rfl⟩
  · rw [if_neg e] at HB ⊢
    have HT := Lib.hid (turn_code h w hh)
    have hr : turnN h 3 = h / 4 * 4 + (h % 4 + 3) % 4 := rfl
    rw [hr] at HT
    clear hr
    generalize h / 4 * 4 + (h % 4 + 3) % 4 = t at *
    clear e
    obtain ⟨c, hcq⟩ : ∃ c, c = h / 4 := ⟨_, rfl⟩
    have e4 : (h : Int) / 4 = (c : Int) := by omega
    rw [← hcq] at HB hc
    clear hcq
    go_enter Try.func73, Try.ntmps73
    go_wp2_with (first | (go_at_call 71; refine (HB.out _).mono ?_; rintro e w1 ⟨rfl, rfl⟩) | (go_at_call 74; refine HT.out.mono ?_; rintro e w1 ⟨rfl, rfl⟩))
    go_ret
    exact ⟨rfl, rfl⟩
end Go.Proofs.Ytcjaloddgilnpaa

namespace Go.Proofs.Ytcjaloddgilnpaa
open Go.RowKit
set_option linter.unusedVariables false
/-- n integers, told by a function -/
def fnC (n : Nat) (F : Nat → Int) : List Value := (List.range n).map fun i => Value.int .i64 (F i)
theorem fnC_get {n : Nat} {F : Nat → Int} {i : Nat} (hi : i < n) : (fnC n F)[i]? = some (.int .i64 (F i)) := by
  unfold fnC; rw [List.getElem?_map, List.getElem?_range hi]; rfl
theorem fnC_zero (n : Nat) : fnC n (fun _ => 0) = List.replicate n (Value.int .i64 0) := by
  unfold fnC
  rw [List.map_const', List.length_range]
theorem fnC_set {n : Nat} (F : Nat → Int) {i : Nat} (hi : i < n) (v : Int) : (fnC n F).set i (.int .i64 v) = fnC n (fun j => if j = i then v else F j) := by
  apply List.ext_getElem?
  intro j
  rw [List.getElem?_set]
  unfold fnC
  rw [List.length_map, List.length_range, List.getElem?_map, List.getElem?_map]
  by_cases e : i = j
  · subst e; rw [if_pos rfl, if_pos hi, List.getElem?_range hi]; simp
  · rw [if_neg e]
    by_cases hj : j < n
    · rw [List.getElem?_range hj]; simp [Ne.symm e]
    · rw [List.getElem?_eq_none (by simp; omega)]; rfl
theorem fnC_ints {w : World} {g : Nat} {t : TypeId} {n : Nat} {F : Nat → Int} {xs : List Int} (h : Arr w g t (fnC n F)) (hl : xs.length = n) (he : ∀ i, i < n → xs[i]?.getD 0 = F i) : Ints w (.slice (some ⟨g, 0, none⟩) n n) xs := by
  subst hl
  refine Ints.of_arr (t := t) ?_
  have e : xs.map (Value.int .i64) = fnC xs.length F := by
    apply List.ext_getElem?
    intro i
    by_cases hi : i < xs.length
    · rw [fnC_get hi, List.getElem?_map, List.getElem?_eq_getElem hi, ← he i hi, List.getElem?_eq_getElem hi]; rfl
    · unfold fnC
      rw [List.getElem?_eq_none (by simp; omega), List.getElem?_eq_none (by simp; omega)]
  rw [e]; exact h
theorem fnC_ic {w : World} {g : Nat} {t : TypeId} {n : Nat} {F : Nat → Int} {xs : List Int} (h : Arr w g t (fnC n F)) (hl : xs.length = n) (he : ∀ i, i < n → xs[i]?.getD 0 = F i) : Arr w g t (ic xs) := by
  subst hl
  have e : ic xs = fnC xs.length F := by
    unfold ic
    apply List.ext_getElem?
    intro i
    by_cases hi : i < xs.length
    · rw [fnC_get hi, List.getElem?_map, List.getElem?_eq_getElem hi, ← he i hi, List.getElem?_eq_getElem hi]; rfl
    · unfold fnC
      rw [List.getElem?_eq_none (by simp; omega), List.getElem?_eq_none (by simp; omega)]
  rw [e]; exact h
theorem Ints.of_len {w : World} {g : Nat} {t : TypeId} {n : Nat} {xs : List Int} (h : Arr w g t (ic xs)) (hl : xs.length = n) : Ints w (.slice (some ⟨g, 0, none⟩) n n) xs := by subst hl; exact Ints.of_ic h
/-- three new blocks -/
theorem three_new {w : World} {H : Nat} (h : w.heap.size = H) (o1 o2 o3 : Obj) : (((w.alloc o1).alloc o2).alloc o3).heap[H]? = some o1 ∧ (((w.alloc o1).alloc o2).alloc o3).heap[H + 1]? = some o2 ∧ (((w.alloc o1).alloc o2).alloc o3).heap[H + 1 + 1]? = some o3 := by
  subst h
  have e1 := heap_alloc_new w o1
  have e2 := heap_alloc_new (w.alloc o1) o2
  have e3 := heap_alloc_new ((w.alloc o1).alloc o2) o3
  have s1 : (w.alloc o1).heap.size = w.heap.size + 1 := by simp
  have s2 : ((w.alloc o1).alloc o2).heap.size = w.heap.size + 1 + 1 := by simp
  rw [s1] at e2
  rw [s2] at e3
  refine ⟨?_, ?_, e3⟩
  · rw [Below.heap_alloc _ _ _ (by rw [s2]; omega), Below.heap_alloc _ _ _ (by rw [s1]; omega)]; exact e1
  · rw [Below.heap_alloc _ _ _ (by rw [s2]; omega)]; exact e2
theorem three_below {w : World} (o1 o2 o3 : Obj) : Below w.heap.size w (((w.alloc o1).alloc o2).alloc o3) := (((Below.refl _ _).alloc (Nat.le_refl _) _).alloc (by simp) _).alloc (by simp <;> omega) _
theorem revT_div (h : Nat) : revT h / 4 = h / 4 := turn_div h 2
theorem revT_inv (h : Nat) : revT (revT h) = h := by unfold revT turnN; omega
theorem refT_div (h : Nat) : refT h / 4 = h / 4 := by unfold refT; omega
theorem refT_inv (h : Nat) : refT (refT h) = h := by unfold refT; omega
theorem mirI_T (S : List Int) (h : Nat) : mirI S (mirT S h) = h := by
  have e := mirT_div S h
  unfold mirI
  rw [e]
  unfold mirT
  split <;> (unfold turnN; omega)
theorem mirT_I (S : List Int) (h : Nat) : mirT S (mirI S h) = h := by
  have e := mirI_div S h
  unfold mirT
  rw [e]
  unfold mirI
  split <;> (unfold turnN; omega)
theorem info_diag : (Try.prog.info? 24).map (·.size) = some 3 := by kernel_rfl
end Go.Proofs.Ytcjaloddgilnpaa
