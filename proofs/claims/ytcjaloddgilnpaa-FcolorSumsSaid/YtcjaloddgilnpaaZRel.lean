/- Colorings as functions on the half-edges (plain). -/
/- Where all crossings are switched there are as many colorings (plain). -/
/- Relabelled diagrams (plain). -/
import Derived.Test.YtcjaloddgilnpaaZPlv
import Derived.Test.YtcjaloddgilnpaaZLip
namespace Go.Proofs.Ytcjaloddgilnpaa
open Go.RowKit
set_option linter.unusedVariables false

theorem cntV_le2 {e C1 C2 : Nat} {p q : (Nat → Nat) → Bool} (he : 0 < e) (hq : Loc C2 q) (φ : (Nat → Nat) → Nat → Nat) (h1 : ∀ x, (∀ j, j < C1 → x j < e) → p x = true → q (φ x) = true ∧ ∀ j, j < C2 → φ x j < e)
    (h2 : ∀ x y, (∀ j, j < C1 → x j < e) → (∀ j, j < C1 → y j < e) → p x = true → p y = true → (∀ j, j < C2 → φ x j = φ y j) → ∀ j, j < C1 → x j = y j) : cntV e C1 p ≤ cntV e C2 q := by
  unfold cntV
  have hsub : ∀ z ∈ ((List.range (e ^ C1)).filter (fun t => p (dg e t))).map (fun t => enc e (φ (dg e t)) C2), z ∈ (List.range (e ^ C2)).filter (fun t => q (dg e t)) := by
    intro z hz
    obtain ⟨t, ht, rfl⟩ := List.mem_map.1 hz
    obtain ⟨ht1, ht2⟩ := List.mem_filter.1 ht
    obtain ⟨a, b⟩ := h1 (dg e t) (fun j _ => dg_lt he t j) ht2
    refine List.mem_filter.2 ⟨List.mem_range.2 (enc_lt he b), ?_⟩
    rw [hq (dg e (enc e (φ (dg e t)) C2)) (φ (dg e t)) (fun j hj => dg_enc he b hj)]
    exact a
  have hnd : (((List.range (e ^ C1)).filter (fun t => p (dg e t))).map (fun t => enc e (φ (dg e t)) C2)).Nodup := by
    rw [List.Nodup, List.pairwise_map]
    refine ((List.nodup_range (n := e ^ C1)).filter _).imp_of_mem (fun {s t} hs ht hne he' => hne ?_)
    obtain ⟨hs1, hs2⟩ := List.mem_filter.1 hs
    obtain ⟨ht1, ht2⟩ := List.mem_filter.1 ht
    have hs3 := (h1 (dg e s) (fun j _ => dg_lt he s j) hs2).2
    have ht3 := (h1 (dg e t) (fun j _ => dg_lt he t j) ht2).2
    have h3 := h2 (dg e s) (dg e t) (fun j _ => dg_lt he s j) (fun j _ => dg_lt he t j) hs2 ht2 (fun j hj => by
      rw [← dg_enc he hs3 hj, ← dg_enc he ht3 hj, he'])
    have h4 : ∀ c, c ≤ C1 → enc e (dg e s) c = enc e (dg e t) c := by
      intro c
      induction c with
      | zero => intro _; rfl
      | succ c ih => intro hc; rw [enc, enc, ih (by omega), h3 c (by omega)]
    have h5 := h4 C1 (Nat.le_refl _)
    rw [enc_dg, enc_dg, Nat.mod_eq_of_lt (List.mem_range.1 hs1), Nat.mod_eq_of_lt (List.mem_range.1 ht1)] at h5
    exact h5
  have := len_le_of_sub _ _ hnd hsub
  rwa [List.length_map] at this
/-- a coloring of the half-edges -/
def Fox (n : Nat) (α : Nat → Nat) (m : Nat) (x : Nat → Nat) : Prop := (∀ h, h < 4 * n → x (α h) = x h) ∧ ∀ c, c < n → x (4 * c + 1) = x (4 * c + 3) ∧ (m : Int) ∣ 2 * (x (4 * c + 1) : Int) - (x (4 * c) : Int) - (x (4 * c + 2) : Int)
def foxB (n : Nat) (α : Nat → Nat) (m : Nat) (x : Nat → Nat) : Bool := (List.range (4 * n)).all (fun h => decide (x (α h) = x h)) && (List.range n).all fun c => decide (x (4 * c + 1) = x (4 * c + 3)) && decide ((m : Int) ∣ 2 * (x (4 * c + 1) : Int) - (x (4 * c) : Int) - (x (4 * c + 2) : Int))
theorem foxB_iff {n m : Nat} {α x : Nat → Nat} : foxB n α m x = true ↔ Fox n α m x := by
  unfold foxB Fox
  simp only [Bool.and_eq_true, List.all_eq_true, List.mem_range, decide_eq_true_eq]
theorem foxB_loc {n m : Nat} {α : Nat → Nat} (hα : ∀ h, h < 4 * n → α h < 4 * n) : Loc (4 * n) (foxB n α m) := by
  intro x y h
  rw [Bool.eq_iff_iff, foxB_iff, foxB_iff]
  unfold Fox
  constructor
  · rintro ⟨a, b⟩
    refine ⟨fun q hq => by rw [← h _ (hα q hq), ← h q hq]; exact a q hq, fun c hc => ?_⟩
    rw [← h _ (show 4 * c + 1 < 4 * n by omega), ← h _ (show 4 * c + 3 < 4 * n by omega), ← h _ (show 4 * c < 4 * n by omega), ← h _ (show 4 * c + 2 < 4 * n by omega)]
    exact b c hc
  · rintro ⟨a, b⟩
    refine ⟨fun q hq => by rw [h _ (hα q hq), h q hq]; exact a q hq, fun c hc => ?_⟩
    rw [h _ (show 4 * c + 1 < 4 * n by omega), h _ (show 4 * c + 3 < 4 * n by omega), h _ (show 4 * c < 4 * n by omega), h _ (show 4 * c + 2 < 4 * n by omega)]
    exact b c hc
/-- how many there are -/
def nFox (n : Nat) (α : Nat → Nat) (m : Nat) : Nat := cntV m (4 * n) (foxB n α m)
theorem rk_root {l : List Nat} {a b : Nat} (ha : gn l a = a) (h : a < b) : rk l a < rk l b := by
  have h1 : rk l (a + 1) = rk l a + 1 := by rw [rk, if_pos ha]
  have h2 := rk_mono l (show a + 1 ≤ b by omega)
  omega
theorem rk_surj {l : List Nat} : ∀ N a, a < rk l N → ∃ q, q < N ∧ gn l q = q ∧ rk l q = a
  | 0, a, h => by simp [rk] at h
  | N + 1, a, h => by
    rw [rk] at h
    by_cases e : gn l N = N
    · rw [if_pos e] at h
      by_cases w : a = rk l N
      · exact ⟨N, by omega, e, w.symm⟩
      · obtain ⟨q, h1, h2, h3⟩ := rk_surj (l := l) N a (by omega)
        exact ⟨q, by omega, h2, h3⟩
    · rw [if_neg e] at h
      obtain ⟨q, h1, h2, h3⟩ := rk_surj N a h
      exact ⟨q, by omega, h2, h3⟩
section
variable {S M : List Int} {L : Int}
/-- the arcs of a valid diagram -/
theorem arc_facts (k : Ok S M L) : (∀ a b, a < M.length → b < M.length → Conn (Sees M M.length) a b → gn (arcL M) a = gn (arcL M) b) ∧ (∀ a b, a < M.length → b < M.length → gn (arcL M) a = gn (arcL M) b → Conn (Sees M M.length) a b) ∧
    (∀ a, a < rk (labA M M.length M.length) M.length → ∃ h, h < M.length ∧ gn (arcL M) h = a) ∧ (∀ a, a < M.length → gn (arcL M) a < rk (labA M M.length M.length) M.length) := by
  have hm := k.m
  have hR : Rh M M.length := ⟨by omega, fun h hh => k.lt h hh⟩
  have sym : ∀ a b, Sees M M.length a b → Sees M M.length b a := fun a b h => by
    obtain ⟨hb, e | ⟨e1, e2⟩⟩ := h
    · have := k.lt b hb
      exact ⟨by rw [e]; exact this, Or.inl (by rw [e, k.inv b hb])⟩
    · refine ⟨by rw [e2]; unfold opp; omega, Or.inr ⟨by rw [e2]; unfold opp; omega, by rw [e2]; unfold opp; omega⟩⟩
  obtain ⟨lab, hlab⟩ : ∃ lab, lab = labA M M.length M.length := ⟨_, rfl⟩
  have lconn : ∀ c, c < M.length → Conn (Sees M M.length) (gn lab c) c := fun c hc => by rw [hlab]; exact labA_conn hR _ c hc
  have lleast : ∀ c q, q < M.length → Conn (Sees M M.length) q c → gn lab c ≤ q := fun c q hq h => by rw [hlab]; exact labA_least hR hq h
  have ll : ∀ c, c < M.length → gn lab c < M.length := fun c hc => Nat.lt_of_le_of_lt (lleast c c hc (.refl _)) hc
  have leq : ∀ a b, a < M.length → b < M.length → Conn (Sees M M.length) a b → gn lab a = gn lab b := fun a b ha hb h => by
    refine Nat.le_antisymm (lleast a _ (ll b hb) ?_) (lleast b _ (ll a ha) ?_)
    · exact (lconn b hb).trans (Conn.symm sym h)
    · exact (lconn a ha).trans h
  have li : ∀ c, c < M.length → gn lab (gn lab c) = gn lab c := fun c hc => leq _ c (ll c hc) hc (lconn c hc)
  have harc : ∀ h, h < M.length → gn (arcL M) h = rk lab (gn lab h) := fun h hh => by
    unfold arcL
    rw [gn_numA hh, if_pos hh, hlab]
  rw [← hlab]
  refine ⟨fun a b ha hb h => by rw [harc a ha, harc b hb, leq a b ha hb h], fun a b ha hb e => ?_, fun a ha => ?_, fun a ha => ?_⟩
  · rw [harc a ha, harc b hb] at e
    have e2 : gn lab a = gn lab b := by
      rcases Nat.lt_trichotomy (gn lab a) (gn lab b) with q | q | q
      · have := rk_root (li a ha) q; omega
      · exact q
      · have := rk_root (li b hb) q; omega
    exact (Conn.symm sym (lconn a ha)).trans (by rw [e2]; exact lconn b hb)
  · obtain ⟨q, h1, h2, h3⟩ := rk_surj _ a ha
    exact ⟨q, h1, by rw [harc q h1, h2, h3]⟩
  · rw [harc a ha]
    exact rk_root (li a ha) (ll a ha)
theorem fox_conn {n m : Nat} {x : Nat → Nat} (k : Ok S M L) (hx : Fox S.length (mt M) m x) {a b : Nat} (h : Conn (Sees M M.length) a b) : x a = x b := by
  have hm := k.m
  refine h.closed (P := fun c => x a = x c) (fun c d e hc => ?_) rfl
  obtain ⟨hd, e | ⟨e1, e2⟩⟩ := e
  · rw [hc, e, hx.1 d (by omega)]
  · rw [hc, e2]
    have h1 := (hx.2 (d / 4) (by omega)).1
    have h2 : d % 4 = 1 ∨ d % 4 = 3 := by omega
    rcases h2 with q | q
    · have e3 : opp d = 4 * (d / 4) + 3 := by unfold opp; omega
      have e4 : d = 4 * (d / 4) + 1 := by omega
      rw [e3, ← h1]; congr 1; omega
    · have e3 : opp d = 4 * (d / 4) + 1 := by unfold opp; omega
      rw [e3, h1]; congr 1; omega
/-- the colorings of the arcs are those of the half-edges -/
theorem nCol_fox (k : Ok S M L) {m : Nat} (hm : 0 < m) : nCol S M L m (m ^ colN M L) = nFox S.length (mt M) m * m ^ L.toNat := by
  obtain ⟨R, hR⟩ : ∃ R, R = rk (labA M M.length M.length) M.length := ⟨_, rfl⟩
  obtain ⟨f1, f2, f3, f4⟩ := arc_facts k
  rw [← hR] at f3 f4
  have hml := k.m
  have hK : colN M L = R + L.toNat := by unfold colN; rw [hR]
  have e1 : nCol S M L m (m ^ colN M L) = cN (m ^ R * m ^ L.toNat) (fun t => (fun t => colB (arcL M) S.length m (vec m R t)) (t % m ^ R) && (fun _ => true) (t / m ^ R)) := by
    unfold nCol
    rw [hK, Nat.pow_add]
    refine cN_congr (fun t _ => ?_)
    simp only [Bool.and_true]
    have hg : ∀ h, h < M.length → gn (vec m (R + L.toNat) t) (gn (arcL M) h) = gn (vec m R (t % m ^ R)) (gn (arcL M) h) := fun h hh => by
      have := f4 h hh
      rw [gn_vec (by omega), gn_vec this, dg_mod this]
    unfold colB
    rw [Bool.eq_iff_iff, List.all_eq_true, List.all_eq_true]
    constructor
    · intro w c hc
      have hc' := List.mem_range.1 hc
      rw [← hg _ (by omega), ← hg _ (by omega), ← hg _ (by omega)]
      exact w c hc
    · intro w c hc
      have hc' := List.mem_range.1 hc
      rw [hg _ (by omega), hg _ (by omega), hg _ (by omega)]
      exact w c hc
  rw [e1, cN_mul (Nat.pow_pos hm) (m ^ L.toNat) (fun t => colB (arcL M) S.length m (vec m R t)) (fun _ => true), cN_true]
  congr 1
  have e2 : cN (m ^ R) (fun t => colB (arcL M) S.length m (vec m R t)) = cntV m R (fun x => colB (arcL M) S.length m ((List.range R).map x)) := by
    unfold cntV
    rw [cN_filter]; rfl
  rw [e2]
  unfold nFox
  have hgx : ∀ (x : Nat → Nat) a, a < R → gn ((List.range R).map x) a = x a := fun x a ha => by rw [gn_map_range, if_pos ha]
  have sees : ∀ h, h < M.length → gn (arcL M) (mt M h) = gn (arcL M) h := fun h hh => f1 _ _ (k.lt h hh) hh (Conn.one ⟨hh, Or.inl rfl⟩)
  have opps : ∀ c, c < S.length → gn (arcL M) (4 * c + 1) = gn (arcL M) (4 * c + 3) := fun c hc => f1 _ _ (by omega) (by omega) (Conn.one ⟨by omega, Or.inr ⟨by omega, by unfold opp; omega⟩⟩)
  apply Nat.le_antisymm
  · refine cntV_le2 hm (foxB_loc (fun h hh => by have := k.lt h (by omega); omega)) (fun y h => y (gn (arcL M) h)) (fun y hy hp => ⟨foxB_iff.2 ⟨fun h hh => ?_, fun c hc => ⟨?_, ?_⟩⟩, fun h hh => ?_⟩) (fun y z hy hz _ _ he a ha => ?_)
    · show y (gn (arcL M) (mt M h)) = y (gn (arcL M) h)
      rw [sees h (by omega)]
    · show y (gn (arcL M) (4 * c + 1)) = y (gn (arcL M) (4 * c + 3))
      rw [opps c hc]
    · have h1 := (colB_iff (K := R) (fun q hq => f4 q (by omega)) (fun j hj => by rw [hgx y j hj]; exact hy j hj)).1 hp c hc
      rw [hgx y _ (f4 _ (by omega)), hgx y _ (f4 _ (by omega)), hgx y _ (f4 _ (by omega))] at h1
      exact h1
    · exact hy _ (f4 h (by omega))
    · obtain ⟨h, hh, e⟩ := f3 a ha
      have := he h (by omega)
      simp only [e] at this
      exact this
  · obtain ⟨ρ, hρ⟩ : ∃ ρ : Nat → Nat, ∀ a, a < R → ρ a < M.length ∧ gn (arcL M) (ρ a) = a := by
      obtain ⟨g, hg⟩ := choose_list (P := fun a h => h < M.length ∧ gn (arcL M) h = a) (List.range R) (fun a ha => f3 a (List.mem_range.1 ha))
      exact ⟨g, fun a ha => hg a (List.mem_range.2 ha)⟩
    have hloc : Loc R (fun x => colB (arcL M) S.length m ((List.range R).map x)) := by
      intro x y h
      have : (List.range R).map x = (List.range R).map y := List.map_congr_left (fun j hj => h j (List.mem_range.1 hj))
      simp only [this]
    have hval : ∀ x : Nat → Nat, Fox S.length (mt M) m x → ∀ h, h < M.length → x (ρ (gn (arcL M) h)) = x h := fun x hx h hh => by
      have h1 := hρ _ (f4 h hh)
      exact fox_conn (n := S.length) k hx (f2 _ _ h1.1 hh h1.2)
    refine cntV_le2 hm hloc (fun x a => x (ρ a)) (fun x hx hp => ⟨?_, fun a ha => hx _ (by have := (hρ a ha).1; omega)⟩) (fun x y hx hy hpx hpy he h hh => ?_)
    · have hF := foxB_iff.1 hp
      refine (colB_iff (K := R) (fun q hq => f4 q (by omega)) (fun j hj => by rw [hgx _ j hj]; exact hx _ (by have := (hρ j hj).1; omega))).2 (fun c hc => ?_)
      rw [hgx _ _ (f4 _ (by omega)), hgx _ _ (f4 _ (by omega)), hgx _ _ (f4 _ (by omega))]
      simp only [hval x hF _ (show 4 * c + 1 < M.length by omega), hval x hF _ (show 4 * c < M.length by omega), hval x hF _ (show 4 * c + 2 < M.length by omega)]
      exact (hF.2 c hc).2
    · have h1 := he (gn (arcL M) h) (f4 h (by omega))
      simp only [hval x (foxB_iff.1 hpx) h (by omega), hval y (foxB_iff.1 hpy) h (by omega)] at h1
      exact h1
end
end Go.Proofs.Ytcjaloddgilnpaa

namespace Go.Proofs.Ytcjaloddgilnpaa
set_option linter.unusedVariables false

section
variable {n : Nat} {α fc lab : Nat → Nat}
/-- the faces in two colors -/
theorem Plnr.board (p : Plnr n α fc lab) : ∃ s : Nat → Int, (∀ f, s f = 1 ∨ s f = -1) ∧ ∀ h, h < 4 * n → s (fc (α h)) = - s (fc h) := by
  obtain ⟨r, hr⟩ := p.pot 2 (fun _ => 1) (fun _ _ => ⟨1, by omega⟩) (fun _ _ => ⟨2, by omega⟩)
  refine ⟨fun f => if r f % 2 = 0 then 1 else -1, fun f => ?_, fun h hh => ?_⟩
  · by_cases w : r f % 2 = 0
    · exact Or.inl (if_pos w)
    · exact Or.inr (if_neg w)
  · obtain ⟨q, hq⟩ := hr h hh
    show (if r (fc (α h)) % 2 = 0 then (1 : Int) else -1) = -(if r (fc h) % 2 = 0 then (1 : Int) else -1)
    by_cases w : r (fc h) % 2 = 0
    · rw [if_pos w, if_neg (by omega)]
    · rw [if_neg w, if_pos (by omega)]; rfl
theorem Plnr.around (p : Plnr n α fc lab) {c : Nat} (hc : c < n) : fc (α (4 * c)) = fc (4 * c + 3) ∧ fc (α (4 * c + 1)) = fc (4 * c) ∧ fc (α (4 * c + 2)) = fc (4 * c + 1) ∧ fc (α (4 * c + 3)) = fc (4 * c + 2) := by
  have hnext : ∀ s, s < 4 → fc (α (4 * c + (s + 1) % 4)) = fc (4 * c + s) := fun s hs => by
    have h1 := p.next (h := 4 * c + s) (by omega)
    have h2 : turnN (4 * c + s) 1 = 4 * c + (s + 1) % 4 := by unfold turnN; omega
    rw [h2] at h1
    exact h1
  have n0 := hnext 0 (by omega)
  have n1 := hnext 1 (by omega)
  have n2 := hnext 2 (by omega)
  have n3 := hnext 3 (by omega)
  simp only [Nat.reduceAdd, Nat.reduceMod, Nat.add_zero] at n0 n1 n2 n3
  exact ⟨n3, n0, n1, n2⟩
/-- what both kinds of colorings have -/
def Alt (n : Nat) (α : Nat → Nat) (m : Nat) (x : Nat → Nat) : Prop := (∀ h, h < 4 * n → x (α h) = x h) ∧ ∀ c, c < n → (m : Int) ∣ (x (4 * c) : Int) - (x (4 * c + 1) : Int) + (x (4 * c + 2) : Int) - (x (4 * c + 3) : Int)
/-- colors of the faces -/
theorem Plnr.dehn (p : Plnr n α fc lab) {m : Nat} {s : Nat → Int} (hs1 : ∀ f, s f = 1 ∨ s f = -1) (hs2 : ∀ h, h < 4 * n → s (fc (α h)) = - s (fc h)) {x : Nat → Nat} (hx : Alt n α m x) :
    ∃ r : Nat → Int, (∀ h, h < 4 * n → (m : Int) ∣ (x h : Int) - s (fc h) * (r (fc h) - r (fc (α h)))) ∧ ∀ c, c < n → r (fc (4 * lab c)) = 0 := by
  have sq : ∀ f, s f * s f = 1 := fun f => by rcases hs1 f with e | e <;> rw [e] <;> rfl
  obtain ⟨r, hr⟩ := p.pot (m : Int) (fun h => s (fc h) * (x h : Int)) (fun h hh => by
    show (m : Int) ∣ s (fc h) * (x h : Int) + s (fc (α h)) * (x (α h) : Int)
    rw [hs2 h hh, hx.1 h hh, Int.neg_mul]
    exact ⟨0, by omega⟩) (fun c hc => by
    show (m : Int) ∣ s (fc (4 * c)) * (x (4 * c) : Int) + s (fc (4 * c + 1)) * (x (4 * c + 1) : Int) + s (fc (4 * c + 2)) * (x (4 * c + 2) : Int) + s (fc (4 * c + 3)) * (x (4 * c + 3) : Int)
    obtain ⟨a0, a1, a2, a3⟩ := p.around hc
    have b1 := hs2 (4 * c + 1) (by omega)
    have b2 := hs2 (4 * c + 2) (by omega)
    have b3 := hs2 (4 * c + 3) (by omega)
    rw [a1] at b1
    rw [a2] at b2
    rw [a3] at b3
    have c1 : s (fc (4 * c + 1)) = - s (fc (4 * c)) := by omega
    have c2 : s (fc (4 * c + 2)) = s (fc (4 * c)) := by omega
    have c3 : s (fc (4 * c + 3)) = - s (fc (4 * c)) := by omega
    rw [c1, c2, c3, Int.neg_mul, Int.neg_mul]
    obtain ⟨q, hq⟩ := hx.2 c hc
    refine ⟨s (fc (4 * c)) * q, ?_⟩
    rw [Int.mul_left_comm, ← hq, Int.mul_sub, Int.mul_add, Int.mul_sub]
    omega)
  refine ⟨fun f => r f - r (fc (4 * lab (f / 4))), fun h hh => ?_, fun c hc => ?_⟩
  · have hl : lab (fc (α h) / 4) = lab (fc h / 4) := by rw [p.fb _ (p.k.lt h hh), p.fb h hh, p.le h hh]
    show (m : Int) ∣ (x h : Int) - s (fc h) * (r (fc h) - r (fc (4 * lab (fc h / 4))) - (r (fc (α h)) - r (fc (4 * lab (fc (α h) / 4)))))
    rw [hl, show r (fc h) - r (fc (4 * lab (fc h / 4))) - (r (fc (α h)) - r (fc (4 * lab (fc h / 4)))) = r (fc h) - r (fc (α h)) by omega]
    obtain ⟨q, hq⟩ := hr h hh
    refine ⟨s (fc h) * q, ?_⟩
    have e1 : s (fc h) * (s (fc h) * (x h : Int)) = (x h : Int) := by rw [← Int.mul_assoc, sq, Int.one_mul]
    rw [Int.mul_left_comm, ← hq]
    show (x h : Int) - s (fc h) * (r (fc h) - r (fc (α h))) = s (fc h) * (s (fc h) * (x h : Int) - (r (fc h) - r (fc (α h))))
    rw [Int.mul_sub (s (fc h)) (s (fc h) * (x h : Int)), e1]
  · show r (fc (4 * lab c)) - r (fc (4 * lab (fc (4 * lab c) / 4))) = 0
    have h1 := p.fb (4 * lab c) (by have := p.ll c hc; omega)
    have h2 : 4 * lab c / 4 = lab c := by omega
    rw [h2, p.li c hc] at h1
    rw [h1]; omega
/-- a function of the faces that is alike over each edge and 0 at the first face of each component is 0 -/
theorem Plnr.spread (p : Plnr n α fc lab) (m : Int) (e : Nat → Int) (he : ∀ h, h < 4 * n → m ∣ e (fc h) - e (fc (α h))) (h0 : ∀ c, c < n → m ∣ e (fc (4 * lab c))) : ∀ h, h < 4 * n → m ∣ e (fc h) := by
  have step : ∀ h, h < 4 * n → (m ∣ e (fc (turnN h 1)) ↔ m ∣ e (fc h)) := fun h hh => by
    have h1 := he (turnN h 1) (turn_lt hh)
    rw [p.next hh] at h1
    constructor
    · intro w
      have := Int.dvd_sub w h1
      rwa [show ∀ a b : Int, a - (a - b) = b from fun a b => by omega] at this
    · intro w
      have := Int.dvd_add h1 w
      rwa [Int.sub_add_cancel] at this
  have same : ∀ a b, a < 4 * n → b < 4 * n → a / 4 = b / 4 → m ∣ e (fc a) → m ∣ e (fc b) := by
    intro a b ha hb hab h
    have it : ∀ j, m ∣ e (fc (turnN a j)) := by
      intro j
      induction j with
      | zero => rw [show turnN a 0 = a by unfold turnN; omega]; exact h
      | succ j ih =>
        have e2 : turnN a (j + 1) = turnN (turnN a j) 1 := by unfold turnN; omega
        rw [e2]
        exact (step _ (turn_lt ha)).2 ih
    have h1 := it (b % 4 + 4 - a % 4)
    have h2 : turnN a (b % 4 + 4 - a % 4) = b := by unfold turnN; omega
    rwa [h2] at h1
  intro h hh
  have hc : h / 4 < n := by omega
  have hP := p.lc (fun c => ∀ q, q < 4 * n → q / 4 = c → m ∣ e (fc q)) (fun q hq => by
    constructor
    · intro w z hz hzc
      refine same (α q) z (p.k.lt q hq) hz hzc.symm ?_
      have h1 := w q hq rfl
      have := Int.dvd_sub h1 (he q hq)
      rwa [show ∀ a b : Int, a - (a - b) = b from fun a b => by omega] at this
    · intro w z hz hzc
      refine same q z hq hz hzc.symm ?_
      have h1 := w (α q) (p.k.lt q hq) rfl
      have := Int.dvd_add (he q hq) h1
      rwa [Int.sub_add_cancel] at this) (lab (h / 4)) (h / 4) (p.ll _ hc) hc (p.li _ hc)
  refine hP.1 (fun q hq hqc => ?_) h hh rfl
  exact same (4 * lab (h / 4)) q (by have := p.ll _ hc; omega) hq (by omega) (h0 _ hc)
/-- the turned coloring -/
def swx (m : Nat) (α fc : Nat → Nat) (r : Nat → Int) (h : Nat) : Nat := ((r (fc h) + r (fc (α h))) % (m : Int)).toNat
theorem swx_mod {m : Nat} (hm : 0 < m) (α fc : Nat → Nat) (r : Nat → Int) (h : Nat) : (m : Int) ∣ (swx m α fc r h : Int) - (r (fc h) + r (fc (α h))) ∧ swx m α fc r h < m := by
  unfold swx
  have h0 := Int.emod_nonneg (r (fc h) + r (fc (α h))) (show (m : Int) ≠ 0 by omega)
  have h1 := Int.emod_lt_of_pos (r (fc h) + r (fc (α h))) (show (0 : Int) < (m : Int) by omega)
  rw [Int.toNat_of_nonneg h0]
  refine ⟨?_, by omega⟩
  rw [Int.emod_def]
  exact ⟨-((r (fc h) + r (fc (α h))) / (m : Int)), by rw [Int.mul_neg]; omega⟩
theorem swx_inj (p : Plnr n α fc lab) {m : Nat} (hm : 0 < m) {s : Nat → Int} (hs1 : ∀ f, s f = 1 ∨ s f = -1) (hs2 : ∀ h, h < 4 * n → s (fc (α h)) = - s (fc h)) {x y : Nat → Nat} {r q : Nat → Int} (hxl : ∀ h, h < 4 * n → x h < m) (hyl : ∀ h, h < 4 * n → y h < m)
    (hr1 : ∀ h, h < 4 * n → (m : Int) ∣ (x h : Int) - s (fc h) * (r (fc h) - r (fc (α h)))) (hr2 : ∀ c, c < n → r (fc (4 * lab c)) = 0) (hq1 : ∀ h, h < 4 * n → (m : Int) ∣ (y h : Int) - s (fc h) * (q (fc h) - q (fc (α h)))) (hq2 : ∀ c, c < n → q (fc (4 * lab c)) = 0)
    (he : ∀ h, h < 4 * n → swx m α fc r h = swx m α fc q h) : ∀ h, h < 4 * n → x h = y h := by
  have sq : ∀ f, s f * s f = 1 := fun f => by rcases hs1 f with e | e <;> rw [e] <;> rfl
  have hz := p.spread (m : Int) (fun f => s f * (r f - q f)) (fun h hh => by
    show (m : Int) ∣ s (fc h) * (r (fc h) - q (fc h)) - s (fc (α h)) * (r (fc (α h)) - q (fc (α h)))
    rw [hs2 h hh, Int.neg_mul, Int.sub_neg, ← Int.mul_add]
    refine Int.dvd_trans ?_ (Int.dvd_mul_left _ _)
    obtain ⟨a, ha⟩ := (swx_mod hm α fc r h).1
    obtain ⟨b, hb⟩ := (swx_mod hm α fc q h).1
    rw [he h hh] at ha
    exact ⟨b - a, by rw [Int.mul_sub]; omega⟩) (fun c hc => by
    show (m : Int) ∣ s (fc (4 * lab c)) * (r (fc (4 * lab c)) - q (fc (4 * lab c)))
    rw [hr2 c hc, hq2 c hc]
    exact ⟨0, by simp⟩)
  intro h hh
  have z1 := hz h hh
  have z2 := hz (α h) (p.k.lt h hh)
  have e1 : (m : Int) ∣ r (fc h) - q (fc h) := by
    have := Int.dvd_trans z1 (Int.dvd_mul_left (s (fc h)) _)
    show (m : Int) ∣ r (fc h) - q (fc h)
    have e2 : s (fc h) * (s (fc h) * (r (fc h) - q (fc h))) = r (fc h) - q (fc h) := by rw [← Int.mul_assoc, sq, Int.one_mul]
    rw [e2] at this
    exact this
  have e2 : (m : Int) ∣ r (fc (α h)) - q (fc (α h)) := by
    have := Int.dvd_trans z2 (Int.dvd_mul_left (s (fc (α h))) _)
    have e2 : s (fc (α h)) * (s (fc (α h)) * (r (fc (α h)) - q (fc (α h)))) = r (fc (α h)) - q (fc (α h)) := by rw [← Int.mul_assoc, sq, Int.one_mul]
    rw [e2] at this
    exact this
  have e3 : (m : Int) ∣ s (fc h) * (r (fc h) - r (fc (α h))) - s (fc h) * (q (fc h) - q (fc (α h))) := by
    rw [← Int.mul_sub]
    refine Int.dvd_trans ?_ (Int.dvd_mul_left _ _)
    have := Int.dvd_sub e1 e2
    rwa [show r (fc h) - q (fc h) - (r (fc (α h)) - q (fc (α h))) = r (fc h) - r (fc (α h)) - (q (fc h) - q (fc (α h))) by omega] at this
  have e4 : (m : Int) ∣ (x h : Int) - (y h : Int) := by
    have := Int.dvd_add (Int.dvd_sub (hr1 h hh) (hq1 h hh)) e3
    rwa [show (x h : Int) - s (fc h) * (r (fc h) - r (fc (α h))) - ((y h : Int) - s (fc h) * (q (fc h) - q (fc (α h)))) + (s (fc h) * (r (fc h) - r (fc (α h))) - s (fc h) * (q (fc h) - q (fc (α h)))) = (x h : Int) - (y h : Int) by omega] at this
  have b1 := hxl h hh
  have b2 := hyl h hh
  have := mod_small e4 (by omega)
  omega
/-- colorings with the other strands above -/
def FoxU (n : Nat) (α : Nat → Nat) (m : Nat) (x : Nat → Nat) : Prop := (∀ h, h < 4 * n → x (α h) = x h) ∧ ∀ c, c < n → x (4 * c) = x (4 * c + 2) ∧ (m : Int) ∣ 2 * (x (4 * c) : Int) - (x (4 * c + 1) : Int) - (x (4 * c + 3) : Int)
def foxUB (n : Nat) (α : Nat → Nat) (m : Nat) (x : Nat → Nat) : Bool := (List.range (4 * n)).all (fun h => decide (x (α h) = x h)) && (List.range n).all fun c => decide (x (4 * c) = x (4 * c + 2)) && decide ((m : Int) ∣ 2 * (x (4 * c) : Int) - (x (4 * c + 1) : Int) - (x (4 * c + 3) : Int))
theorem foxUB_iff {m : Nat} {x : Nat → Nat} : foxUB n α m x = true ↔ FoxU n α m x := by
  unfold foxUB FoxU
  simp only [Bool.and_eq_true, List.all_eq_true, List.mem_range, decide_eq_true_eq]
theorem foxUB_loc {m : Nat} (hα : ∀ h, h < 4 * n → α h < 4 * n) : Loc (4 * n) (foxUB n α m) := by
  intro x y h
  rw [Bool.eq_iff_iff, foxUB_iff, foxUB_iff]
  unfold FoxU
  constructor
  · rintro ⟨a, b⟩
    refine ⟨fun q hq => by rw [← h _ (hα q hq), ← h q hq]; exact a q hq, fun c hc => ?_⟩
    rw [← h _ (show 4 * c + 1 < 4 * n by omega), ← h _ (show 4 * c + 3 < 4 * n by omega), ← h _ (show 4 * c < 4 * n by omega), ← h _ (show 4 * c + 2 < 4 * n by omega)]
    exact b c hc
  · rintro ⟨a, b⟩
    refine ⟨fun q hq => by rw [h _ (hα q hq), h q hq]; exact a q hq, fun c hc => ?_⟩
    rw [h _ (show 4 * c + 1 < 4 * n by omega), h _ (show 4 * c + 3 < 4 * n by omega), h _ (show 4 * c < 4 * n by omega), h _ (show 4 * c + 2 < 4 * n by omega)]
    exact b c hc
theorem Fox.alt {m : Nat} {x : Nat → Nat} (h : Fox n α m x) : Alt n α m x := ⟨h.1, fun c hc => by
  obtain ⟨a, b⟩ := h.2 c hc
  obtain ⟨q, hq⟩ := b
  exact ⟨-q, by rw [Int.mul_neg]; omega⟩⟩
theorem FoxU.alt {m : Nat} {x : Nat → Nat} (h : FoxU n α m x) : Alt n α m x := ⟨h.1, fun c hc => by
  obtain ⟨a, b⟩ := h.2 c hc
  obtain ⟨q, hq⟩ := b
  exact ⟨q, by omega⟩⟩
/-- AS MANY COLORINGS -/
theorem Plnr.switch (p : Plnr n α fc lab) {m : Nat} (hm : 0 < m) : nFox n α m = cntV m (4 * n) (foxUB n α m) := by
  obtain ⟨s, hs1, hs2⟩ := p.board
  have sq : ∀ f, s f * s f = 1 := fun f => by rcases hs1 f with e | e <;> rw [e] <;> rfl
  have hR : ∀ x : Nat → Nat, ∃ r : Nat → Int, Alt n α m x → (∀ h, h < 4 * n → (m : Int) ∣ (x h : Int) - s (fc h) * (r (fc h) - r (fc (α h)))) ∧ ∀ c, c < n → r (fc (4 * lab c)) = 0 := fun x => by
    by_cases q : Alt n α m x
    · obtain ⟨r, h⟩ := p.dehn hs1 hs2 q
      exact ⟨r, fun _ => h⟩
    · exact ⟨fun _ => 0, fun w => absurd w q⟩
  obtain ⟨R, hRR⟩ : ∃ R : (Nat → Nat) → Nat → Int, ∀ x, Alt n α m x → (∀ h, h < 4 * n → (m : Int) ∣ (x h : Int) - s (fc h) * (R x (fc h) - R x (fc (α h)))) ∧ ∀ c, c < n → R x (fc (4 * lab c)) = 0 := ⟨fun x => (hR x).choose, fun x => (hR x).choose_spec⟩
  have hsym : ∀ x h, h < 4 * n → swx m α fc (R x) (α h) = swx m α fc (R x) h := fun x h hh => by
    unfold swx
    rw [p.k.inv h hh, Int.add_comm]
  -- the colors around a crossing
  have hcr : ∀ x, Alt n α m x → ∀ c, c < n → ∃ f0 f1 f2 f3 σ : Int, σ * σ = 1 ∧ (m : Int) ∣ (x (4 * c) : Int) - σ * (f0 - f3) ∧ (m : Int) ∣ (x (4 * c + 1) : Int) + σ * (f1 - f0) ∧ (m : Int) ∣ (x (4 * c + 2) : Int) - σ * (f2 - f1) ∧ (m : Int) ∣ (x (4 * c + 3) : Int) + σ * (f3 - f2) ∧
      (m : Int) ∣ (swx m α fc (R x) (4 * c) : Int) - (f0 + f3) ∧ (m : Int) ∣ (swx m α fc (R x) (4 * c + 1) : Int) - (f1 + f0) ∧ (m : Int) ∣ (swx m α fc (R x) (4 * c + 2) : Int) - (f2 + f1) ∧ (m : Int) ∣ (swx m α fc (R x) (4 * c + 3) : Int) - (f3 + f2) := fun x hx c hc => by
    obtain ⟨a0, a1, a2, a3⟩ := p.around hc
    have b1 := hs2 (4 * c + 1) (by omega)
    have b2 := hs2 (4 * c + 2) (by omega)
    have b3 := hs2 (4 * c + 3) (by omega)
    rw [a1] at b1
    rw [a2] at b2
    rw [a3] at b3
    have c1 : s (fc (4 * c + 1)) = - s (fc (4 * c)) := by omega
    have c2 : s (fc (4 * c + 2)) = s (fc (4 * c)) := by omega
    have c3 : s (fc (4 * c + 3)) = - s (fc (4 * c)) := by omega
    have d0 := (hRR x hx).1 (4 * c) (by omega)
    have d1 := (hRR x hx).1 (4 * c + 1) (by omega)
    have d2 := (hRR x hx).1 (4 * c + 2) (by omega)
    have d3 := (hRR x hx).1 (4 * c + 3) (by omega)
    have g0 := (swx_mod hm α fc (R x) (4 * c)).1
    have g1 := (swx_mod hm α fc (R x) (4 * c + 1)).1
    have g2 := (swx_mod hm α fc (R x) (4 * c + 2)).1
    have g3 := (swx_mod hm α fc (R x) (4 * c + 3)).1
    rw [a0] at d0 g0
    rw [a1, c1, Int.neg_mul, Int.sub_neg] at d1
    rw [a1] at g1
    rw [a2, c2] at d2
    rw [a2] at g2
    rw [a3, c3, Int.neg_mul, Int.sub_neg] at d3
    rw [a3] at g3
    exact ⟨_, _, _, _, s (fc (4 * c)), sq _, d0, d1, d2, d3, g0, g1, g2, g3⟩
  have cancel : ∀ (σ a b u v : Int), σ * σ = 1 → (m : Int) ∣ u + σ * a → (m : Int) ∣ v + σ * b → u = v → (m : Int) ∣ a - b := fun σ a b u v h1 h2 h3 h4 => by
    have h5 : (m : Int) ∣ σ * (a - b) := by
      have := Int.dvd_sub h2 h3
      rwa [h4, show v + σ * a - (v + σ * b) = σ * (a - b) by rw [Int.mul_sub]; omega] at this
    have h6 := Int.dvd_trans h5 (Int.dvd_mul_left σ _)
    rwa [← Int.mul_assoc, h1, Int.one_mul] at h6
  have alike : ∀ h1 h2 : Nat, h1 < m → h2 < m → (m : Int) ∣ (h1 : Int) - (h2 : Int) → h1 = h2 := fun h1 h2 a b c => by
    have := mod_small c (by omega)
    omega
  unfold nFox
  apply Nat.le_antisymm
  · refine cntV_le2 hm (foxUB_loc p.k.lt) (fun x => swx m α fc (R x)) (fun x hx hp => ⟨foxUB_iff.2 ⟨hsym x, fun c hc => ?_⟩, fun h hh => (swx_mod hm α fc (R x) h).2⟩) (fun x y hx hy hpx hpy he => ?_)
    · have hF := foxB_iff.1 hp
      obtain ⟨f0, f1, f2, f3, σ, q, d0, d1, d2, d3, g0, g1, g2, g3⟩ := hcr x hF.alt c hc
      have hk := cancel σ (f1 - f0) (f3 - f2) _ _ q d1 d3 (by rw [(hF.2 c hc).1])
      obtain ⟨k, hk⟩ := hk
      obtain ⟨t0, g0⟩ := g0
      obtain ⟨t1, g1⟩ := g1
      obtain ⟨t2, g2⟩ := g2
      obtain ⟨t3, g3⟩ := g3
      have e1 : (m : Int) ∣ (swx m α fc (R x) (4 * c) : Int) - (swx m α fc (R x) (4 * c + 2) : Int) := ⟨t0 - t2 - k, by rw [Int.mul_sub, Int.mul_sub]; omega⟩
      exact ⟨alike _ _ (swx_mod hm α fc (R x) _).2 (swx_mod hm α fc (R x) _).2 e1, ⟨2 * t0 - t1 - t3 - k, by rw [Int.mul_sub, Int.mul_sub, Int.mul_sub, Int.mul_left_comm]; omega⟩⟩
    · have h1 := hRR x (foxB_iff.1 hpx).alt
      have h2 := hRR y (foxB_iff.1 hpy).alt
      exact swx_inj p hm hs1 hs2 hx hy h1.1 h1.2 h2.1 h2.2 he
  · refine cntV_le2 hm (foxB_loc p.k.lt) (fun x => swx m α fc (R x)) (fun x hx hp => ⟨foxB_iff.2 ⟨hsym x, fun c hc => ?_⟩, fun h hh => (swx_mod hm α fc (R x) h).2⟩) (fun x y hx hy hpx hpy he => ?_)
    · have hF := foxUB_iff.1 hp
      obtain ⟨f0, f1, f2, f3, σ, q, d0, d1, d2, d3, g0, g1, g2, g3⟩ := hcr x hF.alt c hc
      have hk := cancel σ (-(f0 - f3)) (-(f2 - f1)) _ _ q (by rw [Int.mul_neg]; exact d0) (by rw [Int.mul_neg]; exact d2) (by rw [(hF.2 c hc).1])
      obtain ⟨k, hk⟩ := hk
      obtain ⟨t0, g0⟩ := g0
      obtain ⟨t1, g1⟩ := g1
      obtain ⟨t2, g2⟩ := g2
      obtain ⟨t3, g3⟩ := g3
      have e1 : (m : Int) ∣ (swx m α fc (R x) (4 * c + 1) : Int) - (swx m α fc (R x) (4 * c + 3) : Int) := ⟨t1 - t3 - k, by rw [Int.mul_sub, Int.mul_sub]; omega⟩
      exact ⟨alike _ _ (swx_mod hm α fc (R x) _).2 (swx_mod hm α fc (R x) _).2 e1, ⟨2 * t1 - t0 - t2 - k, by rw [Int.mul_sub, Int.mul_sub, Int.mul_sub, Int.mul_left_comm]; omega⟩⟩
    · have h1 := hRR x (foxUB_iff.1 hpx).alt
      have h2 := hRR y (foxUB_iff.1 hpy).alt
      exact swx_inj p hm hs1 hs2 hx hy h1.1 h1.2 h2.1 h2.2 he
end
end Go.Proofs.Ytcjaloddgilnpaa

namespace Go.Proofs.Ytcjaloddgilnpaa
open Go.RowKit
set_option linter.unusedVariables false

theorem heads_le {N : Nat} {f g : Nat → Nat} {P : Nat → Bool} (hf : PermF N f) (hg : PermF N g) (σ : Nat → Nat) (hl : ∀ h, h < N → σ h < N) (hr : ∀ a b, a < N → b < N → Rl g (σ a) (σ b) → Rl f a b) (hP : ∀ h, h < N → P (g h) = P h) (hs : ∀ h, h < N → P (σ h) = P h) :
    (heads f N).countP P ≤ (heads g N).countP P := by
  have hPi : ∀ a b, a < N → Rl g a b → P b = P a := by
    rintro a b ha ⟨k, rfl⟩
    induction k with
    | zero => rfl
    | succ k ih => exact (hP _ (hg.itr_lt ha k)).trans ih
  obtain ⟨ρ, hρ⟩ := choose_list (P := fun h j => j ∈ heads g N ∧ Rl g j (σ h)) (List.range N) (fun h hh => exists_head hg (σ h) (hl h (List.mem_range.1 hh)))
  rw [List.countP_eq_length_filter, List.countP_eq_length_filter]
  have hnd : (((heads f N).filter P).map ρ).Nodup := by
    refine nodup_map (heads_nodup.filter _) ?_
    intro i hi j hj e
    obtain ⟨i1, _⟩ := List.mem_filter.1 hi
    obtain ⟨j1, _⟩ := List.mem_filter.1 hj
    have hi' := ((mem_heads hf).1 i1).1
    have hj' := ((mem_heads hf).1 j1).1
    obtain ⟨a1, a2⟩ := hρ i (List.mem_range.2 hi')
    obtain ⟨b1, b2⟩ := hρ j (List.mem_range.2 hj')
    rw [← e] at b2
    exact heads_inj hf i1 j1 (hr i j hi' hj' ((hg.symm ((mem_heads hg).1 a1).1 a2).trans b2))
  have := len_le_of_sub _ ((heads g N).filter P) hnd (fun x hx => by
    obtain ⟨i, hi, rfl⟩ := List.mem_map.1 hx
    obtain ⟨i1, i2⟩ := List.mem_filter.1 hi
    have hi' := ((mem_heads hf).1 i1).1
    obtain ⟨a1, a2⟩ := hρ i (List.mem_range.2 hi')
    refine List.mem_filter.2 ⟨a1, ?_⟩
    have h1 := hPi _ _ ((mem_heads hg).1 a1).1 a2
    rw [← h1, hs i hi', i2])
  rwa [List.length_map] at this

/-- M' is M with each half-edge h called τ h -/
structure Rlb (n : Nat) (M M' : List Int) (τ ti : Nat → Nat) : Prop where
  m : M.length = 4 * n
  m' : M'.length = 4 * n
  lt : ∀ h, h < 4 * n → mt M h < 4 * n
  inv : ∀ h, h < 4 * n → mt M (mt M h) = h
  t : ∀ h, τ h / 4 = h / 4
  t2 : ∀ h, ti h / 4 = h / 4
  tl : ∀ h, ti (τ h) = h
  tr : ∀ h, τ (ti h) = h
  mm : ∀ h, h < 4 * n → mt M' (τ h) = τ (mt M h)
  tt : (∀ h, τ (turnN h 3) = turnN (τ h) 3) ∨ ∀ h, τ (turnN h 3) = turnN (τ h) 1
section
variable {n : Nat} {M M' : List Int} {τ ti : Nat → Nat}
theorem Rlb.tlt (r : Rlb n M M' τ ti) {h : Nat} (hh : h < 4 * n) : τ h < 4 * n := by have := r.t h; omega
theorem Rlb.tilt (r : Rlb n M M' τ ti) {h : Nat} (hh : h < 4 * n) : ti h < 4 * n := by have := r.t2 h; omega
theorem Rlb.mt' (r : Rlb n M M' τ ti) {h : Nat} (hh : h < 4 * n) : mt M' h = τ (mt M (ti h)) := by
  have h1 := r.mm (ti h) (r.tilt hh)
  rwa [r.tr h] at h1
theorem Rlb.symm (r : Rlb n M M' τ ti) : Rlb n M' M ti τ := by
  refine ⟨r.m', r.m, fun h hh => ?_, fun h hh => ?_, r.t2, r.t, r.tr, r.tl, fun h hh => ?_, ?_⟩
  · rw [r.mt' hh]; exact r.tlt (r.lt _ (r.tilt hh))
  · rw [r.mt' hh, r.mm _ (r.lt _ (r.tilt hh)), r.inv _ (r.tilt hh), r.tr]
  · rw [r.mt' hh, r.tl]
  · rcases r.tt with e | e
    · exact Or.inl fun h => by rw [← r.tl (turnN (ti h) 3), e, r.tr]
    · refine Or.inr fun h => ?_
      have h1 := e (turnN (ti h) 1)
      have h2 : turnN (turnN (ti h) 1) 3 = ti h := by unfold turnN; omega
      rw [h2, r.tr] at h1
      have h3 : turnN h 3 = τ (turnN (ti h) 1) := by
        have h4 : turnN (turnN (τ (turnN (ti h) 1)) 1) 3 = τ (turnN (ti h) 1) := by unfold turnN; omega
        rw [← h4, ← h1]
      rw [h3, r.tl]
theorem Rlb.perm (r : Rlb n M M' τ ti) : PermF (4 * n) (phi M) := by
  have hl : ∀ h, h < 4 * n → phi M h < 4 * n := fun h hh => turn_lt (r.lt h hh)
  have hj : ∀ a b, a < 4 * n → b < 4 * n → phi M a = phi M b → a = b := by
    intro a b ha hb e
    have e1 : mt M a = mt M b := by
      unfold phi turnN at e
      omega
    rw [← r.inv a ha, e1, r.inv b hb]
  constructor <;> first | exact hl | exact hj
theorem Rlb.faces_le (r : Rlb n M M' τ ti) (q : Nat → Bool) (hq : ∀ h, h < 4 * n → q (mt M h / 4) = q (h / 4)) :
    (heads (phi M) (4 * n)).countP (fun h => q (h / 4)) ≤ (heads (phi M') (4 * n)).countP (fun h => q (h / 4)) := by
  have hf := r.perm
  have hg := r.symm.perm
  have hP : ∀ h, h < 4 * n → q (phi M' h / 4) = q (h / 4) := fun h hh => by
    unfold phi
    rw [turn_div, r.mt' hh, r.t, hq _ (r.tilt hh), r.t2]
  rcases r.tt with e | e
  · refine heads_le hf hg τ (fun h hh => r.tlt hh) (fun a b ha hb hr => ?_) hP (fun h hh => by show q (τ h / 4) = q (h / 4); rw [r.t])
    obtain ⟨k, hk⟩ := hr
    have it : ∀ k, itr (phi M') k (τ a) = τ (itr (phi M) k a) := by
      intro k
      induction k with
      | zero => rfl
      | succ k ih =>
        show turnN (mt M' (itr (phi M') k (τ a))) 3 = τ (turnN (mt M (itr (phi M) k a)) 3)
        rw [ih, r.mm _ (hf.itr_lt ha k), e]
    rw [it] at hk
    exact ⟨k, by rw [← r.tl (itr (phi M) k a), hk, r.tl]⟩
  · refine heads_le hf hg (fun h => τ (mt M h)) (fun h hh => r.tlt (r.lt h hh)) (fun a b ha hb hr => ?_) hP (fun h hh => by show q (τ (mt M h) / 4) = q (h / 4); rw [r.t, hq h hh])
    obtain ⟨k, hk⟩ := hr
    have hρ : ∀ h, h < 4 * n → mt M (turnN h 1) < 4 * n := fun h hh => r.lt _ (turn_lt hh)
    have hb1 : ∀ h, h < 4 * n → phi M (mt M (turnN h 1)) = h := fun h hh => by
      unfold phi
      rw [r.inv _ (turn_lt hh)]
      unfold turnN; omega
    have itl : ∀ k, itr (fun h => mt M (turnN h 1)) k a < 4 * n := by
      intro k
      induction k with
      | zero => exact ha
      | succ k ih => exact hρ _ ih
    have it : ∀ k, itr (phi M') k (τ (mt M a)) = τ (mt M (itr (fun h => mt M (turnN h 1)) k a)) := by
      intro k
      induction k with
      | zero => rfl
      | succ k ih =>
        show turnN (mt M' (itr (phi M') k (τ (mt M a)))) 3 = τ (mt M (mt M (turnN (itr (fun h => mt M (turnN h 1)) k a) 1)))
        have h1 := itl k
        rw [ih, r.mm _ (r.lt _ h1), r.inv _ h1, r.inv _ (turn_lt h1)]
        have h2 := e (turnN (itr (fun h => mt M (turnN h 1)) k a) 1)
        have h3 : turnN (turnN (itr (fun h => mt M (turnN h 1)) k a) 1) 3 = itr (fun h => mt M (turnN h 1)) k a := by unfold turnN; omega
        rw [h3] at h2
        rw [h2]
        unfold turnN; omega
    rw [it] at hk
    have h4 : itr (fun h => mt M (turnN h 1)) k a = b := by
      have h5 : mt M (itr (fun h => mt M (turnN h 1)) k a) = mt M b := by rw [← r.tl (mt M (itr (fun h => mt M (turnN h 1)) k a)), hk, r.tl]
      rw [← r.inv _ (itl k), h5, r.inv _ hb]
    refine hf.symm hb ⟨k, ?_⟩
    rw [← h4]
    have back : ∀ k, itr (phi M) k (itr (fun h => mt M (turnN h 1)) k a) = a := by
      intro k
      induction k with
      | zero => rfl
      | succ k ih =>
        rw [itr_add (phi M) k 1]
        show itr (phi M) k (phi M (mt M (turnN (itr (fun h => mt M (turnN h 1)) k a) 1))) = a
        rw [hb1 _ (itl k)]
        exact ih
    exact back k
theorem Rlb.ed (r : Rlb n M M' τ ti) {a b : Nat} (h : Ed M a b) : Ed M' a b := by
  obtain ⟨h, hh, e⟩ := h
  have hh' : h < 4 * n := by have := r.m; omega
  refine ⟨τ h, by have := r.tlt hh'; have := r.m'; omega, ?_⟩
  rw [r.t, r.mm h hh', r.t]
  exact e
theorem Rlb.conn (r : Rlb n M M' τ ti) {a b : Nat} (h : Conn (Ed M) a b) : Conn (Ed M') a b := by
  refine h.closed (P := fun c => Conn (Ed M') a c) (fun c d e hc => hc.trans (Conn.one (r.ed e))) (.refl _)
theorem Rlb.lab_le (r : Rlb n M M' τ ti) {c : Nat} (hc : c < n) : gn (labK M' n n) c ≤ gn (labK M n n) c := by
  have hR : Rg M n := ⟨r.m, r.lt⟩
  have hR' : Rg M' n := ⟨r.m', r.symm.lt⟩
  have h1 := labK_conn hR n c hc
  have h2 : gn (labK M n n) c ≤ c := labK_least hR hc (.refl _)
  refine labK_least hR' (by omega) ?_
  exact r.conn (Conn.symm (fun a b h => h.symm) h1)
theorem Rlb.lab (r : Rlb n M M' τ ti) : labK M' n n = labK M n n := by
  apply List.ext_getElem?
  intro c
  by_cases hc : c < n
  · have h1 : gn (labK M' n n) c = gn (labK M n n) c := Nat.le_antisymm (r.lab_le hc) (r.symm.lab_le hc)
    unfold gn at h1
    rw [List.getElem?_eq_getElem (by rw [labK_length]; exact hc), List.getElem?_eq_getElem (by rw [labK_length]; exact hc)] at h1 ⊢
    exact congrArg some h1
  · rw [List.getElem?_eq_none (by rw [labK_length]; omega), List.getElem?_eq_none (by rw [labK_length]; omega)]
theorem Rlb.sph (r : Rlb n M M' τ ti) (h : sphR M n = true) : sphR M' n = true := by
  have hR : Rg M n := ⟨r.m, r.lt⟩
  have leq : ∀ h, h < 4 * n → gn (labK M n n) (mt M h / 4) = gn (labK M n n) (h / 4) := fun h hh => by
    have e : Ed M (h / 4) (mt M h / 4) := ⟨h, by have := r.m; omega, Or.inl ⟨rfl, rfl⟩⟩
    have h1 := r.lt h hh
    have a1 : h / 4 < n := by omega
    have b1 : mt M h / 4 < n := by omega
    have a2 := labK_conn hR n _ a1
    have b2 := labK_conn hR n _ b1
    have a3 : gn (labK M n n) (h / 4) ≤ h / 4 := labK_least hR a1 (.refl _)
    have b3 : gn (labK M n n) (mt M h / 4) ≤ mt M h / 4 := labK_least hR b1 (.refl _)
    have sy : ∀ a b, Ed M a b → Ed M b a := fun a b h => h.symm
    refine Nat.le_antisymm (labK_least hR (by omega) ?_) (labK_least hR (by omega) ?_)
    · exact (Conn.symm sy a2).trans (Conn.one e)
    · exact (Conn.symm sy b2).trans (Conn.one e.symm)
  refine sph_good fun c hc => ?_
  have h1 := List.all_eq_true.1 h c (List.mem_range.2 hc)
  unfold spB at h1 ⊢
  rw [r.lab, r.m']
  rw [r.m] at h1
  have e1 : fcN (labK M n n) c (hdU (phi M') (4 * n) (4 * n)) = fcN (labK M n n) c (hdU (phi M) (4 * n) (4 * n)) := by
    unfold fcN
    refine Nat.le_antisymm ?_ ?_
    · refine r.symm.faces_le (fun x => gn (labK M n n) x == c) (fun h hh => ?_)
      show (gn (labK M n n) (mt M' h / 4) == c) = (gn (labK M n n) (h / 4) == c)
      rw [r.mt' hh, r.t, leq _ (r.tilt hh), r.t2]
    · refine r.faces_le (fun x => gn (labK M n n) x == c) (fun h hh => ?_)
      show (gn (labK M n n) (mt M h / 4) == c) = (gn (labK M n n) (h / 4) == c)
      rw [leq _ hh]
  rw [e1]
  exact h1
end
theorem Rlb.valid {S S' M M' : List Int} {L : Int} {τ ti : Nat → Nat} (r : Rlb S.length M M' τ ti) (hv : valB S M L = true) (hS : S'.length = S.length) (hs : ∀ s ∈ S', s = 1 ∨ s = -1) (hp : ∀ h, h < 4 * S.length → 0 ≤ M'[h]?.getD 0)
    (ho : (∀ h, h < 4 * S.length → outB S' (τ h) = outB S h) ∨ ∀ h, h < 4 * S.length → outB S' (τ h) = !outB S h) : valB S' M' L = true := by
  have k := valB_ok hv
  have hsp : sphR M S.length = true := by
    unfold valB at hv
    simp only [Bool.and_eq_true] at hv
    exact hv.2
  unfold valB
  rw [hS, r.sph hsp, Bool.and_true]
  unfold okB
  simp only [Bool.and_eq_true, decide_eq_true_eq, List.all_eq_true, List.mem_range]
  refine ⟨by rw [hS]; exact k.n, by rw [hS]; exact r.m', k.l0, k.l1, fun s h => ?_, fun h hh => ?_⟩
  · have := hs s h
    unfold sgB
    simpa using this
  · rw [r.m'] at hh
    have g1 := r.symm.lt h hh
    have g2 := r.symm.inv h hh
    have g3 := hp h hh
    have g4 := hp _ g1
    have g5 : mt M' h ≠ h := fun e => by
      rw [r.mt' hh] at e
      have h2 : mt M (ti h) = ti h := by rw [← r.tl (mt M (ti h)), e]
      exact k.ne _ (by have := r.tilt hh; have := r.m; omega) h2
    have g6 : outB S' h ≠ outB S' (mt M' h) := by
      have e1 := k.out (ti h) (by have := r.tilt hh; have := r.m; omega)
      have e2 := r.mt' hh
      rcases ho with e | e
      · have w1 := e (ti h) (r.tilt hh)
        have w2 := e (mt M (ti h)) (r.lt _ (r.tilt hh))
        rw [r.tr] at w1
        rw [e2, w1, w2]; exact e1
      · have w1 := e (ti h) (r.tilt hh)
        have w2 := e (mt M (ti h)) (r.lt _ (r.tilt hh))
        rw [r.tr] at w1
        rw [e2, w1, w2]
        intro w
        exact e1 (by simpa using w)
    unfold mtB
    have hm1 : (mt M' h : Int) = M'[h]?.getD 0 := by unfold mt; omega
    have hm2 : (mt M' (mt M' h) : Int) = M'[mt M' h]?.getD 0 := by
      have : mt M' (mt M' h) = (M'[mt M' h]?.getD 0).toNat := rfl
      omega
    simp only [Bool.and_eq_true, decide_eq_true_eq, bne_iff_ne]
    refine ⟨g3, by rw [hS]; omega, by omega, by omega, g6⟩
end Go.Proofs.Ytcjaloddgilnpaa
