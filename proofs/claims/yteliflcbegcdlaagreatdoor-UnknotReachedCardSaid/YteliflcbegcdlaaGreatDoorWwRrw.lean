/- The reference's Closed (layer 45). -/
/- UnknotClosed: the plain law, and lists of grids cut in parts. -/
/- The list of the reachable classes, as the reference finds and sorts it (plain). -/
/- Two elements of a list of grids exchanged, in memory. -/
/- The reference's Reached (layer 45). -/
import Derived.Test.YteliflcbegcdlaaGreatDoorWwFlw
import Derived.Test.YteliflcbegcdlaaGreatDoorWwVer
import Derived.Test.YteliflcbegcdlaaGreatDoorWwAwu
import Derived.Test.YteliflcbegcdlaaGreatDoorWwGrf
import Derived.BigRegion
namespace Go.Proofs.YteliflcbegcdlaaGreatDoor
open Go.RowKit Go.Shelf
set_option linter.unusedVariables false
theorem all_step {α : Type} {P : α → Prop} {l : List α} {k : Nat} (h : k < l.length) : (∀ x ∈ l.take (k + 1), P x) ↔ (∀ x ∈ l.take k, P x) ∧ P l[k] := by
  rw [List.take_succ_eq_append_getElem h]
  constructor
  · intro q
    exact ⟨fun x hx => q x (List.mem_append_left _ hx), q _ (List.mem_append_right _ (by simp))⟩
  · rintro ⟨q1, q2⟩ x hx
    rcases List.mem_append.1 hx with hx | hx
    · exact q1 x hx
    · rw [List.mem_singleton.1 hx]; exact q2
end Go.Proofs.YteliflcbegcdlaaGreatDoor

namespace Go.Proofs.YteliflcbegcdlaaGreatDoor
open Go.RowKit Go.Shelf
set_option linter.unusedVariables false
theorem Run.nd {most : Int} {short : Bool} {s : St} {r : Res} (h : Run most short s r) : StP s → ∀ K, r = .done K → (K.map En.key).Nodup := by
  induction h with
  | done h => intro hs K e; injection e with e; subst e; exact hs.nd
  | found h hsh h2 => intro hs K e; cases e
  | fuel h hsh ha => intro hs K e; cases e
  | @step s s' g W r h hsh ha hr ih =>
    intro hs K e
    obtain ⟨hs1, hvg⟩ := hs.next h
    exact ih (addAll_stp _ hs1 (fun p hp => nbrs_vd hvg (show (p.1, p.2) ∈ nbrs g from hp)) ha) K e
theorem Exq.nd {most : Int} {short : Bool} {g : Gd} {r : Res} (hv : VdG g) (h : Exq most short g r) : ∀ K, r = .done K → (K.map En.key).Nodup := by
  cases h with
  | none h => intro K e; cases e
  | some h hr => exact hr.nd (StP.start.add hv h)
/-! ### memory -/
theorem eG_len (x : GV) : (eG x).length = 2 := rfl
theorem al_of {w : World} : ∀ {ps : List GV} {gs : List Gd}, ps.length = gs.length → (∀ (i : Nat) p g, ps[i]? = some p → gs[i]? = some g → GvI w p g) → Al w ps gs
  | [], [], _, _ => trivial
  | p :: ps, g :: gs, hl, h => ⟨h 0 p g rfl rfl, al_of (by simpa using hl) fun i q x h1 h2 => h (i + 1) q x (by simpa using h1) (by simpa using h2)⟩
  | [], g :: gs, hl, _ => by simp at hl
  | p :: ps, [], hl, _ => by simp at hl
theorem Al.take {w : World} : ∀ (k : Nat) {ps : List GV} {gs : List Gd}, Al w ps gs → Al w (ps.take k) (gs.take k)
  | 0, ps, gs, _ => by simp [Al]
  | k + 1, [], [], _ => by simp [Al]
  | k + 1, p :: ps, g :: gs, h => ⟨h.1, Al.take k h.2⟩
  | k + 1, [], g :: gs, h => h.elim
  | k + 1, p :: ps, [], h => h.elim
theorem Al.drop {w : World} : ∀ (k : Nat) {ps : List GV} {gs : List Gd}, Al w ps gs → Al w (ps.drop k) (gs.drop k)
  | 0, ps, gs, h => h
  | k + 1, [], [], _ => by simp [Al]
  | k + 1, p :: ps, g :: gs, h => Al.drop k h.2
  | k + 1, [], g :: gs, h => h.elim
  | k + 1, p :: ps, [], h => h.elim
theorem Al.append {w : World} : ∀ {ps : List GV} {gs : List Gd} {qs : List GV} {hs : List Gd}, Al w ps gs → Al w qs hs → Al w (ps ++ qs) (gs ++ hs)
  | [], [], qs, hs, _, h => h
  | p :: ps, g :: gs, qs, hs, h, h' => ⟨h.1, Al.append h.2 h'⟩
  | [], g :: gs, _, _, h, _ => h.elim
  | p :: ps, [], _, _, h, _ => h.elim
theorem Al.below {w w' : World} {ps : List GV} {gs : List Gd} (h : Al w ps gs) (hb : Below w.heap.size w w') : Al w' ps gs := h.imp fun p g k => ⟨Ints.below k.1 hb, Ints.below k.2 hb⟩
end Go.Proofs.YteliflcbegcdlaaGreatDoor

namespace Go.Proofs.YteliflcbegcdlaaGreatDoor
open Go.RowKit Go.Shelf
set_option linter.unusedVariables false
/-! ### reachable classes of a small grid -/
theorem fol_facts {h z : Gd} (hv : VdG h) (hf : Fol h z) : VdG z ∧ z.1.length ≤ h.1.length ∧ gt z.1 0 = 0 ∧ lstM z = z := by
  obtain ⟨ms, y, hm, rfl⟩ := fol_nbrs hv hf
  have hy := nbrs_vd hv hm
  exact ⟨lstM_vd hy, by rw [lstM_len hy]; exact nbrs_len hv hm, lst0 hy, lstM_lstM hy⟩
/-- z can be reached from the class of g -/
def Rea (g z : Gd) : Prop := RC (lstM g) z
theorem rc_facts {a z : Gd} (hr : RC a z) : VdG a → gt a.1 0 = 0 → lstM a = a → VdG z ∧ z.1.length ≤ a.1.length ∧ gt z.1 0 = 0 ∧ lstM z = z := by
  induction hr with
  | refl a => exact fun h h0 hl => ⟨h, Nat.le_refl _, h0, hl⟩
  | @head a b c hf _ ih =>
    intro h h0 hl
    obtain ⟨h1, h2, h3, h4⟩ := fol_facts h hf
    obtain ⟨k1, k2, k3, k4⟩ := ih h1 h3 h4
    exact ⟨k1, Nat.le_trans k2 h2, k3, k4⟩
theorem rea_facts {g z : Gd} (hv : VdG g) (hr : Rea g z) : VdG z ∧ z.1.length ≤ g.1.length ∧ gt z.1 0 = 0 ∧ lstM z = z := by
  have := rc_facts hr (lstM_vd hv) (lst0 hv) (lstM_lstM hv)
  rw [lstM_len hv] at this
  exact this
theorem RC.snoc {a b c : Gd} (h : RC a b) (hf : Fol b c) : RC a c := by
  induction h with
  | refl a => exact .head hf (.refl _)
  | head h1 _ ih => exact .head h1 (ih hf)
/-- what the search has found, the first i having been looked at -/
structure BfI (g : Gd) (ls : List Gd) (i : Nat) : Prop where
  nd : ls.Nodup
  rc : ∀ z ∈ ls, Rea g z
  st : lstM g ∈ ls
  cl : ∀ h ∈ ls.take i, ∀ z, Fol h z → z ∈ ls
  le : i ≤ ls.length
theorem BfI.start {g : Gd} : BfI g [lstM g] 0 := ⟨by simp, fun z hz => by rw [List.mem_singleton.1 hz]; exact .refl _, by simp, fun h hh => by simp at hh, by simp⟩
theorem BfI.len {g : Gd} {ls : List Gd} {i : Nat} (h : BfI g ls i) (hv : VdG g) (h5 : g.1.length ≤ 5) : ls.length ≤ 3038 := by
  have := len_subG ls gUpto5 h.nd fun z hz => by
    obtain ⟨k1, k2, k3, _⟩ := rea_facts hv (h.rc z hz)
    have h2 := k1.two
    have hmem := mem_gAll (g := z) k1 k3
    unfold gUpto5
    have : z.1.length = 2 ∨ z.1.length = 3 ∨ z.1.length = 4 ∨ z.1.length = 5 := by omega
    rcases this with e | e | e | e <;> rw [e] at hmem
    · exact List.mem_append_left _ hmem
    · exact List.mem_append_right _ (List.mem_append_left _ hmem)
    · exact List.mem_append_right _ (List.mem_append_right _ (List.mem_append_left _ hmem))
    · exact List.mem_append_right _ (List.mem_append_right _ (List.mem_append_right _ hmem))
  rw [gUpto5_len] at this
  exact this
/-- the first i have been looked at, and the first j that follow the next one -/
structure BfJ (g : Gd) (ls : List Gd) (i : Nat) (fs : List Gd) (j : Nat) : Prop extends BfI g ls i where
  fl : ∀ z ∈ fs.take j, z ∈ ls
theorem BfI.round {g : Gd} {ls fs : List Gd} {i : Nat} (h : BfI g ls i) : BfJ g ls i fs 0 := ⟨h, fun z hz => by simp at hz⟩
theorem take_app {α : Type} {ls : List α} {x : α} {i : Nat} (h : i ≤ ls.length) : (ls ++ [x]).take i = ls.take i := by
  rw [List.take_append_of_le_length h]
theorem BfJ.old {g : Gd} {ls fs : List Gd} {i j : Nat} (h : BfJ g ls i fs j) (hj : j < fs.length) (hin : fs[j] ∈ ls) : BfJ g ls i fs (j + 1) :=
  ⟨h.toBfI, (all_step hj).2 ⟨h.fl, hin⟩⟩
theorem BfJ.new {g : Gd} {ls fs : List Gd} {i j : Nat} (h : BfJ g ls i fs j) (hi : i < ls.length) (hF : IsF ls[i] fs) (hj : j < fs.length) (hin : ¬ fs[j] ∈ ls) : BfJ g (ls ++ [fs[j]]) i fs (j + 1) := by
  refine ⟨⟨?_, ?_, List.mem_append_left _ h.st, ?_, by simp; omega⟩, ?_⟩
  · rw [List.nodup_append]
    refine ⟨h.nd, by simp, fun a ha b hb e => ?_⟩
    simp at hb
    subst hb; subst e
    exact hin ha
  · intro z hz
    rcases List.mem_append.1 hz with hz | hz
    · exact h.rc z hz
    · rw [List.mem_singleton.1 hz]
      exact (h.rc _ (List.getElem_mem hi)).snoc ((hF.2.2 _).1 (List.getElem_mem hj))
  · rw [take_app (by omega)]
    exact fun a ha z hz => List.mem_append_left _ (h.cl a ha z hz)
  · intro z hz
    rcases ((all_step (P := fun z => z ∈ ls ++ [fs[j]]) hj).2 ⟨fun z hz => List.mem_append_left _ (h.fl z hz), List.mem_append_right _ (by simp)⟩) z hz with hz
    exact hz
theorem BfJ.fin {g : Gd} {ls fs : List Gd} {i : Nat} (h : BfJ g ls i fs fs.length) {c : Gd} (hi : i < ls.length) (hc : ls[i] = c) (hF : IsF c fs) : BfI g ls (i + 1) := by
  refine ⟨h.nd, h.rc, h.st, (all_step (P := fun a => ∀ z, Fol a z → z ∈ ls) hi).2 ⟨h.cl, fun z hz => ?_⟩, hi⟩
  have := h.fl
  rw [List.take_length] at this
  rw [hc] at hz
  exact this z ((hF.2.2 z).2 hz)
theorem BfI.all {g : Gd} {ls : List Gd} (h : BfI g ls ls.length) : ∀ z, Rea g z → z ∈ ls := by
  have key : ∀ {a z : Gd}, RC a z → a ∈ ls → z ∈ ls := by
    intro a z hr
    induction hr with
    | refl a => exact id
    | head hf _ ih => exact fun ha => ih (h.cl _ (by rw [List.take_length]; exact ha) _ hf)
  exact fun z hz => key hz h.st
/-! ### the order -/
theorem befB_iff {a b : Gd} : befB a b = true ↔ cmpG a b < 0 := by
  unfold befB
  rcases cmpG_cases a b with ⟨h, e⟩ | ⟨h, e⟩ | ⟨h, e⟩
  · rw [if_pos (by omega), e]; simp [h]
  · rw [if_neg (by omega), e, cmpP_less h]; simp
  · rw [if_pos (by omega), e]; simp; omega
theorem befB_no {a b : Gd} (hne : a ≠ b) (h : ¬ befB a b = true) : cmpG b a < 0 := by
  rw [befB_iff] at h
  have h1 := cmpG_anti a b
  have h2 : cmpG a b ≠ 0 := fun e => hne (cmpG_zero e)
  omega
/-- lists in strict order with the same elements are the same -/
theorem srt_eq : ∀ {l m : List Gd}, l.Pairwise (fun a b => cmpG a b < 0) → m.Pairwise (fun a b => cmpG a b < 0) → (∀ z, z ∈ l ↔ z ∈ m) → l = m
  | [], [], _, _, _ => rfl
  | [], b :: m, _, _, h => by have := (h b).2 (by simp); simp at this
  | a :: l, [], _, _, h => by have := (h a).1 (by simp); simp at this
  | a :: l, b :: m, h1, h2, h => by
    rw [List.pairwise_cons] at h1 h2
    have hab : a = b := by
      rcases List.mem_cons.1 ((h a).1 (by simp)) with e | e
      · exact e
      · rcases List.mem_cons.1 ((h b).2 (by simp)) with e' | e'
        · exact e'.symm
        · have k1 := h2.1 a e
          have k2 := h1.1 b e'
          have := cmpG_anti a b
          omega
    subst hab
    have na : ∀ {l : List Gd}, (∀ b ∈ l, cmpG a b < 0) → ¬ a ∈ l := fun h ha => by
      have := h a ha
      rw [cmpG_self] at this; omega
    rw [srt_eq h1.2 h2.2 fun z => ?_]
    constructor
    · intro hz
      rcases List.mem_cons.1 ((h z).1 (List.mem_cons_of_mem _ hz)) with e | e
      · subst e; exact absurd hz (na h1.1)
      · exact e
    · intro hz
      rcases List.mem_cons.1 ((h z).2 (List.mem_cons_of_mem _ hz)) with e | e
      · subst e; exact absurd hz (na h2.1)
      · exact e
/-! ### insertion -/
def gd (l : List Gd) (i : Nat) : Gd := l[i]?.getD ([], [])
theorem gd_get {l : List Gd} {i : Nat} (h : i < l.length) : gd l i = l[i] := by unfold gd; rw [List.getElem?_eq_getElem h]; rfl
def swG (l : List Gd) (k : Nat) : List Gd := (l.set k (gd l (k - 1))).set (k - 1) (gd l k)
theorem swG_length (l : List Gd) (k : Nat) : (swG l k).length = l.length := by simp [swG]
theorem gd_set {l : List Gd} {i : Nat} (x : Gd) (h : i < l.length) (c : Nat) : gd (l.set i x) c = if c = i then x else gd l c := by
  unfold gd
  rw [List.getElem?_set]
  by_cases e : i = c
  · subst e; rw [if_pos rfl, if_pos rfl, if_pos h]; rfl
  · rw [if_neg e, if_neg (fun k => e k.symm)]
theorem gd_swG {l : List Gd} {k i : Nat} (hk : k < l.length) (h0 : 0 < k) : gd (swG l k) i = if i = k - 1 then gd l k else if i = k then gd l (k - 1) else gd l i := by
  unfold swG
  rw [gd_set _ (by simp; omega), gd_set _ hk]
theorem mem_gd {l : List Gd} {z : Gd} : z ∈ l ↔ ∃ i, i < l.length ∧ gd l i = z := by
  constructor
  · intro h
    obtain ⟨i, hi, e⟩ := List.mem_iff_getElem.1 h
    exact ⟨i, hi, by rw [gd_get hi]; exact e⟩
  · rintro ⟨i, hi, rfl⟩
    rw [gd_get hi]; exact List.getElem_mem hi
theorem nd_gd {l : List Gd} : l.Nodup ↔ ∀ i j, i < l.length → j < l.length → gd l i = gd l j → i = j := by
  unfold List.Nodup
  rw [List.pairwise_iff_getElem]
  constructor
  · intro h i j hi hj e
    rw [gd_get hi, gd_get hj] at e
    rcases Nat.lt_trichotomy i j with q | q | q
    · exact absurd e (h i j hi hj q)
    · exact q
    · exact absurd e.symm (h j i hj hi q)
  · intro h i j hi hj hij e
    have := h i j hi hj (by rw [gd_get hi, gd_get hj]; exact e)
    omega
theorem mem_swG {l : List Gd} {k : Nat} (hk : k < l.length) (h0 : 0 < k) (z : Gd) : z ∈ swG l k ↔ z ∈ l := by
  rw [mem_gd, mem_gd, swG_length]
  constructor
  · rintro ⟨i, hi, e⟩
    rw [gd_swG hk h0] at e
    by_cases e1 : i = k - 1
    · rw [if_pos e1] at e; exact ⟨k, hk, e⟩
    · rw [if_neg e1] at e
      by_cases e2 : i = k
      · rw [if_pos e2] at e; exact ⟨k - 1, by omega, e⟩
      · rw [if_neg e2] at e; exact ⟨i, hi, e⟩
  · rintro ⟨i, hi, e⟩
    by_cases e1 : i = k - 1
    · exact ⟨k, hk, by rw [gd_swG hk h0, if_neg (by omega), if_pos rfl, ← e1]; exact e⟩
    · by_cases e2 : i = k
      · exact ⟨k - 1, by omega, by rw [gd_swG hk h0, if_pos rfl, ← e2]; exact e⟩
      · exact ⟨i, hi, by rw [gd_swG hk h0, if_neg e1, if_neg e2]; exact e⟩
theorem nd_swG {l : List Gd} {k : Nat} (hk : k < l.length) (h0 : 0 < k) (h : l.Nodup) : (swG l k).Nodup := by
  rw [nd_gd] at h ⊢
  rw [swG_length]
  intro i j hi hj e
  rw [gd_swG hk h0, gd_swG hk h0] at e
  have key : ∀ a, a < l.length → ∃ b, b < l.length ∧ (if a = k - 1 then gd l k else if a = k then gd l (k - 1) else gd l a) = gd l b ∧ b = if a = k - 1 then k else if a = k then k - 1 else a := fun a ha => by
    by_cases e1 : a = k - 1
    · exact ⟨k, hk, by rw [if_pos e1], by rw [if_pos e1]⟩
    · by_cases e2 : a = k
      · exact ⟨k - 1, by omega, by rw [if_neg e1, if_pos e2], by rw [if_neg e1, if_pos e2]⟩
      · exact ⟨a, ha, by rw [if_neg e1, if_neg e2], by rw [if_neg e1, if_neg e2]⟩
  obtain ⟨b, hb, e1, e2⟩ := key i hi
  obtain ⟨b', hb', e3, e4⟩ := key j hj
  rw [e1, e3] at e
  have := h b b' hb hb' e
  rw [e2, e4] at this
  split at this <;> split at this <;> (try split at this) <;> (try split at this) <;> omega
/-- the first i are in order -/
structure InI (ls0 l : List Gd) (i : Nat) : Prop where
  nd : l.Nodup
  len : l.length = ls0.length
  mem : ∀ z, z ∈ l ↔ z ∈ ls0
  srt : ∀ a b, a < b → b < i → b < l.length → cmpG (gd l a) (gd l b) < 0
/-- the element at k is less than those behind it, up to i; the others are in order -/
structure InK (ls0 l : List Gd) (i k : Nat) : Prop where
  nd : l.Nodup
  len : l.length = ls0.length
  mem : ∀ z, z ∈ l ↔ z ∈ ls0
  le : k ≤ i
  lt : i < l.length
  srt : ∀ a b, a < b → b ≤ i → a ≠ k → b ≠ k → cmpG (gd l a) (gd l b) < 0
  up : ∀ b, k < b → b ≤ i → cmpG (gd l k) (gd l b) < 0
section
variable {ls0 l : List Gd} {i k : Nat}
theorem InI.start (h : ls0.Nodup) : InI ls0 ls0 1 := ⟨h, rfl, fun z => Iff.rfl, fun a b h1 h2 _ => by omega⟩
theorem InI.round (h : InI ls0 l i) (hi : i < l.length) : InK ls0 l i i :=
  ⟨h.nd, h.len, h.mem, Nat.le_refl _, hi, fun a b h1 h2 h3 h4 => h.srt a b h1 (by omega) (by omega), fun b h1 h2 => by omega⟩
theorem InK.step (h : InK ls0 l i k) (h0 : 0 < k) (hb : cmpG (gd l k) (gd l (k - 1)) < 0) : InK ls0 (swG l k) i (k - 1) := by
  have hk : k < l.length := Nat.lt_of_le_of_lt h.le h.lt
  have g1 : gd (swG l k) (k - 1) = gd l k := by rw [gd_swG hk h0, if_pos rfl]
  have g2 : gd (swG l k) k = gd l (k - 1) := by rw [gd_swG hk h0, if_neg (by omega), if_pos rfl]
  have g3 : ∀ a, a ≠ k - 1 → a ≠ k → gd (swG l k) a = gd l a := fun a h1 h2 => by rw [gd_swG hk h0, if_neg h1, if_neg h2]
  refine ⟨nd_swG hk h0 h.nd, by rw [swG_length]; exact h.len, fun z => (mem_swG hk h0 z).trans (h.mem z), by have := h.le; omega, by rw [swG_length]; exact h.lt, fun a b h1 h2 h3 h4 => ?_, fun b h1 h2 => ?_⟩
  · by_cases ea : a = k
    · rw [ea, g2, g3 b h4 (by omega)]
      exact h.srt (k - 1) b (by omega) h2 (by omega) (by omega)
    · rw [g3 a h3 ea]
      by_cases eb : b = k
      · rw [eb, g2]
        exact h.srt a (k - 1) (by omega) (by omega) ea (by omega)
      · rw [g3 b h4 eb]
        exact h.srt a b h1 h2 ea eb
  · rw [g1]
    by_cases eb : b = k
    · rw [eb, g2]; exact hb
    · rw [g3 b (by omega) eb]
      exact h.up b (by omega) h2
theorem InK.zero (h : InK ls0 l i 0) : InI ls0 l (i + 1) := by
  refine ⟨h.nd, h.len, h.mem, fun a b h1 h2 _ => ?_⟩
  by_cases ea : a = 0
  · rw [ea]; exact h.up b (by omega) (by omega)
  · exact h.srt a b h1 (by omega) ea (by omega)
theorem InK.stop (h : InK ls0 l i k) (h0 : 0 < k) (hb : ¬ befB (gd l k) (gd l (k - 1)) = true) : InI ls0 l (i + 1) := by
  have hk : k < l.length := Nat.lt_of_le_of_lt h.le h.lt
  have hne : gd l k ≠ gd l (k - 1) := fun e => by
    have := nd_gd.1 h.nd k (k - 1) hk (by omega) e
    omega
  have hlt := befB_no hne hb
  refine ⟨h.nd, h.len, h.mem, fun a b h1 h2 _ => ?_⟩
  by_cases ea : a = k
  · rw [ea]; exact h.up b (by omega) (by omega)
  · by_cases eb : b = k
    · rw [eb]
      by_cases e3 : a = k - 1
      · rw [e3]; exact hlt
      · exact cmpG_trans (h.srt a (k - 1) (by omega) (by have := h.le; omega) ea (by omega)) hlt
    · exact h.srt a b h1 (by omega) ea eb
theorem InI.fin (h : InI ls0 l l.length) : l.Pairwise (fun a b => cmpG a b < 0) := by
  rw [List.pairwise_iff_getElem]
  intro a b ha hb hab
  have := h.srt a b hab hb hb
  rw [gd_get ha, gd_get hb] at this
  exact this
end
/-! ### a run exists -/
theorem Run.ex {most : Int} {short : Bool} : ∀ (m : Nat) (s : St), meas most s ≤ m → ∃ r, Run most short s r := by
  intro m
  induction m with
  | zero =>
    intro s hs
    cases hn : nextM s.2 with
    | none => exact ⟨_, .done hn⟩
    | some p =>
      obtain ⟨g, W⟩ := p
      have := meas_next (most := most) hn
      omega
  | succ m ih =>
    intro s hs
    cases hn : nextM s.2 with
    | none => exact ⟨_, .done hn⟩
    | some p =>
      obtain ⟨g, W⟩ := p
      by_cases hx : short = true ∧ g.1.length = 2
      · exact ⟨_, .found hn hx.1 hx.2⟩
      · cases ha : addAll most (some (lstM g)) (s.1, W) (nbrs g) with
        | none => exact ⟨_, .fuel hn hx ha⟩
        | some s' =>
          have h1 := meas_next (most := most) hn
          have h2 := meas_all _ ha
          obtain ⟨r, hr⟩ := ih s' (by omega)
          exact ⟨r, .step hn hx ha hr⟩
theorem Exq.ex (most : Int) (short : Bool) (g : Gd) : ∃ r, Exq most short g r := by
  cases h : addM most st00 g Option.none [] with
  | none => exact ⟨_, .none h⟩
  | some s =>
    obtain ⟨r, hr⟩ := Run.ex (short := short) _ s (Nat.le_refl _)
    exact ⟨r, .some h hr⟩
/-- the keys of a search that has come to its end are the reachable classes -/
theorem keys_rea {g : Gd} {K : List En} (hv : VdG g) (hd : Dn g false K) : ∀ z, z ∈ K.map En.key ↔ Rea g z := by
  obtain ⟨A, hA, hn, hall⟩ := hd
  have hall' : ∀ a ∈ A, ¬ ((false : Bool) = true ∧ a.1.length = 2) ∧ ∀ ms z, (ms, z) ∈ nbrs a → hasK K (lstM z) = true := hall
  intro z
  constructor
  · intro hz
    have key : ∀ (n i : Nat) (e : En) (a : Gd), i < n → K[i]? = some e → A[i]? = some a → Rea g e.key := by
      intro n
      induction n with
      | zero => intro i e a hi; omega
      | succ n ih =>
        intro i e a hi hK hA2
        obtain ⟨hva, hk, hf⟩ := hA.2 i e a hK hA2
        rcases hf with ⟨_, _, rfl⟩ | ⟨j, b, e', hj, k1, k2, k3, k4⟩
        · rw [← hk]; exact .refl _
        · have hb := hA.2 j e' b k1 k2
          have h1 := ih j e' b (by omega) k1 k2
          rw [← hk]
          exact RC.snoc h1 (by rw [← hb.2.1]; exact (Fol.tl hb.1 (Tl.least hb.1)).1 (nbrs_fol hb.1 k4))
    obtain ⟨e, he, rfl⟩ := List.mem_map.1 hz
    obtain ⟨i, hi⟩ := List.getElem?_of_mem he
    have hlt : i < A.length := by rw [hA.1]; exact (List.getElem?_eq_some_iff.1 hi).1
    exact key (i + 1) i e _ (by omega) hi (List.getElem?_eq_getElem hlt)
  · intro hz
    obtain ⟨a, ha, rfl⟩ := Dn.closed hA hall' hz ⟨g, alg_first hA hn, rfl⟩
    exact (alg_key hA ha).1
/-- the list of the reachable classes, in order -/
def IsR (g : Gd) (ls : List Gd) : Prop := ls.Pairwise (fun a b => cmpG a b < 0) ∧ (∀ z, z ∈ ls ↔ Rea g z)
theorem srt_nd {l : List Gd} (h : l.Pairwise (fun a b => cmpG a b < 0)) : l.Nodup := h.imp fun h e => by subst e; rw [cmpG_self] at h; omega
theorem IsR.uniq {g : Gd} {l m : List Gd} (h : IsR g l) (k : IsR g m) : l = m := srt_eq h.1 k.1 fun z => (h.2 z).trans (k.2 z).symm
theorem isR_keys {g : Gd} {K : List En} {gs : List Gd} {most : Int} (hv : VdG g) (hr : Exq most false g (.done K)) (hp : gs.Perm (K.map En.key)) (hs : SrtG gs) : IsR g gs := by
  have hd := (Exq.pl hv hr).1 K rfl
  have hn := Exq.nd hv hr K rfl
  have hgn : gs.Nodup := (hp.nodup_iff).2 hn
  refine ⟨?_, fun z => (hp.mem_iff).trans (keys_rea hv hd z)⟩
  have h2 : gs.Pairwise (fun a b => ¬ cmpG b a < 0 ∧ a ≠ b) := by
    unfold SrtG at hs
    exact List.Pairwise.and hs hgn
  refine h2.imp fun {a b} h => ?_
  have h1 := cmpG_anti a b
  have h3 : cmpG a b ≠ 0 := fun e => h.2 (cmpG_zero e)
  omega
theorem run_nf {most : Int} {short : Bool} {s : St} {r : Res} (h : Run most short s r) : short = false → ∀ K c, r ≠ .found K c := by
  induction h with
  | done h => intro _ K c e; cases e
  | found h hsh h2 => intro e; rw [e] at hsh; cases hsh
  | fuel h hsh ha => intro _ K c e; cases e
  | step h hsh ha hr ih => exact ih
/-- where the search with a budget fails, there are more classes than that -/
theorem fuel_many {g : Gd} {ls : List Gd} {most : Int} (hv : VdG g) (h5 : g.1.length ≤ 5) (hr : Exq most false g .fuel) (hl : IsR g ls) : most < (ls.length : Int) := by
  obtain ⟨r, hx⟩ := Exq.ex 4000 false g
  have hK : ∃ K, r = .done K := by
    cases hrr : r with
    | fuel => subst hrr; exact absurd hx (room5 hv h5 (by decide))
    | done K => exact ⟨K, rfl⟩
    | found K c =>
      subst hrr
      cases hx with
      | some h hrun => exact absurd rfl (run_nf hrun rfl K c)
  obtain ⟨K, rfl⟩ := hK
  rcases Exq.other hx hr with ⟨_, h⟩ | h | ⟨h, _⟩
  · have e : K.length = ls.length := by
      have h1 := Exq.nd hv hx K rfl
      have h2 := srt_nd hl.1
      have h3 : ∀ z, z ∈ K.map En.key ↔ z ∈ ls := fun z => (keys_rea hv ((Exq.pl hv hx).1 K rfl) z).trans (hl.2 z).symm
      have a1 := len_subG (K.map En.key) ls h1 fun z hz => (h3 z).1 hz
      have a2 := len_subG ls (K.map En.key) h2 fun z hz => (h3 z).2 hz
      rw [List.length_map] at a1 a2
      omega
    omega
  · cases h
  · cases h
end Go.Proofs.YteliflcbegcdlaaGreatDoor

namespace Go.Proofs.YteliflcbegcdlaaGreatDoor
open Go.RowKit Go.Shelf
set_option linter.unusedVariables false
theorem qa_set {base : Nat} {w : World} {g o n c i : Nat} {xs : List GV} {x : GV} (h : QA 24 2 eG base w (.slice (some ⟨g, o, none⟩) n c) xs) (hi : i < xs.length) :
    QA 24 2 eG base ((w.setCell ⟨g, o + i * 2, none⟩ (sv x.1)).setCell ⟨g, o + i * 2 + 1, none⟩ (sv x.2)) (.slice (some ⟨g, o, none⟩) n c) (xs.set i x) := by
  rcases h with ⟨h, _⟩ | ⟨g', o', c', cur, e, hb, hh, hc, hs, hsl, hx⟩
  · cases h
  · injection e with e1 e2 e3
    injection e1 with e1
    injection e1 with e1 e4 _
    subst e1; subst e4; subst e3; subst e2
    have hsz : o + i * 2 + (eG x).length ≤ cur.size := by
      have : (eG x).length = 2 := rfl
      omega
    obtain ⟨cur', h1, h2, h3, h4⟩ := setCells_row (eG x) (o + i * 2) w cur hh hsz
    have hl2 : (eG x).length = 2 := rfl
    refine .inr ⟨g, o, c, cur', by simp, hb, h1, by simpa using hc, by rw [h2]; exact hs, fun j q hq => ?_, fun j q hq => ?_⟩
    · by_cases hj : j < o + i * 2 ∨ o + i * 2 + (eG x).length ≤ j
      · rw [h3 j hj] at hq; exact hsl _ _ hq
      · have h5 := h4 (j - (o + i * 2)) _ (List.getElem?_eq_getElem (by omega))
        rw [show o + i * 2 + (j - (o + i * 2)) = j by omega, hq] at h5
        injection h5 with h5
        rw [h5]
        exact elG.esl x _ (List.getElem_mem _)
    · have hlen : ((xs.set i x).flatMap eG).length = xs.length * 2 := by rw [flat_len eG_len]; simp
      have hj : j < xs.length * 2 := by rw [← hlen]; exact (List.getElem?_eq_some_iff.1 hq).1
      have hjj : j = j / 2 * 2 + j % 2 := by omega
      have hm : j % 2 < 2 := Nat.mod_lt _ (by omega)
      have hk : j / 2 < xs.length := by omega
      rw [hjj, flat_get eG_len _ (j / 2) (j % 2) (by simpa using hk) hm] at hq
      by_cases e : i = j / 2
      · subst e
        rw [List.getElem_set_self] at hq
        have := h4 (j % 2) q hq
        rw [show o + j / 2 * 2 + j % 2 = o + j by omega] at this
        exact this
      · rw [List.getElem_set_ne e] at hq
        rw [h3 _ (by omega)]
        refine hx j q ?_
        rw [hjj, flat_get eG_len _ (j / 2) (j % 2) hk hm]
        exact hq
theorem qa_cells {base : Nat} {w : World} {g o n c i : Nat} {xs : List GV} (h : QA 24 2 eG base w (.slice (some ⟨g, o, none⟩) n c) xs) (hi : i < xs.length) :
    w.cell? ⟨g, o + i * 2, none⟩ = some (sv xs[i].1) ∧ w.cell? ⟨g, o + i * 2 + 1, none⟩ = some (sv xs[i].2) ∧ (∀ j, w.frozen? ⟨g, j, none⟩ = false) ∧ base ≤ g := by
  rcases h with ⟨h, _⟩ | ⟨g', o', c', cur, e, hb, hh, hc, hs, hsl, hx⟩
  · cases h
  · injection e with e1 e2 e3
    injection e1 with e1
    injection e1 with e1 e4 _
    subst e1; subst e4
    refine ⟨?_, ?_, fun j => frozen_of_row w g j cur _ hh, hb⟩
    · rw [cell_of_row w g _ cur _ (0, 0) hh]
      exact hx (i * 2 + 0) _ (by rw [flat_get eG_len _ i 0 hi (by omega)]; rfl)
    · rw [cell_of_row w g _ cur _ (0, 0) hh, Nat.add_assoc]
      exact hx (i * 2 + 1) _ (by rw [flat_get eG_len _ i 1 hi (by omega)]; rfl)
theorem Al.at_ {w : World} {cs : List GV} {gs : List Gd} (h : Al w cs gs) {i : Nat} (hi : i < cs.length) : GvI w cs[i] (gd gs i) := by
  have hl := h.len
  rw [gd_get (by omega)]
  exact h.get i _ _ (List.getElem?_eq_getElem hi) (List.getElem?_eq_getElem (by omega))
theorem FwI.swap {n0 b o c k : Nat} {sX sO : Value} {w wr : World} {gs : List Gd} (h : FwI n0 sX sO w wr (.slice (some ⟨b, o, none⟩) gs.length c) gs) (hk : k < gs.length) (h0 : 0 < k) :
    ∃ x y : GV, wr.cell? ⟨b, o + k * 2, none⟩ = some (sv x.1) ∧ wr.cell? ⟨b, o + k * 2 + 1, none⟩ = some (sv x.2) ∧ wr.cell? ⟨b, o + (k - 1) * 2, none⟩ = some (sv y.1) ∧ wr.cell? ⟨b, o + (k - 1) * 2 + 1, none⟩ = some (sv y.2) ∧
      GvI wr x (gd gs k) ∧ GvI wr y (gd gs (k - 1)) ∧ (∀ j, wr.frozen? ⟨b, j, none⟩ = false) ∧
      FwI n0 sX sO w ((((wr.setCell ⟨b, o + k * 2, none⟩ (sv y.1)).setCell ⟨b, o + k * 2 + 1, none⟩ (sv y.2)).setCell ⟨b, o + (k - 1) * 2, none⟩ (sv x.1)).setCell ⟨b, o + (k - 1) * 2 + 1, none⟩ (sv x.2)) (.slice (some ⟨b, o, none⟩) gs.length c) (swG gs k) := by
  obtain ⟨cs, h1, h2⟩ := h.own
  have hl := h2.len
  have hk' : k < cs.length := by omega
  have hk1 : k - 1 < cs.length := by omega
  obtain ⟨a1, a2, a3, a4⟩ := qa_cells h1 hk'
  obtain ⟨b1, b2, _, _⟩ := qa_cells h1 hk1
  have g1 := h2.at_ hk'
  have g2 := h2.at_ hk1
  refine ⟨cs[k], cs[k - 1], a1, a2, b1, b2, g1, g2, a3, ?_⟩
  have s1 := qa_set (x := cs[k - 1]) h1 hk'
  have s2 := qa_set (x := cs[k]) s1 (i := k - 1) (by simp; omega)
  have far : ∀ j, j ≠ b → ((((wr.setCell ⟨b, o + k * 2, none⟩ (sv cs[k - 1].1)).setCell ⟨b, o + k * 2 + 1, none⟩ (sv cs[k - 1].2)).setCell ⟨b, o + (k - 1) * 2, none⟩ (sv cs[k].1)).setCell ⟨b, o + (k - 1) * 2 + 1, none⟩ (sv cs[k].2)).heap[j]? = wr.heap[j]? := fun j hj => by
    have e1 := heap_setCells_far hj (eG cs[k]) (o + (k - 1) * 2) ((wr.setCell ⟨b, o + k * 2, none⟩ (sv cs[k - 1].1)).setCell ⟨b, o + k * 2 + 1, none⟩ (sv cs[k - 1].2))
    have e2 := heap_setCells_far hj (eG cs[k - 1]) (o + k * 2) wr
    exact e1.trans e2
  have hbel : Below n0 w ((((wr.setCell ⟨b, o + k * 2, none⟩ (sv cs[k - 1].1)).setCell ⟨b, o + k * 2 + 1, none⟩ (sv cs[k - 1].2)).setCell ⟨b, o + (k - 1) * 2, none⟩ (sv cs[k].1)).setCell ⟨b, o + (k - 1) * 2 + 1, none⟩ (sv cs[k].2)) :=
    (((h.bel.setCell (p := ⟨b, _, none⟩) (by show n0 ≤ b; omega) _).setCell (p := ⟨b, _, none⟩) (by show n0 ≤ b; omega) _).setCell (p := ⟨b, _, none⟩) (by show n0 ≤ b; omega) _).setCell (p := ⟨b, _, none⟩) (by show n0 ≤ b; omega) _
  generalize ((((wr.setCell ⟨b, o + k * 2, none⟩ (sv cs[k - 1].1)).setCell ⟨b, o + k * 2 + 1, none⟩ (sv cs[k - 1].2)).setCell ⟨b, o + (k - 1) * 2, none⟩ (sv cs[k].1)).setCell ⟨b, o + (k - 1) * 2 + 1, none⟩ (sv cs[k].2)) = W at s2 far hbel ⊢
  have hgv : ∀ p g, GvI wr p g → GvI W p g := fun p g hp => gv_app h1 hp fun j _ hj => far j (fun e => hj (by rw [e]; rfl))
  refine ⟨hbel, (far n0 (by omega)).trans h.box, _, s2, al_of (by simp [swG_length]; exact hl) fun i p g hp hg => ?_⟩
  have hi : i < gs.length := by
    have := (List.getElem?_eq_some_iff.1 hg).1
    rw [swG_length] at this; exact this
  have eg : g = gd (swG gs k) i := by unfold gd; rw [hg]; rfl
  rw [eg, gd_swG hk h0]
  rw [List.getElem?_set, List.getElem?_set] at hp
  by_cases e1 : i = k - 1
  · rw [if_pos e1.symm, if_pos (by simp; omega)] at hp
    injection hp with hp
    rw [if_pos e1, ← hp]
    exact hgv _ _ g1
  · rw [if_neg (fun e => e1 e.symm)] at hp
    rw [if_neg e1]
    by_cases e2 : i = k
    · rw [if_pos e2.symm, if_pos (by omega)] at hp
      injection hp with hp
      rw [if_pos e2, ← hp]
      exact hgv _ _ g2
    · rw [if_neg (fun e => e2 e.symm)] at hp
      rw [if_neg e2]
      have hic : i < cs.length := by omega
      rw [List.getElem?_eq_getElem hic] at hp
      injection hp with hp
      rw [← hp]
      exact hgv _ _ (h2.at_ hic)
end Go.Proofs.YteliflcbegcdlaaGreatDoor

namespace Go.Proofs.YteliflcbegcdlaaGreatDoor
open Go.RowKit Go.Shelf
set_option linter.unusedVariables false
theorem qa_one {base : Nat} {w : World} {q : GV} (hb : base ≤ w.heap.size) : QA 24 2 eG base (w.alloc (.cells #[sv q.1, sv q.2] 24)) (.slice (some ⟨w.heap.size, 0, none⟩) 1 1) [q] := by
  refine .inr ⟨w.heap.size, 0, 1, #[sv q.1, sv q.2], rfl, hb, heap_alloc_new w _, by simp, by simp, fun i u hi => ?_, fun j u hj => ?_⟩
  · have hm := Array.mem_of_getElem? hi
    simp at hm
    rcases hm with rfl | rfl
    · exact ⟨_, _, _, rfl⟩
    · exact ⟨_, _, _, rfl⟩
  · rw [Nat.zero_add]
    simp only [List.flatMap_cons, List.flatMap_nil, List.append_nil, eG] at hj
    simpa using hj
theorem FwI.some {n0 : Nat} {sX sO v : Value} {w wr : World} {gs : List Gd} (h : FwI n0 sX sO w wr v gs) (hn : 0 < gs.length) : ∃ b o c, v = .slice (some ⟨b, o, none⟩) gs.length c := by
  obtain ⟨cs, h1, h2⟩ := h.own
  have hl := h2.len
  rcases h1 with ⟨_, e⟩ | ⟨g, o, c, cur, rfl, _⟩
  · rw [e] at hl; simp at hl; omega
  · exact ⟨g, o, c, by rw [hl]⟩
/-- a list that the call has made earlier, apart from the one that it appends to -/
structure SepG (v u : Value) (fs : List Gd) (wr : World) : Prop where
  gd : Gds wr u fs
  ne : ∀ b, sBlk u = some b → sBlk v ≠ some b
  lt : ∀ b, sBlk u = some b → b < wr.heap.size
theorem SepG.below {v u : Value} {fs : List Gd} {wr wr' : World} (h : SepG v u fs wr) (hb : Below wr.heap.size wr wr') : SepG v u fs wr' :=
  ⟨h.gd.below hb, h.ne, fun b e => Nat.lt_of_lt_of_le (h.lt b e) hb.size⟩
theorem SepG.app {B : Nat} {v v' u : Value} {fs : List Gd} {wr wr' : World} {cs : List GV} (h : SepG v u fs wr) (h1 : QA 24 2 eG B wr v cs) (k3 : ∀ k, k < wr.heap.size → sBlk v ≠ some k → wr'.heap[k]? = wr.heap[k]?) (k4 : sBlk v' = sBlk v ∨ sBlk v' = some wr.heap.size) (k5 : wr.heap.size ≤ wr'.heap.size) : SepG v' u fs wr' := by
  obtain ⟨A, c, rfl, hc, hx⟩ := h.gd
  refine ⟨⟨A, c, rfl, hc, fun k g hk => ?_⟩, fun b e => ?_, fun b e => Nat.lt_of_lt_of_le (h.lt b e) k5⟩
  · obtain ⟨b, o, q, e1, c1, c2, hq⟩ := hx k g hk
    have hlt := block_lt_of_cell c1
    have hh := k3 b hlt (h.ne b (by rw [e1]; rfl))
    refine ⟨b, o, q, e1, ?_, ?_, gv_app h1 hq k3⟩
    · rw [← c1]; unfold World.cell?; rw [hh]
    · rw [← c2]; unfold World.cell?; rw [hh]
  · rcases k4 with k4 | k4
    · rw [k4]; exact h.ne b e
    · rw [k4]
      intro e2
      injection e2 with e2
      have := h.lt b e
      omega
/-- what Reached hands back -/
def RrP (most : Int) (g : Gd) (w : World) (e : Ending) (w' : World) : Prop :=
  Below w.heap.size w w' ∧ ∃ A n c ls b, e = .returned (.tuple #[.slice A n c, .bool b]) ∧ (b = true → IsR g ls ∧ Gds w' (.slice A n c) ls ∧ (ls.length : Int) ≤ most) ∧ (b = false → ls.Nodup ∧ (∀ z ∈ ls, Rea g z) ∧ most < (ls.length : Int))
set_option maxHeartbeats 8000000 in
set_option maxRecDepth 100000 in
theorem refReached_any (vx vo : Value) (X O : List Int) (most : Int) (w : World) (hX : Ints w vx X) (hO : Ints w vo O) (hv : Vd X O) (h5 : X.length ≤ 5) :
    Calls Tryz.prog 10 #[.agg #[vx, vo], .int .i64 most] w (RrP most (X, O) w) := by
  have HVD := Lib.hid (show VdG (X, O) from hv)
  have H5 := Lib.hid (show (X, O).1.length ≤ 5 from h5)
  have HLS := Lib.hid (fun W (hb : Below w.heap.size w W) => refLeast_any vx vo X O W (hX.below hb) (hO.below hb) hv)
  clear hv h5
  obtain ⟨A, c, rfl, -, -⟩ := hX
  obtain ⟨A', c', rfl, -, -⟩ := hO
  obtain ⟨nX, hnX⟩ : ∃ n, n = X.length := ⟨_, rfl⟩
  obtain ⟨nO, hnO⟩ : ∃ n, n = O.length := ⟨_, rfl⟩
  rw [← hnX] at HLS ⊢
  rw [← hnO] at HLS ⊢
  clear hnX hnO
  go_enter Tryz.func10, Tryz.ntmps10
  go_upto_region 1 with fail
  have hal := (Below.refl w.heap.size w).alloc (Nat.le_refl _) (.cells #[.slice A nX c, .slice A' nO c'] 24)
  have HQ1 := Lib.hid (heap_box (w := w) (t := 24) (a := .slice A nX c) (b := .slice A' nO c') w.heap.size rfl)
  have HB1 := Lib.hid hal
  clear hal
  generalize w.alloc (.cells #[.slice A nX c, .slice A' nO c'] 24) = w1 at HB1 HQ1 ⊢
  obtain ⟨n0, hn0⟩ : ∃ n, n = w.heap.size := ⟨_, rfl⟩
  rw [← hn0] at HQ1 HB1 HLS ⊢
  have HN0 := Lib.hid hn0
  clear hn0
  have y0 := HQ1.out.cell 0
  have y1 := HQ1.out.cell 1
  have HL1 := Lib.hid (HLS.out w1 HB1.out)
  go_upto_region 2 with (go_at_call 23; refine HL1.out.mono ?_; rintro e2 w2 ⟨C0, p0, q0, C1, p1, q1, rfl, hZ1, hZ2, hb2⟩)
  have hF : FwI n0 (.slice A nX c) (.slice A' nO c') w (w2.alloc (.cells #[.slice C0 p0 q0, .slice C1 p1 q1] 24)) (.slice (some ⟨w2.heap.size, 0, none⟩) 1 1) [lstM (X, O)] := by
    have hal := (Below.refl w2.heap.size w2).alloc (Nat.le_refl _) (.cells #[.slice C0 p0 q0, .slice C1 p1 q1] 24)
    have hB2 : Below n0 w w2 := HB1.out.trans (hb2.mono (Nat.le_of_lt HQ1.out.lt))
    have hq2 := HQ1.out.below hb2 HQ1.out.lt
    exact ⟨hB2.trans (hal.mono (Nat.le_of_lt hq2.lt)), hq2.below hal hq2.lt, [((C0, p0, q0), (C1, p1, q1))], qa_one (q := ((C0, p0, q0), (C1, p1, q1))) hq2.lt, ⟨⟨hZ1.below hal, hZ2.below hal⟩, trivial⟩⟩
  have HF := Lib.hid hF
  clear hF y0 y1 hZ1 hZ2 hb2 HL1 HLS HB1 HQ1
  generalize (.slice (some ⟨w2.heap.size, 0, none⟩) 1 1 : Value) = v1 at HF ⊢
  generalize w2.alloc (.cells #[.slice C0 p0 q0, .slice C1 p1 q1] 24) = w3 at HF ⊢
  obtain ⟨A1, c1, hv1⟩ := HF.out.form
  subst hv1
  go_wp2_with fail
  go_loopw [6, 7] (fun vo iv wr => ∃ (i : Nat) (Ao : Option Addr) (co : Nat) (ls : List Gd), vo = .slice Ao ls.length co ∧ iv = .int .i64 (i : Int) ∧ i ≤ ls.length ∧ ls.length ≤ 3038 ∧ Hid (FwI n0 (.slice A nX c) (.slice A' nO c') w wr (.slice Ao ls.length co) ls) ∧ Hid (BfI (X, O) ls i)) (fun _ iv _ => 4000 - (intOf iv).toNat)
  case atStart => exact ⟨0, _, _, [lstM (X, O)], rfl, rfl, by simp, by simp, HF, Lib.hid BfI.start⟩
  case round =>
    clear HF
    obtain ⟨i, Ao, co, ls, rfl, rfl, hi, hls, HF, HI⟩ := hrel
    by_cases hlt : i < ls.length
    · obtain ⟨b, o, D0, m0, d0, D1, m1, d1, rfl, hbl, y0, y1, hq⟩ := HF.out.gds.at_ hlt
      obtain ⟨C, hC⟩ : ∃ C : Gd, C = ls[i] := ⟨_, rfl⟩
      rw [← hC] at hq
      have HRC := Lib.hid (rea_facts HVD.out (HI.out.rc C (by rw [hC]; exact List.getElem_mem hlt)))
      have HFO := Lib.hid (refFollow_any (.slice D0 m0 d0) (.slice D1 m1 d1) C.1 C.2 wr hq.1 hq.2 HRC.out.1)
      have HCI := Lib.hid (show ls[i]? = some C by rw [hC]; exact List.getElem?_eq_getElem hlt)
      clear hq hbl hC
      have z1 : (i : Int) < (ls.length : Int) := by omega
      go_wp2_with (go_at_call 24; refine HFO.out.mono ?_; rintro e5 w5 ⟨F0, nf, cf, fs, rfl, hfs, hif, hb5, hfr⟩; obtain rfl := hfs.len; have HIF := Lib.hid hif; have HSP := Lib.hid (show SepG (.slice (some ⟨b, o, none⟩) ls.length co) (.slice F0 fs.length cf) fs w5 from ⟨hfs, fun x hx => by (have hge := (hfr x hx).1; obtain ⟨cs, k1, _⟩ := HF.out.own; intro e; have := k1.lt x e; omega), fun x hx => (hfr x hx).2⟩); have HF5 := Lib.hid (HF.out.below hb5); clear hfs hif hb5 hfr y0 y1)
      obtain ⟨wo1, hwo1⟩ : ∃ W, W = w5 := ⟨_, rfl⟩
      clear hwo1
      have hfl := HIF.out.2.1
      go_loopw [6, 9] (fun vo jv wr => ∃ (j : Nat) (Ao : Option Addr) (co : Nat) (ls : List Gd), vo = .slice Ao ls.length co ∧ jv = .int .i64 (j : Int) ∧ j ≤ fs.length ∧ ls.length ≤ 3038 ∧ Hid (FwI n0 (.slice A nX c) (.slice A' nO c') w wr (.slice Ao ls.length co) ls) ∧ Hid (SepG (.slice Ao ls.length co) (.slice F0 fs.length cf) fs wr) ∧ Hid (BfJ (X, O) ls i fs j) ∧ Hid (ls[i]? = some C)) (fun _ jv _ => fs.length - (intOf jv).toNat)
      case atStart => exact ⟨0, _, _, _, rfl, rfl, Nat.zero_le _, hls, HF5, HSP, Lib.hid HI.out.round, HCI⟩
      case round =>
        clear HF5 HSP HI HCI hlt hls z1 HF hi HFO
        obtain ⟨j, Ao, co, ls, rfl, rfl, hj, hls, HF, HSP, HJ, HCI⟩ := hrel
        by_cases hlt2 : j < fs.length
        · obtain ⟨b2, o2, E0, r0, s0, E1, r1, s1, rfl, hbl2, u0, u1, hq2⟩ := HSP.out.gd.at_ hlt2
          obtain ⟨Z, hZ⟩ : ∃ Z : Gd, Z = fs[j] := ⟨_, rfl⟩
          rw [← hZ] at hq2
          have hzf := fol_facts HRC.out.1 ((HIF.out.2.2 _).1 (show Z ∈ fs by rw [hZ]; exact List.getElem_mem hlt2))
          have hz1 := hzf.1.most
          have hz2 := hzf.1.len
          have HII := Lib.hid (refIn_any Ao ls.length co ls (.slice E0 r0 s0) (.slice E1 r1 s1) Z.1 Z.2 wr HF.out.gds (by omega) (fun h hh => by
            have h1 := rea_facts HVD.out (HJ.out.rc h hh)
            have h2 := h1.1.most
            have h3 := h1.1.len
            omega) hq2.1 hq2.2 (by omega) (by omega))
          have HQ2 := Lib.hid hq2
          have HZE := Lib.hid hZ
          clear hq2 hbl2 hZ hzf hz1 hz2
          have z2 : (j : Int) < (fs.length : Int) := by omega
          by_cases hin : Z ∈ ls
          · rw [decide_eq_true (show (Z.1, Z.2) ∈ ls from hin)] at HII
            have HJ2 := Lib.hid (HJ.out.old hlt2 (by rw [← HZE.out]; exact hin))
            clear hin
            go_wp2_with (go_at_call 25; refine HII.out.mono ?_; rintro e7 w7 ⟨rfl, hb7⟩; have HF7 := Lib.hid (HF.out.below hb7); have HS7 := Lib.hid (HSP.out.below hb7); clear hb7 u0 u1)
            go_roundw
            case rel => exact ⟨j + 1, _, _, _, rfl, by go_num, by omega, hls, HF7, HS7, HJ2, HCI⟩
            case measure => simp [intOf]; omega
          · rw [decide_eq_false (show ¬ (Z.1, Z.2) ∈ ls from hin)] at HII
            have hil : i < ls.length := (List.getElem?_eq_some_iff.1 HCI.out).1
            have HJ2 := Lib.hid (show BfJ (X, O) (ls ++ [Z]) i fs (j + 1) by
              have h := HJ.out.new hil (by rw [(List.getElem?_eq_some_iff.1 HCI.out).2]; exact HIF.out) hlt2 (by rw [← HZE.out]; exact hin)
              rw [HZE.out]; exact h)
            have HCI2 := Lib.hid (show (ls ++ [Z])[i]? = some C by rw [List.getElem?_append_left hil]; exact HCI.out)
            have hl2 := HJ2.out.len HVD.out H5.out
            clear hin hil
            go_upto_region 10 with (go_at_call 25; refine HII.out.mono ?_; rintro e7 w7 ⟨rfl, hb7⟩; have HF7 := Lib.hid (HF.out.below hb7); have HS7 := Lib.hid (HSP.out.below hb7); have HQ7 := Lib.hid (HQ2.out.below hb7); have u0 := (hb7.cell (block_lt_of_cell u0)).trans u0; have u1 := (hb7.cell (block_lt_of_cell u1)).trans u1; clear hb7)
            have hal := (Below.refl w7.heap.size w7).alloc (Nat.le_refl _) (.cells #[.slice E0 r0 s0, .slice E1 r1 s1] 24)
            have HF8 := Lib.hid (HF7.out.below hal)
            have HS8 := Lib.hid (HS7.out.below hal)
            have HQ8 := Lib.hid (HQ7.out.below hal)
            have HSL := Lib.hid (sl_one w7 ((E0, r0, s0), (E1, r1, s1)))
            obtain ⟨cs, k1, k2⟩ := HF8.out.own
            have HCS := Lib.hid (show cs.length + [(((E0, r0, s0), (E1, r1, s1)) : GV)].length ≤ 100000000 by
              have h1 := k2.len
              simp only [List.length_cons, List.length_nil]
              omega)
            have HK1 := Lib.hid k1
            have HK2 := Lib.hid k2
            have HSZ := Lib.hid (show n0 + 1 ≤ (w7.alloc (.cells #[.slice E0 r0 s0, .slice E1 r1 s1] 24)).heap.size from HF8.out.box.lt)
            have HL2 := Lib.hid hl2
            clear k1 k2 hal hl2
            go_wp2_with (at_builtin; refine wpList_appQA rfl elG (.tmp 39) (.tmp 44) 27 27 rfl Tryz.underlying27 Tryz.underlying27 rfl HK1.out rfl HSL.out (by simp) HCS.out HSZ.out ?_; intro v' w13 g1 g2 g3 g4; have HFN := Lib.hid (HF8.out.app HK1.out HK2.out HQ8.out g1 g2 g3); have HSN := Lib.hid (HS8.out.app HK1.out g3 g4 g2.size); obtain ⟨An, cn, hvn⟩ := HFN.out.form; subst hvn; clear g1 g2 g3 g4)
            go_roundw
            case rel => exact ⟨j + 1, An, cn, ls ++ [Z], by simp, by go_num, by omega, HL2.out, HFN, HSN, HJ2, HCI2⟩
            case measure => simp [intOf]; omega
        · obtain rfl : j = fs.length := by omega
          have hil : i < ls.length := (List.getElem?_eq_some_iff.1 HCI.out).1
          have HI2 := Lib.hid (HJ.out.fin hil (List.getElem?_eq_some_iff.1 HCI.out).2 HIF.out)
          by_cases hm : (ls.length : Int) > most
          · have z3 : decide ((ls.length : Int) > most) = true := by simpa using hm
            have z4 : most < (ls.length : Int) := hm
            have HM := Lib.hid hm
            clear hm
            go_wp2_with fail
            refine bodyPost_ret (results_tmp2 rfl _ _ _) rfl ?_
            exact ⟨by rw [← HN0.out]; exact HF.out.bel, _, _, _, ls, false, rfl, fun h => (by cases h), fun _ => ⟨HI2.out.nd, HI2.out.rc, HM.out⟩⟩
          · have z3 : decide ((ls.length : Int) > most) = false := by simpa using hm
            have z4 : ¬ most < (ls.length : Int) := hm
            clear hm
            go_wp2_with fail
            go_roundw
            case rel => exact ⟨_, _, _, _, ⟨i + 1, _, _, _, rfl, rfl, by omega, hls, HF, HI2⟩, rfl, rfl, rfl, by go_num⟩
            case measure => simp [intOf]; omega
    · obtain rfl : i = ls.length := by omega
      have HALL := Lib.hid HI.out.all
      have HRC := Lib.hid HI.out.rc
      have HST := Lib.hid (List.length_pos_of_mem HI.out.st)
      have HIN := Lib.hid (InI.start HI.out.nd)
      obtain ⟨b, o, c9, hbo⟩ := HF.out.some HST.out
      injection hbo with e1 _ e3
      subst e1; subst e3
      obtain ⟨n, hn⟩ : ∃ n, n = ls.length := ⟨_, rfl⟩
      rw [← hn] at HF hls HST ⊢
      have HNL := Lib.hid hn
      clear hi HI hn
      go_wp2_with fail
      obtain ⟨wo3, hwo3⟩ : ∃ W, W = wr := ⟨_, rfl⟩
      clear hwo3
      go_loopw [10] (fun iv wr => ∃ (i : Nat) (l : List Gd), iv = .int .i64 (i : Int) ∧ 1 ≤ i ∧ i ≤ n ∧ Hid (FwI n0 (.slice A nX c) (.slice A' nO c') w wr (.slice (some ⟨b, o, none⟩) n co) l) ∧ Hid (InI ls l i)) (fun iv _ => n - (intOf iv).toNat)
      case atStart => exact ⟨1, ls, rfl, Nat.le_refl _, by have := HST.out; omega, HF, HIN⟩
      case round =>
        clear HF HIN
        obtain ⟨i, l, rfl, hi1, hin, HF, HIN⟩ := hrel
        have hll : l.length = n := HIN.out.len.trans HNL.out.symm
        by_cases hlt2 : i < n
        · have z1 : (i : Int) < (n : Int) := by omega
          have HK0 := Lib.hid (HIN.out.round (by omega))
          clear hll
          go_wp2_with fail
          obtain ⟨wo4, hwo4⟩ : ∃ W, W = wr := ⟨_, rfl⟩
          clear hwo4
          go_loopw [11] (fun kv wr => ∃ (k : Nat) (l : List Gd), kv = .int .i64 (k : Int) ∧ k ≤ i ∧ Hid (FwI n0 (.slice A nX c) (.slice A' nO c') w wr (.slice (some ⟨b, o, none⟩) n co) l) ∧ Hid (InK ls l i k)) (fun kv _ => (intOf kv).toNat)
          case atStart => exact ⟨i, l, rfl, Nat.le_refl _, HF, HK0⟩
          case round =>
            clear HF HIN HK0
            obtain ⟨k, l, rfl, hki, HF, HK⟩ := hrel
            have hll : l.length = n := HK.out.len.trans HNL.out.symm
            by_cases h0 : k = 0
            · have HI2 := Lib.hid (show InI ls l (i + 1) from InK.zero (by rw [← h0]; exact HK.out))
              have z5 : ¬ (0 : Int) < (k : Int) := by omega
              have HK00 := Lib.hid h0
              clear hll h0 hki
              go_upto_region 17 with fail
              refine wp_region_phy (fun a b => Below a.heap.size a b) (fun h k => h.trans (k.mono h.size)) ((Below.refl _ _).drew) (by kernel_rfl) (by kernel_rfl) (by kernel_rfl) (by kernel_rfl) (phiT (fun i => ([some (.int .i64 (k : Int)), some (.bool false), some (.bool false), some (undef), some (undef), some (undef), some (undef), some (undef), some (undef), some (undef), some (undef), some (undef), some (undef), some (.bool false)] : List (Option Value)).getD i none) (fun i v w => True)) (fun i v w w' h hb => ?_) ⟨?_, ?_, ?_, ?_, ?_, ?_, ?_, ?_, ?_, ?_, ?_, ?_, ?_, ?_, trivial⟩ ?_
              · unfold phiT at h ⊢
                split
                · next u hu => rw [hu] at h; exact h
                · next hu =>
                  rw [hu] at h
                  exact True.intro
              · intro x w1 bA hT hdep hold hb
                refine .inl ⟨trivial, ?_⟩
                have e11 : bA.tmps[11]?.getD undef = .int .i64 (k : Int) := hb 11
                refine phx_run (.int .i64 (k : Int)) ?_ (Below.refl _ _) rfl
                clear hb hdep hold
                go_simp
              · intro x w1 bA hT hdep hold hb
                refine .inl ⟨trivial, ?_⟩
                have e57 : bA.tmps[57]?.getD undef = .int .i64 (k : Int) := (hb 57).trans (hdep 0 (by decide))
                have zk := HK00.out
                refine phx_run (.bool false) ?_ (Below.refl _ _) rfl
                clear hb hdep hold
                go_simp
              · intro x w1 bA hT hdep hold hb
                refine .inl ⟨trivial, ?_⟩
                have e58 : bA.tmps[58]?.getD undef = .bool false := (hb 58).trans (hdep 1 (by decide))
                refine phx_run (.bool false) ?_ (Below.refl _ _) rfl
                clear hb hdep hold
                go_simp
              · intro x w1 bA hT hdep hold hb
                exact .inr ⟨⟨59, rfl, .inl ((hb 59).trans (hdep 2 (by decide)))⟩, rfl⟩
              · intro x w1 bA hT hdep hold hb
                exact .inr ⟨⟨59, rfl, .inl ((hb 59).trans (hdep 2 (by decide)))⟩, rfl⟩
              · intro x w1 bA hT hdep hold hb
                exact .inr ⟨⟨59, rfl, .inl ((hb 59).trans (hdep 2 (by decide)))⟩, rfl⟩
              · intro x w1 bA hT hdep hold hb
                exact .inr ⟨⟨59, rfl, .inl ((hb 59).trans (hdep 2 (by decide)))⟩, rfl⟩
              · intro x w1 bA hT hdep hold hb
                exact .inr ⟨⟨59, rfl, .inl ((hb 59).trans (hdep 2 (by decide)))⟩, rfl⟩
              · intro x w1 bA hT hdep hold hb
                exact .inr ⟨⟨59, rfl, .inl ((hb 59).trans (hdep 2 (by decide)))⟩, rfl⟩
              · intro x w1 bA hT hdep hold hb
                exact .inr ⟨⟨59, rfl, .inl ((hb 59).trans (hdep 2 (by decide)))⟩, rfl⟩
              · intro x w1 bA hT hdep hold hb
                exact .inr ⟨⟨59, rfl, .inl ((hb 59).trans (hdep 2 (by decide)))⟩, rfl⟩
              · intro x w1 bA hT hdep hold hb
                exact .inr ⟨⟨59, rfl, .inl ((hb 59).trans (hdep 2 (by decide)))⟩, rfl⟩
              · intro x w1 bA hT hdep hold hb
                exact .inr ⟨⟨59, rfl, .inl ((hb 59).trans (hdep 2 (by decide)))⟩, rfl⟩
              · intro x w1 bA hT hdep hold hb
                refine .inl ⟨trivial, ?_⟩
                have e59 : bA.tmps[59]?.getD undef = .bool false := (hb 59).trans (hdep 2 (by decide))
                refine phx_run (.bool false) ?_ (Below.refl _ _) rfl
                clear hb hdep hold
                go_simp
              intro x w1 hT hall
              have x0e : x 0 = .int .i64 (k : Int) := hall 0 (by decide)
              have x1e : x 1 = .bool false := hall 1 (by decide)
              have x2e : x 2 = .bool false := hall 2 (by decide)
              have x3e : x 3 = undef := hall 3 (by decide)
              have x4e : x 4 = undef := hall 4 (by decide)
              have x5e : x 5 = undef := hall 5 (by decide)
              have x6e : x 6 = undef := hall 6 (by decide)
              have x7e : x 7 = undef := hall 7 (by decide)
              have x8e : x 8 = undef := hall 8 (by decide)
              have x9e : x 9 = undef := hall 9 (by decide)
              have x10e : x 10 = undef := hall 10 (by decide)
              have x11e : x 11 = undef := hall 11 (by decide)
              have x12e : x 12 = undef := hall 12 (by decide)
              have x13e : x 13 = .bool false := hall 13 (by decide)
              simp only [putAll, dstOf, Act.put, List.map_cons, List.map_nil, List.setIfInBounds_toArray, List.set_cons_succ, List.set_cons_zero, Nat.reduceAdd, x0e, x1e, x2e, x3e, x4e, x5e, x6e, x7e, x8e, x9e, x10e, x11e, x12e, x13e]
              clear x0e x1e x2e x3e x4e x5e x6e x7e x8e x9e x10e x11e x12e x13e hall
              have HF5 := Lib.hid (HF.out.below hT)
              clear hT HF HK
              go_wp2_with fail
              go_roundw
              case rel => exact ⟨i + 1, l, by go_num, by omega, by omega, HF5, HI2⟩
              case measure => simp [intOf]; omega
            · have hk0 : 0 < k := by omega
              have hkl : k < l.length := by omega
              have HF' : FwI n0 (.slice A nX c) (.slice A' nO c') w wr (.slice (some ⟨b, o, none⟩) l.length co) l := by rw [hll]; exact HF.out
              obtain ⟨⟨⟨C0, p0, q0⟩, ⟨C1, p1, q1⟩⟩, ⟨⟨D0, r0, s0⟩, ⟨D1, r1, s1⟩⟩, x0, x1, y0, y1, gx, gy, _, _⟩ := HF'.swap hkl hk0
              obtain ⟨q, hq⟩ : ∃ q, q = k - 1 := ⟨_, rfl⟩
              rw [← hq] at y0 y1 gy
              have hvx : ∀ a, a < l.length → VdG (gd l a) := fun a ha => (rea_facts HVD.out (HRC.out _ ((HK.out.mem _).1 (mem_gd.2 ⟨a, ha, rfl⟩)))).1
              have vx := hvx k hkl
              have vy := hvx q (by omega)
              obtain ⟨bb, hbb⟩ : ∃ bb, bb = befB (gd l k) (gd l q) := ⟨_, rfl⟩
              have HBF := Lib.hid (fun W (hb : Below wr.heap.size wr W) => (before_any (.slice C0 p0 q0) (.slice C1 p1 q1) (.slice D0 r0 s0) (.slice D1 r1 s1) (gd l k).1 (gd l k).2 (gd l q).1 (gd l q).2 W (gx.1.below hb) (gx.2.below hb) (gy.1.below hb) (gy.2.below hb) (by have := vx.most; omega) (vx.len.symm) (by have := vy.most; omega) (vy.len.symm)).mono fun e w' (h : _ ∧ _) => show e = .returned (.bool bb) ∧ Below W.heap.size W w' from ⟨by rw [h.1, hbb], h.2⟩)
              have HBB := Lib.hid hbb
              have HQK := Lib.hid hq
              have HLL := Lib.hid hll
              have HZQ := Lib.hid (show IntKind.i64.wrap ((k : Int) - 1) = (q : Int) ∧ IntKind.i64.wrap (q : Int) = (q : Int) by
                have e : (k : Int) - 1 = (q : Int) := by omega
                rw [e]
                exact ⟨IntWalk.i64_in _ (by omega), IntWalk.i64_in _ (by omega)⟩)
              have z1 : (0 : Int) < (k : Int) := by omega
              have z2 : (k : Int) < (n : Int) := by omega
              have z3 : (q : Int) < (n : Int) := by omega
              have z4 : (k : Int) - 1 = (q : Int) := by omega
              simp only [sv] at x0 x1 y0 y1
              clear hbb vx vy hvx gx gy HF' hq hll hkl hki hlt2 hi1 hin
              go_upto_region 17 with fail
              clear z4
              refine wp_region_phy (fun a b => Below a.heap.size a b) (fun h k => h.trans (k.mono h.size)) ((Below.refl _ _).drew) (by kernel_rfl) (by kernel_rfl) (by kernel_rfl) (by kernel_rfl) (phiT (fun i => ([some (.int .i64 (k : Int)), some (.bool true), some (.bool true), some (.slice (some ⟨b, o, none⟩) n co), some (.int .i64 (k : Int)), some (.pointer (some ⟨b, o + k * 2, none⟩)), some (.agg #[.slice C0 p0 q0, .slice C1 p1 q1]), some (.slice (some ⟨b, o, none⟩) n co), some (.int .i64 (k : Int)), some (.int .i64 (q : Int)), some (.pointer (some ⟨b, o + q * 2, none⟩)), some (.agg #[.slice D0 r0 s0, .slice D1 r1 s1]), some (.bool bb), some (.bool bb)] : List (Option Value)).getD i none) (fun i v w => True)) (fun i v w w' h hb => ?_) ⟨?_, ?_, ?_, ?_, ?_, ?_, ?_, ?_, ?_, ?_, ?_, ?_, ?_, ?_, trivial⟩ ?_
              · unfold phiT at h ⊢
                split
                · next u hu => rw [hu] at h; exact h
                · next hu =>
                  rw [hu] at h
                  exact True.intro
              · intro x w1 bA hT hdep hold hb
                refine .inl ⟨trivial, ?_⟩
                have e11 : bA.tmps[11]?.getD undef = .int .i64 (k : Int) := hb 11
                refine phx_run (.int .i64 (k : Int)) ?_ (Below.refl _ _) rfl
                clear hb hdep hold
                go_simp
              · intro x w1 bA hT hdep hold hb
                refine .inl ⟨trivial, ?_⟩
                have e57 : bA.tmps[57]?.getD undef = .int .i64 (k : Int) := (hb 57).trans (hdep 0 (by decide))
                refine phx_run (.bool true) ?_ (Below.refl _ _) rfl
                clear hb hdep hold
                go_simp
              · intro x w1 bA hT hdep hold hb
                refine .inl ⟨trivial, ?_⟩
                have e58 : bA.tmps[58]?.getD undef = .bool true := (hb 58).trans (hdep 1 (by decide))
                refine phx_run (.bool true) ?_ (Below.refl _ _) rfl
                clear hb hdep hold
                go_simp
              · intro x w1 bA hT hdep hold hb
                refine .inl ⟨⟨59, rfl, (hb 59).trans (hdep 2 (by decide))⟩, ?_⟩
                have e6 : bA.tmps[6]?.getD undef = .slice (some ⟨b, o, none⟩) n co := hb 6
                refine phx_run (.slice (some ⟨b, o, none⟩) n co) ?_ (Below.refl _ _) rfl
                clear hb hdep hold
                go_simp
              · intro x w1 bA hT hdep hold hb
                refine .inl ⟨⟨59, rfl, (hb 59).trans (hdep 2 (by decide))⟩, ?_⟩
                have e11 : bA.tmps[11]?.getD undef = .int .i64 (k : Int) := hb 11
                refine phx_run (.int .i64 (k : Int)) ?_ (Below.refl _ _) rfl
                clear hb hdep hold
                go_simp
              · intro x w1 bA hT hdep hold hb
                refine .inl ⟨⟨59, rfl, (hb 59).trans (hdep 2 (by decide))⟩, ?_⟩
                have e60 : bA.tmps[60]?.getD undef = .slice (some ⟨b, o, none⟩) n co := (hb 60).trans (hdep 3 (by decide))
                have e61 : bA.tmps[61]?.getD undef = .int .i64 (k : Int) := (hb 61).trans (hdep 4 (by decide))
                refine phx_run (.pointer (some ⟨b, o + k * 2, none⟩)) ?_ (Below.refl _ _) rfl
                clear hb hdep hold
                go_simp
              · intro x w1 bA hT hdep hold hb
                refine .inl ⟨⟨59, rfl, (hb 59).trans (hdep 2 (by decide))⟩, ?_⟩
                have e62 : bA.tmps[62]?.getD undef = .pointer (some ⟨b, o + k * 2, none⟩) := (hb 62).trans (hdep 5 (by decide))
                have cc0 := (hT.cell (block_lt_of_cell x0)).trans x0
                have cc1 := (hT.cell (block_lt_of_cell x1)).trans x1
                refine phx_run (.agg #[.slice C0 p0 q0, .slice C1 p1 q1]) ?_ (Below.refl _ _) rfl
                clear hb hdep hold
                go_simp
              · intro x w1 bA hT hdep hold hb
                refine .inl ⟨⟨59, rfl, (hb 59).trans (hdep 2 (by decide))⟩, ?_⟩
                have e6 : bA.tmps[6]?.getD undef = .slice (some ⟨b, o, none⟩) n co := hb 6
                refine phx_run (.slice (some ⟨b, o, none⟩) n co) ?_ (Below.refl _ _) rfl
                clear hb hdep hold
                go_simp
              · intro x w1 bA hT hdep hold hb
                refine .inl ⟨⟨59, rfl, (hb 59).trans (hdep 2 (by decide))⟩, ?_⟩
                have e11 : bA.tmps[11]?.getD undef = .int .i64 (k : Int) := hb 11
                refine phx_run (.int .i64 (k : Int)) ?_ (Below.refl _ _) rfl
                clear hb hdep hold
                go_simp
              · intro x w1 bA hT hdep hold hb
                refine .inl ⟨⟨59, rfl, (hb 59).trans (hdep 2 (by decide))⟩, ?_⟩
                have e65 : bA.tmps[65]?.getD undef = .int .i64 (k : Int) := (hb 65).trans (hdep 8 (by decide))
                have zz := HZQ.out.1
                have zy := HZQ.out.2
                refine phx_run (.int .i64 (q : Int)) ?_ (Below.refl _ _) rfl
                clear hb hdep hold
                go_simp
              · intro x w1 bA hT hdep hold hb
                refine .inl ⟨⟨59, rfl, (hb 59).trans (hdep 2 (by decide))⟩, ?_⟩
                have e64 : bA.tmps[64]?.getD undef = .slice (some ⟨b, o, none⟩) n co := (hb 64).trans (hdep 7 (by decide))
                have e66 : bA.tmps[66]?.getD undef = .int .i64 (q : Int) := (hb 66).trans (hdep 9 (by decide))
                refine phx_run (.pointer (some ⟨b, o + q * 2, none⟩)) ?_ (Below.refl _ _) rfl
                clear hb hdep hold
                go_simp
              · intro x w1 bA hT hdep hold hb
                refine .inl ⟨⟨59, rfl, (hb 59).trans (hdep 2 (by decide))⟩, ?_⟩
                have e67 : bA.tmps[67]?.getD undef = .pointer (some ⟨b, o + q * 2, none⟩) := (hb 67).trans (hdep 10 (by decide))
                have cc0 := (hT.cell (block_lt_of_cell y0)).trans y0
                have cc1 := (hT.cell (block_lt_of_cell y1)).trans y1
                refine phx_run (.agg #[.slice D0 r0 s0, .slice D1 r1 s1]) ?_ (Below.refl _ _) rfl
                clear hb hdep hold
                go_simp
              · intro x w1 bA hT hdep hold hb
                refine .inl ⟨⟨59, rfl, (hb 59).trans (hdep 2 (by decide))⟩, ?_⟩
                have e63 : bA.tmps[63]?.getD undef = .agg #[.slice C0 p0 q0, .slice C1 p1 q1] := (hb 63).trans (hdep 6 (by decide))
                have e68 : bA.tmps[68]?.getD undef = .agg #[.slice D0 r0 s0, .slice D1 r1 s1] := (hb 68).trans (hdep 11 (by decide))
                refine phx_call ?_ ((HBF.out w1 hT).mono fun e w' h => ⟨_, h.1, h.2, rfl⟩)
                clear hb hdep hold
                go_simp
              · intro x w1 bA hT hdep hold hb
                refine .inl ⟨trivial, ?_⟩
                have e59 : bA.tmps[59]?.getD undef = .bool true := (hb 59).trans (hdep 2 (by decide))
                have e69 : bA.tmps[69]?.getD undef = .bool bb := (hb 69).trans (hdep 12 (by decide))
                refine phx_run (.bool bb) ?_ (Below.refl _ _) rfl
                clear hb hdep hold
                go_simp
              intro x w1 hT hall
              have x0e : x 0 = .int .i64 (k : Int) := hall 0 (by decide)
              have x1e : x 1 = .bool true := hall 1 (by decide)
              have x2e : x 2 = .bool true := hall 2 (by decide)
              have x3e : x 3 = .slice (some ⟨b, o, none⟩) n co := hall 3 (by decide)
              have x4e : x 4 = .int .i64 (k : Int) := hall 4 (by decide)
              have x5e : x 5 = .pointer (some ⟨b, o + k * 2, none⟩) := hall 5 (by decide)
              have x6e : x 6 = .agg #[.slice C0 p0 q0, .slice C1 p1 q1] := hall 6 (by decide)
              have x7e : x 7 = .slice (some ⟨b, o, none⟩) n co := hall 7 (by decide)
              have x8e : x 8 = .int .i64 (k : Int) := hall 8 (by decide)
              have x9e : x 9 = .int .i64 (q : Int) := hall 9 (by decide)
              have x10e : x 10 = .pointer (some ⟨b, o + q * 2, none⟩) := hall 10 (by decide)
              have x11e : x 11 = .agg #[.slice D0 r0 s0, .slice D1 r1 s1] := hall 11 (by decide)
              have x12e : x 12 = .bool bb := hall 12 (by decide)
              have x13e : x 13 = .bool bb := hall 13 (by decide)
              simp only [putAll, dstOf, Act.put, List.map_cons, List.map_nil, List.setIfInBounds_toArray, List.set_cons_succ, List.set_cons_zero, Nat.reduceAdd, x0e, x1e, x2e, x3e, x4e, x5e, x6e, x7e, x8e, x9e, x10e, x11e, x12e, x13e]
              clear x0e x1e x2e x3e x4e x5e x6e x7e x8e x9e x10e x11e x12e x13e hall
              have HF5 := Lib.hid (HF.out.below hT)
              clear hT HF HBF x0 x1 y0 y1
              have hkl : k < l.length := by rw [HLL.out]; omega
              have HNN := Lib.hid (And.intro z2 z3)
              clear z2 z3
              cases bb with
              | false =>
                have HI2 := Lib.hid (HK.out.stop hk0 (by rw [← HQK.out, ← HBB.out]; simp))
                have hle := HK.out.le
                have hlt3 := HK.out.lt
                rw [HLL.out] at hlt3
                clear hkl
                go_wp2_with fail
                go_roundw
                case rel => exact ⟨i + 1, l, by go_num, by omega, by omega, HF5, HI2⟩
                case measure => simp [intOf]; omega
              | true =>
                have HK2 := Lib.hid (show InK ls (swG l k) i q by rw [HQK.out]; exact HK.out.step hk0 (befB_iff.1 (by rw [← HQK.out]; exact HBB.out.symm)))
                have HF6 : FwI n0 (.slice A nX c) (.slice A' nO c') w w1 (.slice (some ⟨b, o, none⟩) l.length co) l := by rw [HLL.out]; exact HF5.out
                obtain ⟨⟨⟨C0, p0, q0⟩, ⟨C1, p1, q1⟩⟩, ⟨⟨D0, r0, s0⟩, ⟨D1, r1, s1⟩⟩, x0, x1, y0, y1, _, _, fz, hsw⟩ := HF6.swap hkl hk0
                rw [← HQK.out] at y0 y1 hsw
                rw [HLL.out] at hsw
                simp only [sv] at x0 x1 y0 y1 hsw
                have HSW := Lib.hid hsw
                have f0 := fz (o + k * 2)
                have f1 := fz (o + k * 2 + 1)
                have f2 := fz (o + q * 2)
                have f3 := fz (o + q * 2 + 1)
                have z2 := HNN.out.1
                have z3 := HNN.out.2
                have z5 := HZQ.out.1
                have z6 := HZQ.out.2
                have z4 : (k : Int) - 1 = (q : Int) := by have := HQK.out; omega
                clear hsw fz HF6 HF5
                go_wp2_with fail
                go_region
                have HS7 := Lib.hid (HSW.out.below ((Below.refl _ _).drew))
                have hqi : q ≤ i := by have := HK2.out.le; omega
                clear x0 x1 y0 y1 f0 f1 f2 f3 z2 z3 HSW
                generalize World.drew _ = w7 at HS7 ⊢
                go_wp2_with fail
                go_roundw
                case rel => exact ⟨q, swG l k, by first | rfl | go_num | (rw [z5]), hqi, HS7, HK2⟩
                case measure => first | (simp [intOf]; omega) | (rw [z5]; simp [intOf]; omega)
        · obtain rfl : i = n := by omega
          have HSR := Lib.hid (show IsR (X, O) l by
            refine ⟨InI.fin (ls0 := ls) (by rw [hll]; exact HIN.out), fun z => (HIN.out.mem z).trans ⟨HRC.out z, HALL.out z⟩⟩)
          have HLN := Lib.hid hll
          clear hll
          by_cases hm : (i : Int) ≤ most
          · have z3 : decide ((i : Int) ≤ most) = true := by simpa using hm
            have HM := Lib.hid hm
            go_wp2_with fail
            refine bodyPost_ret (results_tmp2 rfl _ _ _) rfl ?_
            exact ⟨by rw [← HN0.out]; exact HF.out.bel, _, _, _, l, true, rfl, fun _ => ⟨HSR.out, HF.out.gds, by rw [HLN.out]; exact HM.out⟩, fun h => (by cases h)⟩
          · have z3 : decide ((i : Int) ≤ most) = false := by simpa using hm
            have HM := Lib.hid hm
            go_wp2_with fail
            refine bodyPost_ret (results_tmp2 rfl _ _ _) rfl ?_
            exact ⟨by rw [← HN0.out]; exact HF.out.bel, _, _, _, l, false, rfl, fun h => (by cases h), fun _ => ⟨srt_nd HSR.out.1, fun z hz => (HSR.out.2 z).1 hz, by have := HM.out; rw [HLN.out]; omega⟩⟩
end Go.Proofs.YteliflcbegcdlaaGreatDoor
