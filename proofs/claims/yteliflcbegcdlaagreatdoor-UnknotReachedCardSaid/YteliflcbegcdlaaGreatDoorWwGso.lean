/- package unknot: slices.SortFunc at grids. -/
import Derived.Test.YteliflcbegcdlaaGreatDoorWwGcp
import Derived.Test.YteliflcbegcdlaaGreatDoorWwShs
namespace Go.Proofs.YteliflcbegcdlaaGreatDoor
open Go.RowKit Go.Shelf Go.Lib Go.Sort
set_option linter.unusedVariables false
/-- the value reads as the list of grids -/
def Gds (w : World) (v : Value) (gs : List Gd) : Prop :=
  ∃ A c, v = .slice A gs.length c ∧ gs.length ≤ c ∧ ∀ (k : Nat) g, gs[k]? = some g → ∃ b o q, A = some ⟨b, o, none⟩ ∧ w.cell? ⟨b, o + k * 2, none⟩ = some (sv q.1) ∧ w.cell? ⟨b, o + k * 2 + 1, none⟩ = some (sv q.2) ∧ GvI w q g
theorem GvI.below {w w' : World} {p : GV} {g : Gd} (h : GvI w p g) (hb : Go.RowKit.Below w.heap.size w w') : GvI w' p g := ⟨Ints.below h.1 hb, Ints.below h.2 hb⟩
theorem Gds.below {w w' : World} {v : Value} {gs : List Gd} (h : Gds w v gs) (hb : Go.RowKit.Below w.heap.size w w') : Gds w' v gs := by
  obtain ⟨A, c, e, hc, hx⟩ := h
  refine ⟨A, c, e, hc, fun k g hk => ?_⟩
  obtain ⟨b, o, q, e1, h1, h2, h3⟩ := hx k g hk
  have hlt := block_lt_of_cell h1
  exact ⟨b, o, q, e1, (hb.cell hlt).trans h1, (hb.cell (p := ⟨b, o + k * 2 + 1, none⟩) hlt).trans h2, h3.below hb⟩
/-- the elements, as the sort sees them -/
structure GA (w : World) where
  p : GV
  g : Gd
  ok : GvI w p g
  l1 : g.1.length ≤ 1000000
  l2 : g.2.length ≤ 1000000
theorem ints_nil (w : World) : Ints w (.slice none 0 0) [] := ⟨none, 0, rfl, Nat.le_refl _, fun k x h => by simp at h⟩
instance (w : World) : Inhabited (GA w) := ⟨⟨((none, 0, 0), (none, 0, 0)), ([], []), ⟨ints_nil w, ints_nil w⟩, by simp, by simp⟩⟩
def encA {w : World} (x : GA w) : List Value := eG x.p
def cfA {w : World} (x y : GA w) : Int := cmpG x.g y.g
theorem cfA_swo (w : World) : SWO (ltOf (cfA (w := w))) where
  irrefl x := by
    show decide (cmpG x.g x.g < 0) = false
    rw [cmpG_self]; rfl
  trans x y z h1 h2 := by
    have a : cmpG x.g y.g < 0 := of_decide_eq_true h1
    have b : cmpG y.g z.g < 0 := of_decide_eq_true h2
    exact decide_eq_true (cmpG_trans a b)
  ntrans x y z h1 h2 := by
    have a : ¬ cmpG x.g y.g < 0 := of_decide_eq_false h1
    have b : ¬ cmpG y.g z.g < 0 := of_decide_eq_false h2
    refine decide_eq_false (fun c => ?_)
    have c' : cmpG x.g z.g < 0 := c
    have d := cmpG_anti x.g y.g
    by_cases e : cmpG x.g y.g = 0
    · rw [cmpG_zero e] at c'; exact b c'
    · exact b (cmpG_trans (by omega) c')
theorem sortWG_heap {α : Type} {enc : α → List Value} {k : Nat} {w : World} {g o n : Nat} {d : Array α} {os : Array Obj} {q : Nat} [Inhabited α] (h1 : q ≠ g) (h2 : q < w.heap.size) : (sortWorldK enc k w g o n d os).heap[q]? = w.heap[q]? := by
  unfold sortWorldK Sort.grow putRowK putRow mapBlock Sort.ahead
  show ((w.heap.modify g _) ++ os)[q]? = w.heap[q]?
  rw [Array.getElem?_append_left (by simpa using h2), Array.getElem?_modify, if_neg (fun e => h1 e.symm)]
theorem sortWG_below {α : Type} {enc : α → List Value} {k : Nat} {w : World} {g o n base : Nat} {d : Array α} {os : Array Obj} [Inhabited α] (hb : base ≤ g) (hg : g < w.heap.size) : Go.RowKit.Below base w (sortWorldK enc k w g o n d os) := by
  refine ⟨rfl, rfl, rfl, ?_, fun q hq => sortWG_heap (by omega) (by omega)⟩
  unfold sortWorldK Sort.grow putRowK putRow mapBlock Sort.ahead
  show w.heap.size ≤ ((w.heap.modify g _) ++ os).size
  simp
theorem eGflat_get : ∀ (l : List GV) (k j : Nat) (h : k < l.length), j < 2 → (l.flatMap eG)[k * 2 + j]? = (eG l[k])[j]? := by
  intro l
  induction l with
  | nil => intro k j h; simp at h
  | cons m l ih =>
    intro k j h hj
    rw [List.flatMap_cons]
    cases k with
    | zero => rw [List.getElem?_append_left (by simp [eG]; omega)]; simp
    | succ k =>
      rw [List.getElem?_append_right (by simp [eG]; omega)]
      have := ih k j (by simpa using h) hj
      rw [show (k + 1) * 2 + j - (eG m).length = k * 2 + j from by simp [eG]; omega, this]
      simp
theorem al_ga {w : World} : ∀ {ps : List GV} {gs : List Gd}, Al w ps gs → (∀ g ∈ gs, g.1.length ≤ 1000000 ∧ g.2.length ≤ 1000000) → ∃ L : List (GA w), L.map GA.p = ps ∧ L.map GA.g = gs
  | [], [], _, _ => ⟨[], rfl, rfl⟩
  | p :: ps, g :: gs, h, hl => by
    obtain ⟨L, h1, h2⟩ := al_ga h.2 fun x hx => hl x (by simp [hx])
    exact ⟨⟨p, g, h.1, (hl g (by simp)).1, (hl g (by simp)).2⟩ :: L, by simp [h1], by simp [h2]⟩
  | [], g :: gs, h, _ => h.elim
  | p :: ps, [], h, _ => h.elim
/-- in order -/
def SrtG (gs : List Gd) : Prop := gs.Pairwise (fun a b => ¬ cmpG b a < 0)
theorem sortG_any (base : Nat) (v : Value) (ps : List GV) (gs : List Gd) (w : World) (hq : QA 24 2 eG base w v ps) (ha : Al w ps gs) (h0 : 0 < gs.length) (hn : gs.length ≤ 1000000000) (hl : ∀ g ∈ gs, g.1.length ≤ 1000000 ∧ g.2.length ≤ 1000000) :
    Calls Tryz.prog 16 #[v, .func (.func 17) #[] #[]] w fun e w' => e = .returned (.tuple #[]) ∧ (∃ gs', gs'.Perm gs ∧ SrtG gs' ∧ Gds w' v gs') ∧ Go.RowKit.Below base w w' ∧ ∀ k, sBlk v ≠ some k → k < w.heap.size → w'.heap[k]? = w.heap[k]? := by
  obtain ⟨L, hp, hg⟩ := al_ga ha hl
  have hlen : ps.length = gs.length := ha.len
  have hLg : L.length = gs.length := by rw [← hg, List.length_map]
  have hno := fun {k i : Nat} {q : Value} => QA.noint hq (k := k) (i := i) (q := q)
  rcases hq with ⟨_, h⟩ | ⟨g, o, c, cur, rfl, hb, hh, hc, hs, hsl, hx⟩
  · rw [h] at hlen; simp at hlen; omega
  have hlt : g < w.heap.size := (Array.getElem?_eq_some_iff.1 hh).1
  have hH : HoldsK encA 2 w g o L.toArray := by
    refine fun j hj => ⟨?_, frozen_of_row w g _ _ _ hh⟩
    rw [size_flatK] at hj
    have hj2 : j < L.length * 2 := by simpa using hj
    rw [get_flatK _ _ _ _ hj, cell_of_row w g _ cur _ (0, 0) hh]
    have hk : j / 2 < ps.length := by omega
    have h1 := eGflat_get ps (j / 2) (j % 2) hk (by omega)
    rw [show j / 2 * 2 + j % 2 = j by omega] at h1
    have h2 : (L.toArray)[j / 2]! = L[j / 2]'(by omega) := by
      rw [getElem!_pos L.toArray (j / 2) (by simp; omega)]; simp
    have hkL : j / 2 < L.length := by omega
    have h3 : ps[j / 2] = (L[j / 2]'hkL).p := by
      have e1 : (L.map GA.p)[j / 2]? = some (L[j / 2]'hkL).p := by rw [List.getElem?_map, List.getElem?_eq_getElem hkL]; rfl
      rw [hp, List.getElem?_eq_getElem hk] at e1
      injection e1
    rw [h2]
    refine hx j _ ?_
    rw [h1, h3]
    show (eG _)[j % 2]? = some (eG _)[j % 2]!
    rcases (by omega : j % 2 = 0 ∨ j % 2 = 1) with q | q <;> rw [q] <;> rfl
  have key : ∀ {p : GV} {a : Gd} {n : Nat} {d : Array (GA w)} {os : Array Obj}, GvI w p a → GvI (sortWorldK encA 2 w g o n d os) p a := by
    have k1 : ∀ {v : Value} {xs : List Int} {n : Nat} {d : Array (GA w)} {os : Array Obj}, Ints w v xs → Ints (sortWorldK encA 2 w g o n d os) v xs := by
      rintro v xs n d os ⟨A0, c0, e, hc0, hi⟩
      refine ⟨A0, c0, e, hc0, fun j x hj => ?_⟩
      obtain ⟨b, off, e1, hcell⟩ := hi j x hj
      refine ⟨b, off, e1, (World.cell?_of_block (sortWG_heap ?_ (block_lt_of_cell hcell))).trans hcell⟩
      rintro rfl
      obtain ⟨_, _, _, e⟩ := hno rfl hcell
      cases e
    intro p a n d os h
    exact ⟨k1 h.1, k1 h.2⟩
  have eg : ∀ args w, (callFunc 17 args).run Tryz.prog w = .ok (.enter 17 args) w := enters_of Tryz.func17 (by kernel_rfl) rfl
  have hcon := AnyQ.slices_SortFunc (α := GA w) Tryz.sortGR 2 Tryz.isAgg24 Tryz.sizeOf24 encA (fun _ => rfl) (fun x q hv => elG.one x.p q hv) cfA (cfA_swo w) 17 #[] g o c L.toArray w eg (fun _ _ _ _ x y => gcmp_any x.p y.p x.g y.g _ (key x.ok) (key y.ok) x.l1 x.l2 y.l1 y.l2) hH hlt (by simp; omega)
  rw [show L.toArray.size = ps.length by simp; omega] at hcon
  refine Calls.mono hcon ?_
  rintro e w' ⟨rfl, d', n, os, hpm, hst, rfl⟩
  have hsz : d'.size = gs.length := by have := hpm.1; simp at this; omega
  have hperm : d'.toList.Perm L := by
    have h1 := hpm.2.2
    have h2 : (List.take ps.length d'.toList).Perm (List.take ps.length L) := by simpa using h1
    rwa [List.take_of_length_le (by simp; omega), List.take_of_length_le (by omega)] at h2
  have hd : HoldsK encA 2 (sortWorldK encA 2 w g o n d' os) g o d' := holdsK_sortWorldK_c encA 2 w g o L.toArray d' n os hH hlt (by simp; omega)
  refine ⟨rfl, ⟨d'.toList.map GA.g, by rw [← hg]; exact hperm.map _, ?_, ?_⟩, sortWG_below hb hlt, fun k h1 h2 => sortWG_heap (fun e => h1 (by rw [e]; rfl)) h2⟩
  · unfold SrtG
    rw [List.pairwise_iff_getElem]
    intro i j hi hj hij hk
    have hi2 : i < d'.size := by simpa using hi
    have hj2 : j < d'.size := by simpa using hj
    have h1 := hst i j (Nat.zero_le _) hij (by omega)
    rw [getElem!_pos d' i hi2, getElem!_pos d' j hj2] at h1
    have h2 : ¬ cmpG d'[j].g d'[i].g < 0 := of_decide_eq_false h1
    simp only [List.getElem_map, Array.getElem_toList] at hk
    exact h2 hk
  · refine ⟨some ⟨g, o, none⟩, c, by rw [show (d'.toList.map GA.g).length = ps.length by rw [List.length_map]; simp; omega], by rw [List.length_map, Array.length_toList, hsz]; omega, fun k x hk => ?_⟩
    have hk2 : k < d'.size := by have := (List.getElem?_eq_some_iff.1 hk).1; simpa using this
    have e1 : x = d'[k].g := by
      rw [List.getElem?_map, List.getElem?_eq_getElem (by simpa using hk2)] at hk
      simp at hk
      exact hk.symm
    have hc2 : ∀ r, r < 2 → (sortWorldK encA 2 w g o n d' os).cell? ⟨g, o + (k * 2 + r), none⟩ = some (eG d'[k].p)[r]! := fun r hr => by
      have h1 := (hd (k * 2 + r) (by rw [size_flatK]; omega)).1
      rw [get_flatK _ _ _ _ (by omega), show (k * 2 + r) / 2 = k by omega, show (k * 2 + r) % 2 = r by omega, getElem!_pos d' k hk2] at h1
      exact h1
    refine ⟨g, o, d'[k].p, rfl, hc2 0 (by omega), hc2 1 (by omega), ?_⟩
    rw [e1]
    exact key d'[k].ok
end Go.Proofs.YteliflcbegcdlaaGreatDoor
