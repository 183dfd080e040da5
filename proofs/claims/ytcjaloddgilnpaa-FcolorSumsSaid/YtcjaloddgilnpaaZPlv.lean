/- Forests in graphs that are told by half-edges; a function on the edges is a difference of a function of the nodes (plain). -/
/- Planar maps: what has no source at a crossing is a difference of a function of the faces (plain). -/
/- A valid diagram is a planar map (plain). -/
import Derived.Test.YtcjaloddgilnpaaZNxr
import Derived.Test.YtcjaloddgilnpaaZAcp
namespace Go.Proofs.Ytcjaloddgilnpaa
set_option linter.unusedVariables false

/-- the labels when the edge of h has been joined -/
def jn (ν α : Nat → Nat) (lab : Nat → Nat) (h : Nat) : Nat → Nat := fun x => if lab x = lab (ν (α h)) then lab (ν h) else lab x
def prc (ν α : Nat → Nat) : List Nat → Nat → Nat
  | [] => fun x => x
  | h :: es => jn ν α (prc ν α es) h
/-- the edges that joined two classes -/
def frs (ν α : Nat → Nat) : List Nat → List Nat
  | [] => []
  | h :: es => if prc ν α es (ν h) = prc ν α es (ν (α h)) then frs ν α es else h :: frs ν α es
def Fos (ν α : Nat → Nat) : List Nat → Prop
  | [] => True
  | h :: T => prc ν α T (ν h) ≠ prc ν α T (ν (α h)) ∧ Fos ν α T
section
variable {ν α : Nat → Nat}
theorem jn_same {lab : Nat → Nat} {h : Nat} (e : lab (ν h) = lab (ν (α h))) : jn ν α lab h = lab := by
  funext x; unfold jn; split
  · next q => rw [e, q]
  · rfl
theorem prc_frs : ∀ es, prc ν α (frs ν α es) = prc ν α es
  | [] => rfl
  | h :: es => by
    rw [frs]
    split
    · next q => rw [prc_frs es, prc, jn_same q]
    · next q => rw [prc, prc_frs es, prc]
theorem frs_fst : ∀ es, Fos ν α (frs ν α es)
  | [] => trivial
  | h :: es => by
    rw [frs]
    split
    · exact frs_fst es
    · next q => exact ⟨by rw [prc_frs]; exact q, frs_fst es⟩
theorem frs_sub : ∀ es h, h ∈ frs ν α es → h ∈ es
  | [], h, hh => hh
  | e :: es, h, hh => by
    rw [frs] at hh
    split at hh
    · exact List.mem_cons_of_mem _ (frs_sub es h hh)
    · rcases List.mem_cons.1 hh with q | q
      · rw [q]; exact List.mem_cons_self
      · exact List.mem_cons_of_mem _ (frs_sub es h q)
theorem frs_len : ∀ es, (frs ν α es).length ≤ es.length
  | [] => Nat.le_refl _
  | h :: es => by
    have := frs_len es
    rw [frs]; split <;> simp only [List.length_cons] <;> omega
theorem frs_all : ∀ es, (frs ν α es).length = es.length → frs ν α es = es
  | [], _ => rfl
  | h :: es, hl => by
    have := frs_len (ν := ν) (α := α) es
    rw [frs] at hl ⊢
    split at hl
    · simp only [List.length_cons] at hl; omega
    · next q => rw [if_neg q, frs_all es (by simpa using hl)]
theorem prc_mem : ∀ es h, h ∈ es → prc ν α es (ν h) = prc ν α es (ν (α h))
  | [], h, hh => by cases hh
  | e :: es, h, hh => by
    rw [prc]
    unfold jn
    rcases List.mem_cons.1 hh with q | q
    · subst q
      rw [if_pos rfl]
      split <;> rfl
    · have := prc_mem es h q
      rw [this]
theorem prc_idem : ∀ es x, prc ν α es (prc ν α es x) = prc ν α es x
  | [], x => rfl
  | h :: es, x => by
    have i1 := prc_idem es
    have key : ∀ y, prc ν α (h :: es) y = if prc ν α es y = prc ν α es (ν (α h)) then prc ν α es (ν h) else prc ν α es y := fun y => rfl
    rw [key x]
    by_cases q : prc ν α es x = prc ν α es (ν (α h))
    · rw [if_pos q, key, i1]
      split <;> rfl
    · rw [if_neg q, key, i1, if_neg q]
theorem prc_lt {V : Nat} : ∀ es x, (∀ h ∈ es, ν h < V) → x < V → prc ν α es x < V
  | [], x, _, hx => hx
  | h :: es, x, he, hx => by
    rw [prc]; unfold jn
    split
    · exact prc_lt es _ (fun q hq => he q (List.mem_cons_of_mem _ hq)) (he h List.mem_cons_self)
    · exact prc_lt es _ (fun q hq => he q (List.mem_cons_of_mem _ hq)) hx
/-- closed sets do not part what bears one label -/
theorem prc_closed {P : Nat → Prop} : ∀ es, (∀ h ∈ es, (P (ν h) ↔ P (ν (α h)))) → ∀ x y, prc ν α es x = prc ν α es y → (P x ↔ P y)
  | [], _, x, y, e => by
    have : x = y := e
    rw [this]
  | h :: es, hP, x, y, e => by
    have ih := prc_closed es (fun q hq => hP q (List.mem_cons_of_mem _ hq))
    have hh := hP h List.mem_cons_self
    rw [prc] at e
    unfold jn at e
    split at e
    · next q1 =>
      split at e
      · next q2 => exact ih x y (q1.trans q2.symm)
      · next q2 => exact (ih x _ q1).trans (hh.symm.trans (ih _ y e))
    · next q1 =>
      split at e
      · next q2 => exact (ih x _ e).trans (hh.trans (ih _ y q2.symm))
      · exact ih x y e
/-- how many labels there are -/
def rts (V : Nat) (lab : Nat → Nat) : Nat := cN V (fun x => decide (lab x = x))
theorem cN_del {V : Nat} {p q : Nat → Bool} {a : Nat} (ha : a < V) (hp : p a = true) (hq : ∀ x, x < V → q x = (p x && decide (x ≠ a))) : cN V q + 1 = cN V p := by
  induction V with
  | zero => omega
  | succ V ih =>
    rw [cN, cN]
    by_cases e : a = V
    · subst e
      have h1 : cN a q = cN a p := cN_congr (fun t ht => by rw [hq t (by omega)]; simp; intro _ ; omega)
      rw [h1, hq a (by omega), hp]; simp
    · have h1 := ih (by omega) (fun x hx => hq x (by omega))
      rw [hq V (by omega)]
      have h2 : decide (V ≠ a) = true := by simp; omega
      rw [h2, Bool.and_true]
      omega
theorem cN_all {V : Nat} {p : Nat → Bool} (h : ∀ x, x < V → p x = true) : cN V p = V := by
  rw [cN_congr (q := fun _ => true) (fun t ht => h t ht), cN_true]
theorem fst_rts {V : Nat} : ∀ T, Fos ν α T → (∀ h ∈ T, ν h < V ∧ ν (α h) < V) → rts V (prc ν α T) + T.length = V
  | [], _, _ => by
    unfold rts
    rw [cN_all (fun x _ => by simp [prc])]; rfl
  | h :: T, hf, hV => by
    have ih := fst_rts T hf.2 (fun q hq => hV q (List.mem_cons_of_mem _ hq))
    have hv := hV h List.mem_cons_self
    have hlt : prc ν α T (ν (α h)) < V := prc_lt T _ (fun q hq => (hV q (List.mem_cons_of_mem _ hq)).1) hv.2
    have i1 := prc_idem (ν := ν) (α := α) T
    have hd := cN_del (V := V) (p := fun x => decide (prc ν α T x = x)) (q := fun x => decide (prc ν α (h :: T) x = x)) hlt (by simp [i1]) (fun x _ => by
      have key : prc ν α (h :: T) x = if prc ν α T x = prc ν α T (ν (α h)) then prc ν α T (ν h) else prc ν α T x := rfl
      rw [Bool.eq_iff_iff]
      simp only [decide_eq_true_eq, Bool.and_eq_true]
      rw [key]
      constructor
      · intro e
        by_cases q : prc ν α T x = prc ν α T (ν (α h))
        · rw [if_pos q] at e
          exfalso
          apply hf.1
          rw [← q, ← e, i1]
        · rw [if_neg q] at e
          exact ⟨e, fun w => q (by rw [w, i1])⟩
      · rintro ⟨e, w⟩
        rw [if_neg (fun q => w (by rw [← e, q]))]
        exact e)
    unfold rts at ih ⊢
    simp only [List.length_cons]
    omega
/-- a potential along a forest -/
theorem fst_pot (g : Nat → Int) : ∀ T, Fos ν α T → ∃ r : Nat → Int, ∀ h ∈ T, r (ν h) - r (ν (α h)) = g h
  | [], _ => ⟨fun _ => 0, fun h hh => by cases hh⟩
  | h :: T, hf => by
    obtain ⟨r, hr⟩ := fst_pot g T hf.2
    refine ⟨fun x => r x + (if prc ν α T x = prc ν α T (ν (α h)) then r (ν h) - g h - r (ν (α h)) else 0), fun q hq => ?_⟩
    rcases List.mem_cons.1 hq with e | e
    · subst e
      simp only [if_pos, if_neg hf.1]
      omega
    · have h1 := hr q e
      have h2 := prc_mem (ν := ν) (α := α) T q e
      simp only [h2]
      omega
end
/-- sums over a permutation -/
theorem sumI_perm {N : Nat} {φ : Nat → Nat} (h1 : ∀ x, x < N → φ x < N) (h2 : ∀ x y, x < N → y < N → φ x = φ y → x = y) (F : Nat → Int) : sumI N (fun x => F (φ x)) = sumI N F := by
  have toL : ∀ (n : Nat) (f : Nat → Int), sumI n f = ((List.range n).map f).sum := by
    intro n f
    induction n with
    | zero => rfl
    | succ n ih => rw [sumI, ih, List.range_succ, List.map_append, List.sum_append]; simp
  rw [toL, toL]
  have hp : ((List.range N).map φ).Perm (List.range N) := by
    have hnd : ((List.range N).map φ).Nodup := by
      rw [List.Nodup, List.pairwise_map]
      refine (List.nodup_range (n := N)).imp_of_mem (fun {a b} ha hb hne he => hne ?_)
      exact h2 a b (List.mem_range.1 ha) (List.mem_range.1 hb) he
    have hsub : ∀ x ∈ (List.range N).map φ, x ∈ List.range N := by
      intro x hx
      obtain ⟨y, hy, rfl⟩ := List.mem_map.1 hx
      exact List.mem_range.2 (h1 y (List.mem_range.1 hy))
    have gen : ∀ (l k : List Nat), l.Nodup → (∀ x ∈ l, x ∈ k) → k.length ≤ l.length → l.Perm k := by
      intro l
      induction l with
      | nil => intro k _ _ hl; have : k = [] := List.eq_nil_of_length_eq_zero (by simpa using hl); rw [this]
      | cons a l ih =>
        intro k hd hs hl
        have hd' := List.nodup_cons.1 hd
        have ha := hs a (by simp)
        have hlen := List.length_erase_of_mem ha
        have hpos : 0 < k.length := List.length_pos_of_mem ha
        have h3 := ih (k.erase a) hd'.2 (fun x hx => by
          have hne : x ≠ a := fun e => hd'.1 (e ▸ hx)
          exact (List.mem_erase_of_ne hne).2 (hs x (by simp [hx]))) (by simp only [List.length_cons] at hl; omega)
        exact (h3.cons a).trans (List.perm_cons_erase ha).symm
    exact gen _ _ hnd hsub (by simp)
  have e1 : (List.range N).map (fun x => F (φ x)) = ((List.range N).map φ).map F := by rw [List.map_map]; rfl
  rw [e1]
  have hsp : ∀ (l k : List Int), l.Perm k → l.sum = k.sum := by
    intro l k h
    induction h with
    | nil => rfl
    | cons a _ ih => simp [ih]
    | swap a b l => simp only [List.sum_cons]; omega
    | trans _ _ h1 h2 => rw [h1, h2]
  exact hsp _ _ (hp.map F)
/-- an involution without fixed points -/
structure Inv2 (N : Nat) (α : Nat → Nat) : Prop where
  lt : ∀ h, h < N → α h < N
  inv : ∀ h, h < N → α (α h) = h
  ne : ∀ h, h < N → α h ≠ h
theorem Inv2.inj {N : Nat} {α : Nat → Nat} (k : Inv2 N α) : ∀ x y, x < N → y < N → α x = α y → x = y := fun x y hx hy e => by rw [← k.inv x hx, e, k.inv y hy]
/-- the two halves of each edge together -/
theorem sum_pairs {N : Nat} {α : Nat → Nat} (k : Inv2 N α) (w : Nat → Int) : sumI N w = sumI N (fun h => if h < α h then w h + w (α h) else 0) := by
  have e1 : sumI N (fun h => if α h < h then w h else 0) = sumI N (fun h => if h < α h then w (α h) else 0) := by
    rw [← sumI_perm k.lt k.inj (fun h => if α h < h then w h else 0)]
    exact sumI_congr (fun h hh => by
      show (if α (α h) < α h then w (α h) else 0) = _
      rw [k.inv h hh])
  have e2 : sumI N w = sumI N (fun h => (if h < α h then w h else 0) + (if α h < h then w h else 0)) := sumI_congr (fun h hh => by
    have := k.ne h hh
    by_cases q : h < α h
    · rw [if_pos q, if_neg (by omega)]; omega
    · rw [if_neg q, if_pos (by omega)]; omega)
  rw [e2, sumI_plus, e1, ← sumI_plus]
  exact sumI_congr (fun h _ => by
    by_cases q : h < α h
    · rw [if_pos q, if_pos q, if_pos q]
    · rw [if_neg q, if_neg q, if_neg q]; rfl)
/-- on a forest a function without sources is 0 -/
theorem forest_zero {N V : Nat} {ν α : Nat → Nat} (k : Inv2 N α) (hν : ∀ h, h < N → ν h < V) (m : Int) : ∀ (T : List Nat) (g : Nat → Int), Fos ν α T → (∀ h ∈ T, h < N) → (∀ h, h < N → m ∣ g h + g (α h)) → (∀ h, h < N → h ∉ T → α h ∉ T → m ∣ g h) →
    (∀ x, x < V → m ∣ sumI N (fun h => if ν h = x then g h else 0)) → ∀ h, h < N → m ∣ g h
  | [], g, _, _, _, hz, _ => fun h hh => hz h hh (by simp) (by simp)
  | e :: T, g, hf, hT, ha, hz, hd => by
    have heN := hT e List.mem_cons_self
    have heα := k.lt e heN
    -- the sum over a class of nodes
    have hcls : m ∣ sumI N (fun h => if prc ν α T (ν h) = prc ν α T (ν e) then g h else 0) := by
      have h1 : sumI N (fun h => if prc ν α T (ν h) = prc ν α T (ν e) then g h else 0) = sumI V (fun x => if prc ν α T x = prc ν α T (ν e) then sumI N (fun h => if ν h = x then g h else 0) else 0) := by
        have h2 : sumI V (fun x => if prc ν α T x = prc ν α T (ν e) then sumI N (fun h => if ν h = x then g h else 0) else 0) = sumI V (fun x => sumI N (fun h => if ν h = x then (if prc ν α T (ν h) = prc ν α T (ν e) then g h else 0) else 0)) := sumI_congr (fun x _ => by
          by_cases q : prc ν α T x = prc ν α T (ν e)
          · rw [if_pos q]
            exact sumI_congr (fun h _ => by
              by_cases w : ν h = x
              · rw [if_pos w, if_pos w, w, if_pos q]
              · rw [if_neg w, if_neg w])
          · rw [if_neg q]
            rw [sumI_congr (g := fun _ => 0) (fun h _ => by
              by_cases w : ν h = x
              · rw [if_pos w, w, if_neg q]
              · rw [if_neg w]), sumI_zero])
        rw [h2, sumI_swap]
        refine sumI_congr (fun h hh => ?_)
        rw [sumI_single (f := fun x => if ν h = x then (if prc ν α T (ν h) = prc ν α T (ν e) then g h else 0) else 0) (hν h hh) (fun x _ hne => if_neg (fun w => hne w.symm)), if_pos rfl]
      rw [h1]
      have h3 := sumI_mod (m := m) (C := V) (f := fun x => if prc ν α T x = prc ν α T (ν e) then sumI N (fun h => if ν h = x then g h else 0) else 0) (g := fun _ => 0) (fun x hx => by
        show m ∣ (if _ then _ else _) - 0
        rw [Int.sub_zero]
        split
        · exact hd x hx
        · exact Int.dvd_zero _)
      rwa [sumI_zero, Int.sub_zero] at h3
    have hge : m ∣ g e := by
      rw [sum_pairs k] at hcls
      -- all pairs but that of e give 0
      obtain ⟨e0, he0⟩ : ∃ e0, e0 = if e < α e then e else α e := ⟨_, rfl⟩
      have he0N : e0 < N := by rw [he0]; split <;> assumption
      have h4 := sumI_mod (m := m) (C := N) (f := fun h => if h < α h then (if prc ν α T (ν h) = prc ν α T (ν e) then g h else 0) + (if prc ν α T (ν (α h)) = prc ν α T (ν e) then g (α h) else 0) else 0) (g := fun h => if h = e0 then g e else 0) (fun h hh => by
        show m ∣ (if h < α h then _ else _) - (if h = e0 then g e else 0)
        by_cases q : h = e0
        · rw [if_pos q]
          by_cases w : e < α e
          · have hq : h = e := by rw [q, he0, if_pos w]
            rw [hq, if_pos w, if_pos rfl, if_neg (fun z => hf.1 z.symm)]
            exact ⟨0, by omega⟩
          · have hq : h = α e := by rw [q, he0, if_neg w]
            have hne := k.ne e heN
            rw [hq, k.inv e heN, if_pos (by omega), if_neg (fun z => hf.1 z.symm), if_pos rfl]
            exact ⟨0, by omega⟩
        · rw [if_neg q, Int.sub_zero]
          split
          · next w =>
            by_cases hm1 : h ∈ T
            · have := prc_mem (ν := ν) (α := α) T h hm1
              rw [← this]
              split
              · exact ha h hh
              · exact Int.dvd_zero _
            · by_cases hm2 : α h ∈ T
              · have := prc_mem (ν := ν) (α := α) T (α h) hm2
                rw [k.inv h hh] at this
                rw [this]
                split
                · exact ha h hh
                · exact Int.dvd_zero _
              · have hne1 : h ≠ e := fun z => q (by rw [he0, ← z, if_pos w])
                have hne2 : α h ≠ e := fun z => q (by
                  have : α e = h := by rw [← z, k.inv h hh]
                  rw [he0, this, if_neg (by omega)])
                have z1 := hz h hh (by simp [hne1, hm1]) (by simp [hne2, hm2])
                have z2 : m ∣ g (α h) := by
                  have := Int.dvd_sub (ha h hh) z1
                  rwa [show g h + g (α h) - g h = g (α h) by omega] at this
                refine Int.dvd_add ?_ ?_
                · split
                  · exact z1
                  · exact Int.dvd_zero _
                · split
                  · exact z2
                  · exact Int.dvd_zero _
          · exact Int.dvd_zero _)
      rw [sumI_single (f := fun h => if h = e0 then g e else 0) he0N (fun l _ hne => if_neg hne), if_pos rfl] at h4
      have h5 := Int.dvd_sub hcls h4
      rwa [show ∀ a b : Int, a - (a - b) = b from fun a b => by omega] at h5
    have hgα : m ∣ g (α e) := by
      have := Int.dvd_sub (ha e heN) hge
      rwa [show g e + g (α e) - g e = g (α e) by omega] at this
    exact forest_zero k hν m T g hf.2 (fun q hq => hT q (List.mem_cons_of_mem _ hq)) ha (fun h hh h1 h2 => by
      by_cases q1 : h = e
      · rw [q1]; exact hge
      · by_cases q2 : α h = e
        · have : h = α e := by rw [← q2, k.inv h hh]
          rw [this]; exact hgα
        · exact hz h hh (by simp [q1, h1]) (by simp [q2, h2])) hd
end Go.Proofs.Ytcjaloddgilnpaa

namespace Go.Proofs.Ytcjaloddgilnpaa
open Go.RowKit
set_option linter.unusedVariables false

/-- the edges that did not join -/
def nfr (ν α : Nat → Nat) : List Nat → List Nat
  | [] => []
  | h :: es => if prc ν α es (ν h) = prc ν α es (ν (α h)) then h :: nfr ν α es else nfr ν α es
theorem nfr_len {ν α : Nat → Nat} : ∀ es, (frs ν α es).length + (nfr ν α es).length = es.length
  | [] => rfl
  | h :: es => by
    have := nfr_len (ν := ν) (α := α) es
    rw [frs, nfr]
    split <;> simp only [List.length_cons] <;> omega
theorem nfr_or {ν α : Nat → Nat} : ∀ es h, h ∈ es → h ∈ frs ν α es ∨ h ∈ nfr ν α es
  | [], h, hh => by cases hh
  | e :: es, h, hh => by
    rw [frs, nfr]
    rcases List.mem_cons.1 hh with q | q
    · subst q
      split
      · exact Or.inr List.mem_cons_self
      · exact Or.inl List.mem_cons_self
    · rcases nfr_or es h q with w | w
      · left; split
        · exact w
        · exact List.mem_cons_of_mem _ w
      · right; split
        · exact List.mem_cons_of_mem _ w
        · exact w
theorem nfr_sub {ν α : Nat → Nat} : ∀ es h, h ∈ nfr ν α es → h ∈ es
  | [], h, hh => hh
  | e :: es, h, hh => by
    rw [nfr] at hh
    split at hh
    · rcases List.mem_cons.1 hh with q | q
      · rw [q]; exact List.mem_cons_self
      · exact List.mem_cons_of_mem _ (nfr_sub es h q)
    · exact List.mem_cons_of_mem _ (nfr_sub es h hh)
/-- the edges, each by its lesser half -/
def edg (N : Nat) (α : Nat → Nat) : List Nat := (List.range N).filter fun h => decide (h < α h)
theorem mem_edg {N : Nat} {α : Nat → Nat} {h : Nat} : h ∈ edg N α ↔ h < N ∧ h < α h := by
  unfold edg; rw [List.mem_filter, List.mem_range, decide_eq_true_eq]
theorem edg_or {N : Nat} {α : Nat → Nat} (k : Inv2 N α) {h : Nat} (hh : h < N) : h ∈ edg N α ∨ α h ∈ edg N α := by
  have := k.ne h hh
  by_cases q : h < α h
  · exact Or.inl (mem_edg.2 ⟨hh, q⟩)
  · right
    rw [mem_edg, k.inv h hh]
    exact ⟨k.lt h hh, by omega⟩
theorem edg_len {N : Nat} {α : Nat → Nat} (k : Inv2 N α) : 2 * (edg N α).length = N := by
  have h1 := sum_pairs k (fun _ => 1)
  have e1 : sumI N (fun _ => 1) = (N : Int) := by
    have : ∀ n : Nat, sumI n (fun _ => 1) = (n : Int) := by
      intro n
      induction n with
      | zero => rfl
      | succ n ih => rw [sumI, ih]; omega
    exact this N
  have e2 : sumI N (fun h => if h < α h then (1 : Int) + 1 else 0) = 2 * ((edg N α).length : Int) := by
    have : ∀ n : Nat, sumI n (fun h => if h < α h then (1 : Int) + 1 else 0) = 2 * (((List.range n).filter fun h => decide (h < α h)).length : Int) := by
      intro n
      induction n with
      | zero => rfl
      | succ n ih =>
        rw [sumI, ih, List.range_succ, List.filter_append, List.length_append]
        by_cases q : n < α n
        · simp [q]; omega
        · simp [q]
    exact this N
  rw [e1, e2] at h1
  omega
theorem mod4 (c s : Nat) (h : s < 4) : (4 * c + s) / 4 = c ∧ (4 * c + s) % 4 = s := by omega
/-- the sum over the four half-edges of a crossing -/
theorem sum_four {n c : Nat} (hc : c < n) (g : Nat → Int) : sumI (4 * n) (fun h => if h / 4 = c then g h else 0) = g (4 * c) + g (4 * c + 1) + g (4 * c + 2) + g (4 * c + 3) := by
  have key : ∀ x, sumI (4 * x) (fun h => if h / 4 = c then g h else 0) = if c < x then g (4 * c) + g (4 * c + 1) + g (4 * c + 2) + g (4 * c + 3) else 0 := by
    intro x
    induction x with
    | zero => rfl
    | succ x ih =>
      have e : 4 * (x + 1) = 4 * x + 1 + 1 + 1 + 1 := by omega
      rw [e, sumI, sumI, sumI, sumI, ih]
      have q0 : 4 * x / 4 = x := by omega
      have q1 : (4 * x + 1) / 4 = x := by omega
      have q2 : (4 * x + 1 + 1) / 4 = x := by omega
      have q3 : (4 * x + 1 + 1 + 1) / 4 = x := by omega
      simp only [q0, q1, q2, q3]
      by_cases w : x = c
      · subst w
        rw [if_neg (by omega), if_pos rfl, if_pos rfl, if_pos rfl, if_pos rfl, if_pos (by omega)]; omega
      · rw [if_neg w, if_neg w, if_neg w, if_neg w]
        by_cases w2 : c < x
        · rw [if_pos w2, if_pos (by omega)]; omega
        · rw [if_neg w2, if_neg (by omega)]; rfl
  rw [key n, if_pos hc]
/-- a planar map: half-edges by fours around the crossings; faces are the cycles of 'over the edge and turn'; as many as Euler says -/
structure Plnr (n : Nat) (α fc lab : Nat → Nat) : Prop where
  k : Inv2 (4 * n) α
  fl : ∀ h, h < 4 * n → fc h < 4 * n
  ff : ∀ h, h < 4 * n → fc (turnN (α h) 3) = fc h
  fi : ∀ h, h < 4 * n → fc (fc h) = fc h
  ll : ∀ c, c < n → lab c < n
  li : ∀ c, c < n → lab (lab c) = lab c
  le : ∀ h, h < 4 * n → lab (h / 4) = lab (α h / 4)
  lc : ∀ P : Nat → Prop, (∀ h, h < 4 * n → (P (h / 4) ↔ P (α h / 4))) → ∀ x y, x < n → y < n → lab x = lab y → (P x ↔ P y)
  eu : cN (4 * n) (fun h => decide (fc h = h)) = n + 2 * cN n (fun c => decide (lab c = c))
  fb : ∀ h, h < 4 * n → lab (fc h / 4) = lab (h / 4)
section
variable {n : Nat} {α fc lab : Nat → Nat}
theorem turn_lt {n h j : Nat} (hh : h < 4 * n) : turnN h j < 4 * n := by unfold turnN; omega
theorem turn_div (h j : Nat) : turnN h j / 4 = h / 4 := by unfold turnN; omega
/-- the face on the other side of the next half-edge is this one -/
theorem Plnr.next (p : Plnr n α fc lab) {h : Nat} (hh : h < 4 * n) : fc (α (turnN h 1)) = fc h := by
  have h1 : turnN h 1 < 4 * n := turn_lt hh
  have h2 := p.ff (α (turnN h 1)) (p.k.lt _ h1)
  rw [p.k.inv _ h1] at h2
  have h3 : turnN (turnN h 1) 3 = h := by unfold turnN; omega
  rw [h3] at h2
  exact h2.symm
theorem Plnr.round (p : Plnr n α fc lab) (ρ : Nat → Nat) (hρ : ∀ h, h < 4 * n → ρ (fc h) = ρ (fc (α h))) {h : Nat} (hh : h < 4 * n) (j : Nat) : ρ (fc (turnN h j)) = ρ (fc h) := by
  have one : ∀ h, h < 4 * n → ρ (fc (turnN h 1)) = ρ (fc h) := fun h hh => by
    rw [hρ _ (turn_lt hh), p.next hh]
  induction j with
  | zero => rw [show turnN h 0 = h by unfold turnN; omega]
  | succ j ih =>
    have e : turnN h (j + 1) = turnN (turnN h j) 1 := by unfold turnN; omega
    rw [e, one _ (turn_lt hh), ih]
theorem cN_le_inj {A B : Nat} {p q : Nat → Bool} (φ : Nat → Nat) (h1 : ∀ x, x < A → p x = true → φ x < B ∧ q (φ x) = true) (h2 : ∀ x y, x < A → y < A → p x = true → p y = true → φ x = φ y → x = y) : cN A p ≤ cN B q := by
  rw [← cN_filter, ← cN_filter]
  have hnd : (((List.range A).filter p).map φ).Nodup := by
    rw [List.Nodup, List.pairwise_map]
    refine ((List.nodup_range (n := A)).filter p).imp_of_mem (fun {a b} ha hb hne he => hne ?_)
    obtain ⟨a1, a2⟩ := List.mem_filter.1 ha
    obtain ⟨b1, b2⟩ := List.mem_filter.1 hb
    exact h2 a b (List.mem_range.1 a1) (List.mem_range.1 b1) a2 b2 he
  have := len_le_of_sub _ ((List.range B).filter q) hnd (fun x hx => by
    obtain ⟨y, hy, rfl⟩ := List.mem_map.1 hx
    obtain ⟨y1, y2⟩ := List.mem_filter.1 hy
    obtain ⟨a, b⟩ := h1 y (List.mem_range.1 y1) y2
    exact List.mem_filter.2 ⟨List.mem_range.2 a, b⟩)
  rwa [List.length_map] at this
theorem cN_split {V : Nat} {p q : Nat → Bool} : cN V (fun x => p x && q x) + cN V (fun x => p x && !q x) = cN V p := by
  induction V with
  | zero => rfl
  | succ V ih =>
    rw [cN, cN, cN]
    cases hp : p V <;> cases hq : q V <;> simp <;> omega
theorem cN_not {V : Nat} (p : Nat → Bool) : cN V p + cN V (fun x => !p x) = V := by
  have := cN_split (V := V) (p := fun _ => true) (q := p)
  simp only [Bool.true_and] at this
  rw [this, cN_true]
/-- THE POTENTIAL -/
theorem Plnr.pot (p : Plnr n α fc lab) (m : Int) (g : Nat → Int) (ha : ∀ h, h < 4 * n → m ∣ g h + g (α h)) (hd : ∀ c, c < n → m ∣ g (4 * c) + g (4 * c + 1) + g (4 * c + 2) + g (4 * c + 3)) :
    ∃ r : Nat → Int, ∀ h, h < 4 * n → m ∣ g h - (r (fc h) - r (fc (α h))) := by
  have hE := edg_len p.k
  obtain ⟨E, hEE⟩ : ∃ E, E = edg (4 * n) α := ⟨_, rfl⟩
  have hEm : ∀ h, h ∈ E → h < 4 * n := fun h hh => by rw [hEE] at hh; exact (mem_edg.1 hh).1
  have hEo : ∀ h, h < 4 * n → h ∈ E ∨ α h ∈ E := fun h hh => by rw [hEE]; exact edg_or p.k hh
  rw [← hEE] at hE
  clear hEE
  -- the forest of the faces
  obtain ⟨T, hT⟩ : ∃ T, T = frs fc α E := ⟨_, rfl⟩
  have hTf : Fos fc α T := by rw [hT]; exact frs_fst E
  have hTE : ∀ h, h ∈ T → h ∈ E := fun h hh => by rw [hT] at hh; exact frs_sub E h hh
  obtain ⟨S, hS⟩ : ∃ S, S = nfr fc α E := ⟨_, rfl⟩
  have hST := nfr_len (ν := fc) (α := α) E
  rw [← hT, ← hS] at hST
  have hSE : ∀ h, h ∈ S → h ∈ E := fun h hh => by rw [hS] at hh; exact nfr_sub E h hh
  have hor : ∀ h, h ∈ E → h ∈ T ∨ h ∈ S := fun h hh => by rw [hT, hS]; exact nfr_or E h hh
  have hTr := fst_rts (V := 4 * n) T hTf (fun h hh => ⟨p.fl h (hEm h (hTE h hh)), p.fl _ (p.k.lt h (hEm h (hTE h hh)))⟩)
  have hpe : prc fc α T = prc fc α E := by rw [hT]; exact prc_frs E
  -- all faces of a component bear one label
  have hρ : ∀ h, h < 4 * n → prc fc α E (fc h) = prc fc α E (fc (α h)) := fun h hh => by
    rcases hEo h hh with q | q
    · exact prc_mem E h q
    · have := prc_mem (ν := fc) (α := α) E (α h) q
      rw [p.k.inv h hh] at this
      exact this.symm
  have hcomp : ∀ x y, x < 4 * n → y < 4 * n → lab (x / 4) = lab (y / 4) → prc fc α E (fc x) = prc fc α E (fc y) := by
    intro x y hx hy hl
    have hP := p.lc (fun c => ∀ h, h < 4 * n → h / 4 = c → prc fc α E (fc h) = prc fc α E (fc x)) (fun h hh => by
      have same : ∀ a b, a < 4 * n → b < 4 * n → a / 4 = b / 4 → prc fc α E (fc a) = prc fc α E (fc b) := fun a b ha' hb' he => by
        have h1 := p.round (prc fc α E) hρ hb' (a % 4 + 4 - b % 4)
        have h2 : turnN b (a % 4 + 4 - b % 4) = a := by unfold turnN; omega
        rw [h2] at h1
        exact h1
      constructor
      · intro w q hq he
        rw [same q (α h) hq (p.k.lt h hh) he, ← hρ h hh]
        exact w h hh rfl
      · intro w q hq he
        rw [same q h hq hh he, hρ h hh]
        exact w (α h) (p.k.lt h hh) rfl) (x / 4) (y / 4) (by omega) (by omega) hl
    have same : ∀ h, h < 4 * n → h / 4 = x / 4 → prc fc α E (fc h) = prc fc α E (fc x) := fun h hh he => by
      have h1 := p.round (prc fc α E) hρ hx (h % 4 + 4 - x % 4)
      have h2 : turnN x (h % 4 + 4 - x % 4) = h := by unfold turnN; omega
      rw [h2] at h1
      exact h1
    exact (hP.1 same y hy rfl).symm
  -- how many classes of faces there are
  have hroots : rts (4 * n) (prc fc α T) ≤ cN (4 * n) (fun h => !decide (fc h = h)) + cN n (fun c => decide (lab c = c)) := by
    rw [hpe]
    unfold rts
    rw [← cN_split (V := 4 * n) (p := fun x => decide (prc fc α E x = x)) (q := fun h => decide (fc h = h)), Nat.add_comm]
    refine Nat.add_le_add ?_ ?_
    · exact cN_le_inj (fun x => x) (fun x hx hp => ⟨hx, by simp only [Bool.and_eq_true] at hp; exact hp.2⟩) (fun x y _ _ _ _ e => e)
    · refine cN_le_inj (fun x => lab (x / 4)) (fun x hx hp => ⟨p.ll _ (by omega), decide_eq_true (p.li _ (by omega))⟩) (fun x y hx hy hp hq e => ?_)
      simp only [Bool.and_eq_true, decide_eq_true_eq] at hp hq
      have := hcomp x y hx hy e
      rw [hp.2, hq.2, hp.1, hq.1] at this
      exact this
  have hnot := cN_not (V := 4 * n) (fun h => decide (fc h = h))
  have heu := p.eu
  -- the rest of the edges: no cut
  obtain ⟨T2, hT2⟩ : ∃ T2, T2 = frs (· / 4) α S := ⟨_, rfl⟩
  have hT2f : Fos (· / 4) α T2 := by rw [hT2]; exact frs_fst S
  have hT2r := fst_rts (V := n) T2 hT2f (fun h hh => by
    have h1 : h ∈ S := by rw [hT2] at hh; exact frs_sub S h hh
    have h2 := hEm h (hSE h h1)
    have h3 := p.k.lt h h2
    exact ⟨by show h / 4 < n; omega, by show α h / 4 < n; omega⟩)
  have hp2 : prc (· / 4) α T2 = prc (· / 4) α S := by rw [hT2]; exact prc_frs S
  have hcut : ∀ x, ∀ h, h < 4 * n → (prc (· / 4) α S (h / 4) = x ↔ prc (· / 4) α S (α h / 4) = x) := by
    intro x
    obtain ⟨u, hu⟩ : ∃ u : Nat → Int, u = fun c => if prc (· / 4) α S c = x then 1 else 0 := ⟨_, rfl⟩
    have hz := forest_zero p.k p.fl 0 T (fun h => u (h / 4) - u (α h / 4)) hTf (fun h hh => hEm h (hTE h hh)) (fun h hh => by
      show (0 : Int) ∣ u (h / 4) - u (α h / 4) + (u (α h / 4) - u (α (α h) / 4))
      rw [p.k.inv h hh]
      exact ⟨0, by omega⟩) (fun h hh h1 h2 => by
      show (0 : Int) ∣ u (h / 4) - u (α h / 4)
      have e : prc (· / 4) α S (h / 4) = prc (· / 4) α S (α h / 4) := by
        rcases hEo h hh with q | q
        · rcases hor h q with w | w
          · exact absurd w h1
          · exact prc_mem S h w
        · rcases hor _ q with w | w
          · exact absurd w h2
          · have := prc_mem (ν := (· / 4)) (α := α) S (α h) w
            rw [p.k.inv h hh] at this
            exact this.symm
      rw [hu]
      simp only [e]
      exact ⟨0, by omega⟩) (fun y hy => by
      have e1 : sumI (4 * n) (fun h => if fc h = y then u (h / 4) - u (α h / 4) else 0) = sumI (4 * n) (fun h => if fc h = y then u (h / 4) else 0) - sumI (4 * n) (fun h => if fc (turnN (α h) 3) = y then u (turnN (α h) 3 / 4) else 0) := by
        rw [show ∀ a b : Int, a - b = a + (-1) * b from fun a b => by omega, ← sumI_add]
        exact sumI_congr (fun h hh => by
          rw [p.ff h hh, turn_div]
          by_cases q : fc h = y
          · rw [if_pos q, if_pos q, if_pos q]; omega
          · rw [if_neg q, if_neg q, if_neg q]; rfl)
      rw [e1, sumI_perm (φ := fun h => turnN (α h) 3) (fun h hh => turn_lt (p.k.lt h hh)) (fun a b ha' hb' he => by
        have : α a = α b := by
          have e2 : turnN (α a) 3 = turnN (α b) 3 := he
          unfold turnN at e2
          omega
        exact p.k.inj a b ha' hb' this) (fun h => if fc h = y then u (h / 4) else 0)]
      exact ⟨0, by omega⟩)
    intro h hh
    have h1 := hz h hh
    have h2 : u (h / 4) - u (α h / 4) = 0 := Int.zero_dvd.1 h1
    rw [hu] at h2
    simp only at h2
    by_cases q : prc (· / 4) α S (h / 4) = x
    · rw [if_pos q] at h2
      constructor
      · intro _
        by_cases w : prc (· / 4) α S (α h / 4) = x
        · exact w
        · rw [if_neg w] at h2; omega
      · intro _; exact q
    · rw [if_neg q] at h2
      constructor
      · intro w; exact absurd w q
      · intro w; rw [if_pos w] at h2; omega
  have hr2 : rts n (prc (· / 4) α T2) ≤ cN n (fun c => decide (lab c = c)) := by
    rw [hp2]
    unfold rts
    refine cN_le_inj lab (fun x hx _ => ⟨p.ll x hx, decide_eq_true (p.li x hx)⟩) (fun x y hx hy hp hq e => ?_)
    have h1 := (p.lc (fun c => prc (· / 4) α S c = prc (· / 4) α S x) (hcut _) x y hx hy e).1 rfl
    simp only [decide_eq_true_eq] at hp hq
    rw [hp, hq] at h1
    exact h1.symm
  have hT2S : T2 = S := by
    rw [hT2]
    refine frs_all S ?_
    rw [← hT2]
    have := frs_len (ν := (· / 4)) (α := α) S
    rw [← hT2] at this
    omega
  -- the potential
  obtain ⟨r, hr⟩ := fst_pot g T hTf
  refine ⟨r, ?_⟩
  have hnext : ∀ c s, c < n → s < 4 → fc (α (4 * c + (s + 1) % 4)) = fc (4 * c + s) := fun c s hc hs => by
    have h1 := p.next (h := 4 * c + s) (by omega)
    have h2 : turnN (4 * c + s) 1 = 4 * c + (s + 1) % 4 := by unfold turnN; omega
    rw [h2] at h1
    exact h1
  refine forest_zero (ν := (· / 4)) (V := n) p.k (fun h hh => by show h / 4 < n; omega) m S (fun h => g h - (r (fc h) - r (fc (α h)))) (by rw [← hT2S]; exact hT2f) (fun h hh => hEm h (hSE h hh)) (fun h hh => ?_) (fun h hh h1 h2 => ?_) (fun c hc => ?_)
  · show m ∣ g h - (r (fc h) - r (fc (α h))) + (g (α h) - (r (fc (α h)) - r (fc (α (α h)))))
    rw [p.k.inv h hh, show g h - (r (fc h) - r (fc (α h))) + (g (α h) - (r (fc (α h)) - r (fc h))) = g h + g (α h) by omega]
    exact ha h hh
  · show m ∣ g h - (r (fc h) - r (fc (α h)))
    rcases hEo h hh with q | q
    · rcases hor h q with w | w
      · rw [hr h w]; exact ⟨0, by omega⟩
      · exact absurd w h1
    · rcases hor _ q with w | w
      · have h3 := hr _ w
        rw [p.k.inv h hh] at h3
        rw [show g h - (r (fc h) - r (fc (α h))) = g h + g (α h) by omega]
        exact ha h hh
      · exact absurd w h2
  · have h1 := sum_four hc (fun h => g h - (r (fc h) - r (fc (α h))))
    have e1 : sumI (4 * n) (fun h => if (fun x => x / 4) h = c then g h - (r (fc h) - r (fc (α h))) else 0) = _ := h1
    rw [e1]
    have n0 := hnext c 0 hc (by omega)
    have n1 := hnext c 1 hc (by omega)
    have n2 := hnext c 2 hc (by omega)
    have n3 := hnext c 3 hc (by omega)
    simp only [Nat.reduceAdd, Nat.reduceMod, Nat.add_zero] at n0 n1 n2 n3
    rw [n0, n1, n2, n3]
    have h2 := hd c hc
    rw [show g (4 * c) - (r (fc (4 * c)) - r (fc (4 * c + 3))) + (g (4 * c + 1) - (r (fc (4 * c + 1)) - r (fc (4 * c)))) + (g (4 * c + 2) - (r (fc (4 * c + 2)) - r (fc (4 * c + 1)))) + (g (4 * c + 3) - (r (fc (4 * c + 3)) - r (fc (4 * c + 2)))) = g (4 * c) + g (4 * c + 1) + g (4 * c + 2) + g (4 * c + 3) by omega]
    exact h2
end
end Go.Proofs.Ytcjaloddgilnpaa

namespace Go.Proofs.Ytcjaloddgilnpaa
open Go.RowKit
set_option linter.unusedVariables false

theorem count_reps {n : Nat} {lab : Nat → Nat} (ll : ∀ c, c < n → lab c < n) (li : ∀ c, c < n → lab (lab c) = lab c) : ∀ hs : List Nat, (∀ h ∈ hs, h < n) → hs.length = sumN n (fun c => if lab c = c then hs.countP (fun h => lab h == c) else 0)
  | [], _ => by
    have : ∀ k, sumN k (fun c => if lab c = c then ([] : List Nat).countP (fun h => lab h == c) else 0) = 0 := by
      intro k
      induction k with
      | zero => rfl
      | succ k ih => rw [sumN, ih]; simp
    rw [this n]; rfl
  | h :: hs, hl => by
    have ih := count_reps ll li hs (fun q hq => hl q (List.mem_cons_of_mem _ hq))
    have hh := hl h List.mem_cons_self
    have one : ∀ k, sumN k (fun c => if lab c = c then (h :: hs).countP (fun h => lab h == c) else 0) = sumN k (fun c => if lab c = c then hs.countP (fun h => lab h == c) else 0) + (if lab h < k then 1 else 0) := by
      intro k
      induction k with
      | zero => simp [sumN]
      | succ k ihk =>
        rw [sumN, sumN, ihk, List.countP_cons]
        generalize sumN k (fun c => if lab c = c then hs.countP (fun h => lab h == c) else 0) = A
        generalize hs.countP (fun h => lab h == k) = B
        by_cases q : lab h = k
        · have h1 := li h hh
          rw [q] at h1
          have e1 : (lab h == k) = true := by simpa using q
          rw [e1, if_pos h1, if_pos h1, if_pos rfl, q, if_neg (Nat.lt_irrefl k), if_pos (Nat.lt_succ_self k)]
          omega
        · have e1 : (lab h == k) = false := by simpa using q
          have w3 : (lab h < k + 1) = (lab h < k) := propext ⟨fun _ => by omega, fun _ => by omega⟩
          simp only [w3, e1]
          by_cases w1 : lab k = k
          · rw [if_pos w1, if_pos w1, if_neg (show ¬ (false = true) by simp)]; omega
          · rw [if_neg w1, if_neg w1]; omega
    rw [one n, if_pos (ll h hh), List.length_cons, ← ih]
theorem planar {S M : List Int} {L : Int} (hv : valB S M L = true) : ∃ fc lab, Plnr S.length (mt M) fc lab := by
  have k := valB_ok hv
  have hm := k.m
  have hperm := k.perm
  have hR : Rg M S.length := ⟨by have := k.m; omega, fun h hh => by have := k.lt h (by have := k.m; omega); have := k.m; omega⟩
  obtain ⟨fc, hfc⟩ := choose_list (P := fun h j => j ∈ heads (phi M) M.length ∧ Rl (phi M) j h) (List.range M.length) (fun h hh => exists_head hperm h (List.mem_range.1 hh))
  have hf : ∀ h, h < M.length → fc h ∈ heads (phi M) M.length ∧ Rl (phi M) (fc h) h := fun h hh => hfc h (List.mem_range.2 hh)
  have huniq : ∀ h j, h < M.length → j ∈ heads (phi M) M.length → Rl (phi M) j h → fc h = j := fun h j hh hj hr => by
    obtain ⟨a, b⟩ := hf h hh
    exact heads_inj hperm a hj (b.trans (hperm.symm ((mem_heads hperm).1 hj).1 hr))
  obtain ⟨lab, hlab⟩ : ∃ lab, lab = fun c => gn (labK M S.length S.length) c := ⟨_, rfl⟩
  have lconn : ∀ c, c < S.length → Conn (Ed M) c (lab c) := fun c hc => by rw [hlab]; exact labK_conn hR _ c hc
  have lleast : ∀ c q, q < S.length → Conn (Ed M) q c → lab c ≤ q := fun c q hq h => by rw [hlab]; exact labK_least hR hq h
  have esym : ∀ a b, Ed M a b → Ed M b a := fun a b h => h.symm
  have ll : ∀ c, c < S.length → lab c < S.length := fun c hc => Nat.lt_of_le_of_lt (lleast c c hc (.refl _)) hc
  have leq : ∀ a b, a < S.length → b < S.length → Conn (Ed M) a b → lab a = lab b := fun a b ha hb h => by
    refine Nat.le_antisymm (lleast a _ (ll b hb) ?_) (lleast b _ (ll a ha) ?_)
    · exact (Conn.symm esym (lconn b hb)).trans (Conn.symm esym h)
    · exact (Conn.symm esym (lconn a ha)).trans h
  have li : ∀ c, c < S.length → lab (lab c) = lab c := fun c hc => (leq c (lab c) hc (ll c hc) (lconn c hc)).symm
  refine ⟨fc, lab, ⟨?_, ?_, ?_⟩, ?_, ?_, ?_, ll, li, ?_, ?_, ?_, ?_⟩
  · intro h hh; rw [← hm] at hh ⊢; exact k.lt h hh
  · intro h hh; rw [← hm] at hh; exact k.inv h hh
  · intro h hh; rw [← hm] at hh; exact k.ne h hh
  · intro h hh; rw [← hm] at hh ⊢; exact ((mem_heads hperm).1 (hf h hh).1).1
  · intro h hh
    rw [← hm] at hh
    have h1 : phi M h < M.length := hperm.lt h hh
    obtain ⟨a, b⟩ := hf h hh
    exact huniq (phi M h) (fc h) h1 a (b.trans (Rl.step _ _))
  · intro h hh
    rw [← hm] at hh
    obtain ⟨a, b⟩ := hf h hh
    exact huniq (fc h) (fc h) ((mem_heads hperm).1 a).1 a (Rl.refl _ _)
  · intro h hh
    have h1 := k.lt h (by omega)
    exact leq _ _ (by omega) (by omega) (Conn.one ⟨h, by omega, Or.inl ⟨rfl, rfl⟩⟩)
  · intro P hP x y hx hy e
    have cl : ∀ a b, Ed M a b → P a → P b := by
      rintro a b ⟨h, hh, ⟨rfl, rfl⟩ | ⟨rfl, rfl⟩⟩ ha
      · exact (hP h (by omega)).1 ha
      · exact (hP h (by omega)).2 ha
    have hc : Conn (Ed M) x y := (lconn x hx).trans (by rw [e]; exact Conn.symm esym (lconn y hy))
    exact ⟨hc.closed cl, (Conn.symm esym hc).closed cl⟩
  · -- Euler
    have hsp : sphR M S.length = true := by
      unfold valB at hv
      simp only [Bool.and_eq_true] at hv
      exact hv.2
    have hsp' : ∀ c, c < S.length → lab c = c → (heads (phi M) M.length).countP (fun h => lab (h / 4) == c) = (List.range S.length).countP (fun b => lab b == c) + 2 := by
      intro c hc hr
      have h1 := List.all_eq_true.1 hsp c (List.mem_range.2 hc)
      unfold spB at h1
      have e0 : gn (labK M S.length S.length) c = c := by rw [hlab] at hr; exact hr
      rw [e0] at h1
      have h2 : (c != c) = false := by simp
      rw [h2, Bool.false_or, beq_iff_eq] at h1
      unfold fcN crN at h1
      rw [labK_length] at h1
      rw [hlab]
      exact h1
    have hF : (heads (phi M) M.length).length = cN (4 * S.length) (fun h => decide (fc h = h)) := by
      rw [← hm, ← cN_filter]
      congr 1
      unfold heads
      refine List.filter_congr (fun h hh => ?_)
      have hh' := List.mem_range.1 hh
      rw [Bool.eq_iff_iff, decide_eq_true_eq]
      have h1 : h ∈ heads (phi M) M.length ↔ fc h = h := by
        constructor
        · intro w; exact huniq h h hh' w (Rl.refl _ _)
        · intro w; rw [← w]; exact (hf h hh').1
      rw [← h1]
      unfold heads
      rw [List.mem_filter]
      exact ⟨fun w => ⟨hh, w⟩, fun w => w.2⟩
    have c1 := count_reps (n := S.length) ll li ((heads (phi M) M.length).map (· / 4)) (fun h hh => by
      obtain ⟨q, hq, rfl⟩ := List.mem_map.1 hh
      have := ((mem_heads hperm).1 hq).1
      show q / 4 < S.length
      omega)
    have c2 := count_reps (n := S.length) ll li (List.range S.length) (fun h hh => List.mem_range.1 hh)
    rw [List.length_map] at c1
    rw [List.length_range] at c2
    have key : ∀ x, x ≤ S.length → sumN x (fun c => if lab c = c then ((heads (phi M) M.length).map (· / 4)).countP (fun h => lab h == c) else 0) = sumN x (fun c => if lab c = c then (List.range S.length).countP (fun h => lab h == c) else 0) + 2 * cN x (fun c => decide (lab c = c)) := by
      intro x
      induction x with
      | zero => intro _; rfl
      | succ x ih =>
        intro hx
        rw [sumN, sumN, cN, ih (by omega)]
        by_cases q : lab x = x
        · have h1 := hsp' x (by omega) q
          have e1 : ((heads (phi M) M.length).map (· / 4)).countP (fun h => lab h == x) = (heads (phi M) M.length).countP (fun h => lab (h / 4) == x) := by rw [List.countP_map]; rfl
          rw [if_pos q, if_pos q, e1, h1]
          simp only [q, decide_true, if_true]
          omega
        · rw [if_neg q, if_neg q]
          simp [q]
    rw [← hF, c1, key S.length (Nat.le_refl _), ← c2]
  · intro h hh
    rw [← hm] at hh
    obtain ⟨a, t, b⟩ := hf h hh
    have hlt : fc h < M.length := ((mem_heads hperm).1 a).1
    have it : ∀ t, lab (itr (phi M) t (fc h) / 4) = lab (fc h / 4) := by
      intro t
      induction t with
      | zero => rfl
      | succ t ih =>
        have h1 := hperm.itr_lt hlt t
        have h2 := k.lt _ h1
        show lab (turnN (mt M (itr (phi M) t (fc h))) 3 / 4) = _
        rw [turn_div, ← ih]
        exact (leq _ _ (by omega) (by omega) (Conn.one ⟨_, h1, Or.inl ⟨rfl, rfl⟩⟩)).symm
    have h2 := it t
    rw [b] at h2
    exact h2.symm
end Go.Proofs.Ytcjaloddgilnpaa
