/- package unknot: the search's state in memory. -/
import Derived.Test.YteliflcbegcdlaaGreatDoorZNbt
import Derived.Test.YteliflcbegcdlaaGreatDoorZGcol
import Derived.Test.YteliflcbegcdlaaGreatDoorZSlb
namespace Go.Proofs.YteliflcbegcdlaaGreatDoor
open Go.RowKit Go.Shelf
set_option linter.unusedVariables false
abbrev SL := Option Addr × Nat × Nat
abbrev GV := SL × SL
def sv (s : SL) : Value := .slice s.1 s.2.1 s.2.2
def eG (p : GV) : List Value := [sv p.1, sv p.2]
def GvI (w : World) (p : GV) (g : Gd) : Prop := Ints w (sv p.1) g.1 ∧ Ints w (sv p.2) g.2
theorem GvI.gd {w : World} {p : GV} {g : Gd} (h : GvI w p g) : GdI w (.agg #[sv p.1, sv p.2]) g := ⟨_, _, _, _, _, _, rfl, h.1, h.2⟩
theorem GdI.gv {w : World} {v : Value} {g : Gd} (h : GdI w v g) : ∃ p : GV, v = .agg #[sv p.1, sv p.2] ∧ GvI w p g := by
  obtain ⟨A, n, c, B, m, d, rfl, a, b⟩ := h
  exact ⟨((A, n, c), (B, m, d)), rfl, a, b⟩
/-- the list ps of values reads as the grids gs -/
def Al (w : World) : List GV → List Gd → Prop
  | [], [] => True
  | p :: ps, g :: gs => GvI w p g ∧ Al w ps gs
  | _, _ => False
theorem Al.len {w : World} : ∀ {ps : List GV} {gs : List Gd}, Al w ps gs → ps.length = gs.length
  | [], [], _ => rfl
  | p :: ps, g :: gs, h => by simp [Al.len h.2]
  | [], g :: gs, h => h.elim
  | p :: ps, [], h => h.elim
theorem Al.imp {w w' : World} (hk : ∀ p g, GvI w p g → GvI w' p g) : ∀ {ps : List GV} {gs : List Gd}, Al w ps gs → Al w' ps gs
  | [], [], _ => trivial
  | p :: ps, g :: gs, h => ⟨hk p g h.1, Al.imp hk h.2⟩
  | [], g :: gs, h => h.elim
  | p :: ps, [], h => h.elim
theorem Al.snoc {w : World} {q : GV} {x : Gd} (hq : GvI w q x) : ∀ {ps : List GV} {gs : List Gd}, Al w ps gs → Al w (ps ++ [q]) (gs ++ [x])
  | [], [], _ => ⟨hq, trivial⟩
  | p :: ps, g :: gs, h => ⟨h.1, Al.snoc hq h.2⟩
  | [], g :: gs, h => h.elim
  | p :: ps, [], h => h.elim
theorem Al.get {w : World} : ∀ {ps : List GV} {gs : List Gd}, Al w ps gs → ∀ (i : Nat) (p : GV) (g : Gd), ps[i]? = some p → gs[i]? = some g → GvI w p g
  | [], [], _, i, p, g, h, _ => by simp at h
  | p :: ps, g :: gs, h, 0, q, x, h1, h2 => by simp at h1 h2; subst h1; subst h2; exact h.1
  | p :: ps, g :: gs, h, i + 1, q, x, h1, h2 => Al.get h.2 i q x (by simpa using h1) (by simpa using h2)
  | [], g :: gs, h, _, _, _, _, _ => h.elim
  | p :: ps, [], h, _, _, _, _, _ => h.elim
theorem info_gr5 : (Tryz.prog.info? 24).map (fun i => (i.zero, i.size, i.bytes)) = some (some (.agg #[.slice none 0 0, .slice none 0 0]), 2, 48) := by kernel_rfl
theorem elG : ElQ Tryz.prog 24 2 eG where
  ex := by
    obtain ⟨i, hi, hz, hs, hb⟩ := info_parts info_gr5
    exact ⟨i, _, 48, hi, hz, hs, hb, rfl, by omega⟩
  pos := by omega
  len := fun x => rfl
  one := fun x q h => by unfold eG sv at h; simp at h; rcases h with rfl | rfl <;> rfl
  esl := fun x q h => by unfold eG sv at h; simp at h; rcases h with rfl | rfl <;> exact ⟨_, _, _, rfl⟩
  zsl := fun i z h1 h2 q hq => by
    obtain ⟨j, hj, hz, hs, hb⟩ := info_parts info_gr5
    have e1 := h1.symm.trans hj
    injection e1 with e1
    subst e1
    have e2 := h2.symm.trans hz
    injection e2 with e2
    subst e2
    have : q = .slice none 0 0 := by simpa [Value.cells] using hq
    exact ⟨_, _, _, this⟩
/-! ### the state -/
structure SP where
  m1 : Nat
  m2 : Nat
  vC : Value
  WS : List Value
  L1 : List (List UInt8 × Value)
  c1 : Nat
  c2 : Nat
def frS : Option Gd → List UInt8
  | none => []
  | some c => fmG c
def l2 (K : List En) : List (List UInt8 × Value) := K.map fun e => (fmG e.key, .string ⟨(frS e.fr).toArray⟩)
def Ow (gS : Nat) (p : SP) (b : Nat) : Prop := b = gS ∨ b = p.m1 ∨ b = p.m2 ∨ sBlk p.vC = some b ∨ ∃ v ∈ p.WS, sBlk v = some b
/-- the entries of the map of moves -/
def AlK (w : World) (L : List (List UInt8 × Value)) (K : List En) : Prop :=
  L.length = K.length ∧ ∀ (i : Nat) q e, L[i]? = some q → K[i]? = some e → q.1 = fmG e.key ∧ Moves w q.2 e.ms
structure SI (gS : Nat) (w : World) (s : St) (p : SP) : Prop where
  hd : Arr w gS 52 (.map (some p.m1) :: .map (some p.m2) :: p.vC :: p.WS)
  wl : p.WS.length = 41
  w2 : s.2.length = 41
  ne : p.m1 ≠ p.m2
  mp1 : MpS w p.m1 p.L1 p.c1
  mp2 : MpS w p.m2 (l2 s.1) p.c2
  al1 : AlK w p.L1 s.1
  cls : ∃ cs, QA 24 2 eG 0 w p.vC cs ∧ Al w cs (s.1.map En.key)
  wt : ∀ (i : Nat) v gs, p.WS[i]? = some v → s.2[i]? = some gs → ∃ ps, QA 24 2 eG 0 w v ps ∧ Al w ps gs
  ap1 : ∀ (i : Nat) v b, p.WS[i]? = some v → sBlk v = some b → sBlk p.vC ≠ some b
  ap2 : ∀ (i j : Nat) v u b, p.WS[i]? = some v → p.WS[j]? = some u → i ≠ j → sBlk v = some b → sBlk u ≠ some b
/-- the plain part -/
structure StP (s : St) : Prop where
  v1 : ∀ e ∈ s.1, Vd e.key.1 e.key.2
  v2 : ∀ l ∈ s.2, ∀ g ∈ l, Vd g.1 g.2
  nd : (s.1.map En.key).Nodup
  sm : ∀ l ∈ s.2, l.length ≤ s.1.length
  l2 : s.2.length = 41
/-- what may hold in a block of the state -/
theorem SI.typ {gS : Nat} {w : World} {s : St} {p : SP} (h : SI gS w s p) {b : Nat} (hb : Ow gS p b) : (∃ es c, w.heap[b]? = some (.map es c)) ∨ ∃ cs t fr, w.heap[b]? = some (.cells cs t fr) ∧ (t = 52 ∨ t = 24) := by
  rcases hb with rfl | rfl | rfl | hb | ⟨v, hv, hb⟩
  · exact .inr ⟨_, _, _, h.hd, .inl rfl⟩
  · obtain ⟨es, h1, _⟩ := h.mp1; exact .inl ⟨_, _, h1⟩
  · obtain ⟨es, h1, _⟩ := h.mp2; exact .inl ⟨_, _, h1⟩
  · obtain ⟨cs, h1, _⟩ := h.cls
    obtain ⟨cs, fr, h2⟩ := h1.typ b hb
    exact .inr ⟨_, _, _, h2, .inr rfl⟩
  · obtain ⟨i, hi⟩ := List.getElem?_of_mem hv
    have hlt : i < s.2.length := by have := (List.getElem?_eq_some_iff.1 hi).1; have := h.wl; have := h.w2; omega
    obtain ⟨ps, h1, _⟩ := h.wt i v _ hi (List.getElem?_eq_getElem hlt)
    obtain ⟨cs, fr, h2⟩ := h1.typ b hb
    exact .inr ⟨_, _, _, h2, .inr rfl⟩
theorem SI.lt {gS : Nat} {w : World} {s : St} {p : SP} (h : SI gS w s p) {b : Nat} (hb : Ow gS p b) : b < w.heap.size := by
  rcases h.typ hb with ⟨es, c, e⟩ | ⟨cs, t, fr, e, _⟩ <;> exact (Array.getElem?_eq_some_iff.1 e).1
/-- no integer lies in a block of the state -/
theorem SI.noint {gS : Nat} {w : World} {s : St} {p : SP} (h : SI gS w s p) {b i : Nat} {k : IntKind} {n : Int} (hc : w.cell? ⟨b, i, none⟩ = some (.int k n)) : ¬ Ow gS p b := by
  intro hb
  rcases hb with rfl | rfl | rfl | hb | ⟨v, hv, hb⟩
  · rw [h.hd.cell i] at hc
    rcases i with _ | _ | _ | i
    · cases hc
    · cases hc
    · obtain ⟨cs, h1, _⟩ := h.cls
      obtain ⟨A, c, e⟩ := h1.form
      simp only [List.getElem?_cons_succ, List.getElem?_cons_zero, e] at hc
      cases hc
    · simp only [List.getElem?_cons_succ] at hc
      have hlt : i < s.2.length := by have := (List.getElem?_eq_some_iff.1 hc).1; have := h.wl; have := h.w2; omega
      obtain ⟨ps, h1, _⟩ := h.wt i _ _ hc (List.getElem?_eq_getElem hlt)
      obtain ⟨A, c, e⟩ := h1.form
      cases e
  · obtain ⟨es, h1, _⟩ := h.mp1; unfold World.cell? at hc; rw [h1] at hc; cases hc
  · obtain ⟨es, h1, _⟩ := h.mp2; unfold World.cell? at hc; rw [h1] at hc; cases hc
  · obtain ⟨cs, h1, _⟩ := h.cls
    obtain ⟨A, n, c, e⟩ := h1.noint hb hc
    cases e
  · obtain ⟨j, hj⟩ := List.getElem?_of_mem hv
    have hlt : j < s.2.length := by have := (List.getElem?_eq_some_iff.1 hj).1; have := h.wl; have := h.w2; omega
    obtain ⟨ps, h1, _⟩ := h.wt j v _ hj (List.getElem?_eq_getElem hlt)
    obtain ⟨A, n, c, e⟩ := h1.noint hb hc
    cases e
/-- a step that writes the state's blocks alone -/
structure Kf (gS : Nat) (p : SP) (w w' : World) : Prop where
  siz : w.heap.size ≤ w'.heap.size
  keep : ∀ b, b < w.heap.size → ¬ Ow gS p b → w'.heap[b]? = w.heap[b]?
section
variable {gS : Nat} {w w' : World} {s : St} {p : SP}
theorem Kf.ints (k : Kf gS p w w') (h : SI gS w s p) {v : Value} {xs : List Int} (hx : Ints w v xs) : Ints w' v xs := by
  obtain ⟨A0, c, e, hc, hx⟩ := hx
  refine ⟨A0, c, e, hc, fun j x hj => ?_⟩
  obtain ⟨b, off, e1, hcell⟩ := hx j x hj
  exact ⟨b, off, e1, (World.cell?_of_block (k.keep b (block_lt_of_cell hcell) (h.noint hcell))).trans hcell⟩
theorem Kf.gv (k : Kf gS p w w') (h : SI gS w s p) (q : GV) (g : Gd) (hx : GvI w q g) : GvI w' q g := ⟨k.ints h hx.1, k.ints h hx.2⟩
theorem Kf.gd (k : Kf gS p w w') (h : SI gS w s p) {v : Value} {g : Gd} (hx : GdI w v g) : GdI w' v g := by
  obtain ⟨A, n, c, B, m, d, rfl, a, b⟩ := hx
  exact ⟨A, n, c, B, m, d, rfl, k.ints h a, k.ints h b⟩
theorem Kf.moves (k : Kf gS p w w') (h : SI gS w s p) {v : Value} {ms : List Mv} (hx : Moves w v ms) : Moves w' v ms := by
  obtain ⟨A0, c, e, hx⟩ := hx
  refine ⟨A0, c, e, fun j hj => ?_⟩
  obtain ⟨b, off, e1, hcell⟩ := hx j hj
  have h0 := hcell 0 _ rfl
  have hb := k.keep b (block_lt_of_cell h0) (h.noint h0)
  exact ⟨b, off, e1, fun i u hu => (World.cell?_of_block hb).trans (hcell i u hu)⟩
/-- the state where nothing of it is written -/
theorem SI.below (h : SI gS w s p) (hb : Below w.heap.size w w') : SI gS w' s p := by
  have k : Kf gS p w w' := ⟨hb.size, fun b hlt _ => hb.block b hlt⟩
  have hk : ∀ b, Ow gS p b → w'.heap[b]? = w.heap[b]? := fun b ho => hb.block b (h.lt ho)
  obtain ⟨cs, q1, q2⟩ := h.cls
  exact ⟨(hk _ (.inl rfl)).trans h.hd, h.wl, h.w2, h.ne, h.mp1.keep (hk _ (.inr (.inl rfl))), h.mp2.keep (hk _ (.inr (.inr (.inl rfl)))),
    ⟨h.al1.1, fun i q e h1 h2 => ⟨(h.al1.2 i q e h1 h2).1, (h.al1.2 i q e h1 h2).2.below hb⟩⟩, ⟨cs, q1.below hb, q2.imp (k.gv h)⟩,
    fun i v gs h1 h2 => by
      obtain ⟨ps, a, b⟩ := h.wt i v gs h1 h2
      exact ⟨ps, a.below hb, b.imp (k.gv h)⟩, h.ap1, h.ap2⟩
theorem SI.put (h : SI gS w s p) {l : Nat} {o : Obj} (hl : Lp l w) : SI gS (w.putObj l o) s p := by
  have hne : ∀ b, Ow gS p b → (w.putObj l o).heap[b]? = w.heap[b]? := fun b ho => World.putObj_heap_other (by
    rintro rfl
    obtain ⟨r, e⟩ := hl
    rcases h.typ ho with ⟨es, c, e2⟩ | ⟨cs, t, fr, e2, _⟩ <;> (rw [e] at e2; cases e2))
  obtain ⟨cs, q1, q2⟩ := h.cls
  exact ⟨(hne _ (.inl rfl)).trans h.hd, h.wl, h.w2, h.ne, h.mp1.keep (hne _ (.inr (.inl rfl))), h.mp2.keep (hne _ (.inr (.inr (.inl rfl)))),
    ⟨h.al1.1, fun i q e h1 h2 => ⟨(h.al1.2 i q e h1 h2).1, (h.al1.2 i q e h1 h2).2.put hl⟩⟩, ⟨cs, q1.keepK fun b hb => hne b (.inr (.inr (.inr (.inl hb)))), q2.imp fun q g hx => ⟨hx.1.put hl, hx.2.put hl⟩⟩,
    fun i v gs h1 h2 => by
      obtain ⟨ps, a, b⟩ := h.wt i v gs h1 h2
      exact ⟨ps, a.keepK fun b hb => hne b (.inr (.inr (.inr (.inr ⟨v, List.mem_of_getElem? h1, hb⟩)))), b.imp fun q g hx => ⟨hx.1.put hl, hx.2.put hl⟩⟩, h.ap1, h.ap2⟩
end
end Go.Proofs.YteliflcbegcdlaaGreatDoor
