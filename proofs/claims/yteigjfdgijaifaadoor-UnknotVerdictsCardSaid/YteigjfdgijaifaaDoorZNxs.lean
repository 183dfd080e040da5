/- package unknot: the search's state in memory. -/
/- package unknot: a region that draws its order and makes an entry in each of two maps. -/
/- package unknot: search.next. -/
import Derived.Test.YteigjfdgijaifaaDoorZNbt
import Derived.Test.YteigjfdgijaifaaDoorZMps
namespace Go.Proofs.YteigjfdgijaifaaDoor
open Go.RowKit Go.Shelf
set_option linter.unusedVariables false

abbrev SL := Option Addr × Nat × Nat
abbrev GV := SL × SL
def sv (s : SL) : Value := .slice s.1 s.2.1 s.2.2
def eG (p : GV) : List Value := [sv p.1, sv p.2]
def GvI (w : World) (p : GV) (g : Gd) : Prop := Ints w (sv p.1) g.1 ∧ Ints w (sv p.2) g.2
theorem GvI.gd {w : World} {p : GV} {g : Gd} (h : GvI w p g) : GdI w (.agg #[sv p.1, sv p.2]) g := ⟨_, _, _, _, _, _, rfl, h.1, h.2⟩
theorem GdI.gv {w : World} {v : Value} {g : Gd} (h : GdI w v g) : ∃ p : GV, v = .agg #[sv p.1, sv p.2] ∧ GvI w p g := by
  obtain ⟨A, n, c, B, m, d, rfl, a, b⟩ := h
  exact ⟨((A, n, c), (B, m, d)), rfl, a, b⟩
/-- the list ps of values reads as the grids gs -/
def Al (w : World) : List GV → List Gd → Prop
  | [], [] => True
  | p :: ps, g :: gs => GvI w p g ∧ Al w ps gs
  | _, _ => False
theorem Al.len {w : World} : ∀ {ps : List GV} {gs : List Gd}, Al w ps gs → ps.length = gs.length
  | [], [], _ => rfl
  | p :: ps, g :: gs, h => by simp [Al.len h.2]
  | [], g :: gs, h => h.elim
  | p :: ps, [], h => h.elim
theorem Al.imp {w w' : World} (hk : ∀ p g, GvI w p g → GvI w' p g) : ∀ {ps : List GV} {gs : List Gd}, Al w ps gs → Al w' ps gs
  | [], [], _ => trivial
  | p :: ps, g :: gs, h => ⟨hk p g h.1, Al.imp hk h.2⟩
  | [], g :: gs, h => h.elim
  | p :: ps, [], h => h.elim
theorem Al.snoc {w : World} {q : GV} {x : Gd} (hq : GvI w q x) : ∀ {ps : List GV} {gs : List Gd}, Al w ps gs → Al w (ps ++ [q]) (gs ++ [x])
  | [], [], _ => ⟨hq, trivial⟩
  | p :: ps, g :: gs, h => ⟨h.1, Al.snoc hq h.2⟩
  | [], g :: gs, h => h.elim
  | p :: ps, [], h => h.elim
theorem Al.get {w : World} : ∀ {ps : List GV} {gs : List Gd}, Al w ps gs → ∀ (i : Nat) (p : GV) (g : Gd), ps[i]? = some p → gs[i]? = some g → GvI w p g
  | [], [], _, i, p, g, h, _ => by simp at h
  | p :: ps, g :: gs, h, 0, q, x, h1, h2 => by simp at h1 h2; subst h1; subst h2; exact h.1
  | p :: ps, g :: gs, h, i + 1, q, x, h1, h2 => Al.get h.2 i q x (by simpa using h1) (by simpa using h2)
  | [], g :: gs, h, _, _, _, _, _ => h.elim
  | p :: ps, [], h, _, _, _, _, _ => h.elim
theorem info_gr5 : (Tryd.prog.info? 26).map (fun i => (i.zero, i.size, i.bytes)) = some (some (.agg #[.slice none 0 0, .slice none 0 0]), 2, 48) := by kernel_rfl
theorem elG : ElQ Tryd.prog 26 2 eG where
  ex := by
    obtain ⟨i, hi, hz, hs, hb⟩ := info_parts info_gr5
    exact ⟨i, _, 48, hi, hz, hs, hb, rfl, by omega⟩
  pos := by omega
  len := fun x => rfl
  one := fun x q h => by unfold eG sv at h; simp at h; rcases h with rfl | rfl <;> rfl
  esl := fun x q h => by unfold eG sv at h; simp at h; rcases h with rfl | rfl <;> exact ⟨_, _, _, rfl⟩
  zsl := fun i z h1 h2 q hq => by
    obtain ⟨j, hj, hz, hs, hb⟩ := info_parts info_gr5
    have e1 := h1.symm.trans hj
    injection e1 with e1
    subst e1
    have e2 := h2.symm.trans hz
    injection e2 with e2
    subst e2
    have : q = .slice none 0 0 := by simpa [Value.cells] using hq
    exact ⟨_, _, _, this⟩
/-! ### the state -/
structure SP where
  m1 : Nat
  m2 : Nat
  vC : Value
  WS : List Value
  L1 : List (List UInt8 × Value)
  c1 : Nat
  c2 : Nat
def frS : Option Gd → List UInt8
  | none => []
  | some c => fmG c
def l2 (K : List En) : List (List UInt8 × Value) := K.map fun e => (fmG e.key, .string ⟨(frS e.fr).toArray⟩)
def Ow (gS : Nat) (p : SP) (b : Nat) : Prop := b = gS ∨ b = p.m1 ∨ b = p.m2 ∨ sBlk p.vC = some b ∨ ∃ v ∈ p.WS, sBlk v = some b
/-- the entries of the map of moves -/
def AlK (w : World) (L : List (List UInt8 × Value)) (K : List En) : Prop :=
  L.length = K.length ∧ ∀ (i : Nat) q e, L[i]? = some q → K[i]? = some e → q.1 = fmG e.key ∧ Moves w q.2 e.ms
structure SI (gS : Nat) (w : World) (s : St) (p : SP) : Prop where
  hd : Arr w gS 59 (.map (some p.m1) :: .map (some p.m2) :: p.vC :: p.WS)
  wl : p.WS.length = 41
  w2 : s.2.length = 41
  ne : p.m1 ≠ p.m2
  mp1 : MpS w p.m1 p.L1 p.c1
  mp2 : MpS w p.m2 (l2 s.1) p.c2
  al1 : AlK w p.L1 s.1
  cls : ∃ cs, QA 26 2 eG 0 w p.vC cs ∧ Al w cs (s.1.map En.key)
  wt : ∀ (i : Nat) v gs, p.WS[i]? = some v → s.2[i]? = some gs → ∃ ps, QA 26 2 eG 0 w v ps ∧ Al w ps gs
  ap1 : ∀ (i : Nat) v b, p.WS[i]? = some v → sBlk v = some b → sBlk p.vC ≠ some b
  ap2 : ∀ (i j : Nat) v u b, p.WS[i]? = some v → p.WS[j]? = some u → i ≠ j → sBlk v = some b → sBlk u ≠ some b
/-- the plain part -/
structure StP (s : St) : Prop where
  v1 : ∀ e ∈ s.1, Vd e.key.1 e.key.2
  v2 : ∀ l ∈ s.2, ∀ g ∈ l, Vd g.1 g.2
  nd : (s.1.map En.key).Nodup
  sm : ∀ l ∈ s.2, l.length ≤ s.1.length
  l2 : s.2.length = 41
/-- what may hold in a block of the state -/
theorem SI.typ {gS : Nat} {w : World} {s : St} {p : SP} (h : SI gS w s p) {b : Nat} (hb : Ow gS p b) : (∃ es c, w.heap[b]? = some (.map es c)) ∨ ∃ cs t fr, w.heap[b]? = some (.cells cs t fr) ∧ (t = 59 ∨ t = 26) := by
  rcases hb with rfl | rfl | rfl | hb | ⟨v, hv, hb⟩
  · exact .inr ⟨_, _, _, h.hd, .inl rfl⟩
  · obtain ⟨es, h1, _⟩ := h.mp1; exact .inl ⟨_, _, h1⟩
  · obtain ⟨es, h1, _⟩ := h.mp2; exact .inl ⟨_, _, h1⟩
  · obtain ⟨cs, h1, _⟩ := h.cls
    obtain ⟨cs, fr, h2⟩ := h1.typ b hb
    exact .inr ⟨_, _, _, h2, .inr rfl⟩
  · obtain ⟨i, hi⟩ := List.getElem?_of_mem hv
    have hlt : i < s.2.length := by have := (List.getElem?_eq_some_iff.1 hi).1; have := h.wl; have := h.w2; omega
    obtain ⟨ps, h1, _⟩ := h.wt i v _ hi (List.getElem?_eq_getElem hlt)
    obtain ⟨cs, fr, h2⟩ := h1.typ b hb
    exact .inr ⟨_, _, _, h2, .inr rfl⟩
theorem SI.lt {gS : Nat} {w : World} {s : St} {p : SP} (h : SI gS w s p) {b : Nat} (hb : Ow gS p b) : b < w.heap.size := by
  rcases h.typ hb with ⟨es, c, e⟩ | ⟨cs, t, fr, e, _⟩ <;> exact (Array.getElem?_eq_some_iff.1 e).1
/-- no integer lies in a block of the state -/
theorem SI.noint {gS : Nat} {w : World} {s : St} {p : SP} (h : SI gS w s p) {b i : Nat} {k : IntKind} {n : Int} (hc : w.cell? ⟨b, i, none⟩ = some (.int k n)) : ¬ Ow gS p b := by
  intro hb
  rcases hb with rfl | rfl | rfl | hb | ⟨v, hv, hb⟩
  · rw [h.hd.cell i] at hc
    rcases i with _ | _ | _ | i
    · cases hc
    · cases hc
    · obtain ⟨cs, h1, _⟩ := h.cls
      obtain ⟨A, c, e⟩ := h1.form
      simp only [List.getElem?_cons_succ, List.getElem?_cons_zero, e] at hc
      cases hc
    · simp only [List.getElem?_cons_succ] at hc
      have hlt : i < s.2.length := by have := (List.getElem?_eq_some_iff.1 hc).1; have := h.wl; have := h.w2; omega
      obtain ⟨ps, h1, _⟩ := h.wt i _ _ hc (List.getElem?_eq_getElem hlt)
      obtain ⟨A, c, e⟩ := h1.form
      cases e
  · obtain ⟨es, h1, _⟩ := h.mp1; unfold World.cell? at hc; rw [h1] at hc; cases hc
  · obtain ⟨es, h1, _⟩ := h.mp2; unfold World.cell? at hc; rw [h1] at hc; cases hc
  · obtain ⟨cs, h1, _⟩ := h.cls
    obtain ⟨A, n, c, e⟩ := h1.noint hb hc
    cases e
  · obtain ⟨j, hj⟩ := List.getElem?_of_mem hv
    have hlt : j < s.2.length := by have := (List.getElem?_eq_some_iff.1 hj).1; have := h.wl; have := h.w2; omega
    obtain ⟨ps, h1, _⟩ := h.wt j v _ hj (List.getElem?_eq_getElem hlt)
    obtain ⟨A, n, c, e⟩ := h1.noint hb hc
    cases e
/-- a step that writes the state's blocks alone -/
structure Kf (gS : Nat) (p : SP) (w w' : World) : Prop where
  siz : w.heap.size ≤ w'.heap.size
  keep : ∀ b, b < w.heap.size → ¬ Ow gS p b → w'.heap[b]? = w.heap[b]?
section
variable {gS : Nat} {w w' : World} {s : St} {p : SP}
theorem Kf.ints (k : Kf gS p w w') (h : SI gS w s p) {v : Value} {xs : List Int} (hx : Ints w v xs) : Ints w' v xs := by
  obtain ⟨A0, c, e, hc, hx⟩ := hx
  refine ⟨A0, c, e, hc, fun j x hj => ?_⟩
  obtain ⟨b, off, e1, hcell⟩ := hx j x hj
  exact ⟨b, off, e1, (World.cell?_of_block (k.keep b (block_lt_of_cell hcell) (h.noint hcell))).trans hcell⟩
theorem Kf.gv (k : Kf gS p w w') (h : SI gS w s p) (q : GV) (g : Gd) (hx : GvI w q g) : GvI w' q g := ⟨k.ints h hx.1, k.ints h hx.2⟩
theorem Kf.gd (k : Kf gS p w w') (h : SI gS w s p) {v : Value} {g : Gd} (hx : GdI w v g) : GdI w' v g := by
  obtain ⟨A, n, c, B, m, d, rfl, a, b⟩ := hx
  exact ⟨A, n, c, B, m, d, rfl, k.ints h a, k.ints h b⟩
theorem Kf.moves (k : Kf gS p w w') (h : SI gS w s p) {v : Value} {ms : List Mv} (hx : Moves w v ms) : Moves w' v ms := by
  obtain ⟨A0, c, e, hx⟩ := hx
  refine ⟨A0, c, e, fun j hj => ?_⟩
  obtain ⟨b, off, e1, hcell⟩ := hx j hj
  have h0 := hcell 0 _ rfl
  have hb := k.keep b (block_lt_of_cell h0) (h.noint h0)
  exact ⟨b, off, e1, fun i u hu => (World.cell?_of_block hb).trans (hcell i u hu)⟩
/-- the state where nothing of it is written -/
theorem SI.below (h : SI gS w s p) (hb : Below w.heap.size w w') : SI gS w' s p := by
  have k : Kf gS p w w' := ⟨hb.size, fun b hlt _ => hb.block b hlt⟩
  have hk : ∀ b, Ow gS p b → w'.heap[b]? = w.heap[b]? := fun b ho => hb.block b (h.lt ho)
  obtain ⟨cs, q1, q2⟩ := h.cls
  exact ⟨(hk _ (.inl rfl)).trans h.hd, h.wl, h.w2, h.ne, h.mp1.keep (hk _ (.inr (.inl rfl))), h.mp2.keep (hk _ (.inr (.inr (.inl rfl)))),
    ⟨h.al1.1, fun i q e h1 h2 => ⟨(h.al1.2 i q e h1 h2).1, (h.al1.2 i q e h1 h2).2.below hb⟩⟩, ⟨cs, q1.below hb, q2.imp (k.gv h)⟩,
    fun i v gs h1 h2 => by
      obtain ⟨ps, a, b⟩ := h.wt i v gs h1 h2
      exact ⟨ps, a.below hb, b.imp (k.gv h)⟩, h.ap1, h.ap2⟩
theorem SI.put (h : SI gS w s p) {l : Nat} {o : Obj} (hl : Lp l w) : SI gS (w.putObj l o) s p := by
  have hne : ∀ b, Ow gS p b → (w.putObj l o).heap[b]? = w.heap[b]? := fun b ho => World.putObj_heap_other (by
    rintro rfl
    obtain ⟨r, e⟩ := hl
    rcases h.typ ho with ⟨es, c, e2⟩ | ⟨cs, t, fr, e2, _⟩ <;> (rw [e] at e2; cases e2))
  obtain ⟨cs, q1, q2⟩ := h.cls
  exact ⟨(hne _ (.inl rfl)).trans h.hd, h.wl, h.w2, h.ne, h.mp1.keep (hne _ (.inr (.inl rfl))), h.mp2.keep (hne _ (.inr (.inr (.inl rfl)))),
    ⟨h.al1.1, fun i q e h1 h2 => ⟨(h.al1.2 i q e h1 h2).1, (h.al1.2 i q e h1 h2).2.put hl⟩⟩, ⟨cs, q1.keepK fun b hb => hne b (.inr (.inr (.inr (.inl hb)))), q2.imp fun q g hx => ⟨hx.1.put hl, hx.2.put hl⟩⟩,
    fun i v gs h1 h2 => by
      obtain ⟨ps, a, b⟩ := h.wt i v gs h1 h2
      exact ⟨ps, a.keepK fun b hb => hne b (.inr (.inr (.inr (.inr ⟨v, List.mem_of_getElem? h1, hb⟩)))), b.imp fun q g hx => ⟨hx.1.put hl, hx.2.put hl⟩⟩, h.ap1, h.ap2⟩
end
end Go.Proofs.YteigjfdgijaifaaDoor

namespace Go.Proofs.YteigjfdgijaifaaDoor
open Go.RowKit Go.Shelf
set_option linter.unusedVariables false

/-- a1, f1: the entry of the first map, its store; a2, f2: of the second -/
structure M2I (B : Nat) (w0 : World) (ev : Nat → Option Value) (m1 m2 a1 f1 a2 f2 : Nat) (L1 L2 : List (List UInt8 × Value)) (k : List UInt8) (v1 v2 : Value) (c1 c2 : Nat) (D : Nat → Bool) (x : Nat → Value) (w : World) : Prop where
  kn : ∀ i v, ev i = some v → D i = true → x i = v
  far : ∀ b, b ≠ m1 → b ≠ m2 → w.heap[b]? = w0.heap[b]?
  siz : w.heap.size = w0.heap.size
  bel : Below B w0 w
  s1 : D a1 = false → D f1 = false → MpS w m1 L1 c1
  p1 : D a1 = true → D f1 = false → MpP w m1 L1 k c1
  e1 : D f1 = true → MpS w m1 (L1 ++ [(k, v1)]) (c1 + 1)
  s2 : D a2 = false → D f2 = false → MpS w m2 L2 c2
  p2 : D a2 = true → D f2 = false → MpP w m2 L2 k c2
  e2 : D f2 = true → MpS w m2 (L2 ++ [(k, v2)]) (c2 + 1)
section
variable {B : Nat} {w0 w w' : World} {ev : Nat → Option Value} {m1 m2 a1 f1 a2 f2 : Nat} {L1 L2 : List (List UInt8 × Value)} {k : List UInt8} {v1 v2 : Value} {c1 c2 : Nat} {D : Nat → Bool} {x : Nat → Value}
theorem M2I.start (h1 : MpS w0 m1 L1 c1) (h2 : MpS w0 m2 L2 c2) : M2I B w0 ev m1 m2 a1 f1 a2 f2 L1 L2 k v1 v2 c1 c2 (fun _ => false) x w0.drew :=
  ⟨fun i v _ h => Bool.noConfusion h, fun _ _ _ => rfl, rfl, (Below.refl _ _).drew, fun _ _ => h1.keep rfl, fun h => Bool.noConfusion h, fun h => Bool.noConfusion h, fun _ _ => h2.keep rfl, fun h => Bool.noConfusion h, fun h => Bool.noConfusion h⟩
theorem M2I.kn' (h : M2I B w0 ev m1 m2 a1 f1 a2 f2 L1 L2 k v1 v2 c1 c2 D x w) {i : Nat} {v : Value} (hv : ∀ u, ev i = some u → v = u) : ∀ j u, ev j = some u → upd D i true j = true → upd x i v j = u := by
  intro j u hu hd
  by_cases e : j = i
  · subst e; rw [upd_same]; exact hv u hu
  · rw [upd_ne _ _ e] at hd ⊢; exact h.kn j u hu hd
theorem M2I.val (h : M2I B w0 ev m1 m2 a1 f1 a2 f2 L1 L2 k v1 v2 c1 c2 D x w) {i : Nat} {v : Value} (hv : ev i = some v) (n1 : a1 ≠ i) (n2 : f1 ≠ i) (n3 : a2 ≠ i) (n4 : f2 ≠ i) : M2I B w0 ev m1 m2 a1 f1 a2 f2 L1 L2 k v1 v2 c1 c2 (upd D i true) (upd x i v) w := by
  refine ⟨h.kn' fun u hu => ?_, h.far, h.siz, h.bel, ?_, ?_, ?_, ?_, ?_, ?_⟩
  · rw [hv] at hu; injection hu
  · rw [upd_ne _ _ n1, upd_ne _ _ n2]; exact h.s1
  · rw [upd_ne _ _ n1, upd_ne _ _ n2]; exact h.p1
  · rw [upd_ne _ _ n2]; exact h.e1
  · rw [upd_ne _ _ n3, upd_ne _ _ n4]; exact h.s2
  · rw [upd_ne _ _ n3, upd_ne _ _ n4]; exact h.p2
  · rw [upd_ne _ _ n4]; exact h.e2
/-- a step on the first map -/
theorem M2I.one (h : M2I B w0 ev m1 m2 a1 f1 a2 f2 L1 L2 k v1 v2 c1 c2 D x w) {i : Nat} {v : Value} (hv : ∀ u, ev i = some u → v = u) (n3 : a2 ≠ i) (n4 : f2 ≠ i) (hm : m1 ≠ m2) (hf : ∀ r, r ≠ m1 → w'.heap[r]? = w.heap[r]?) (hz : w'.heap.size = w.heap.size) (hb : Below B w w')
    (q1 : upd D i true a1 = false → upd D i true f1 = false → MpS w' m1 L1 c1) (q2 : upd D i true a1 = true → upd D i true f1 = false → MpP w' m1 L1 k c1) (q3 : upd D i true f1 = true → MpS w' m1 (L1 ++ [(k, v1)]) (c1 + 1)) :
    M2I B w0 ev m1 m2 a1 f1 a2 f2 L1 L2 k v1 v2 c1 c2 (upd D i true) (upd x i v) w' := by
  refine ⟨h.kn' hv, fun b h1 h2 => (hf b h1).trans (h.far b h1 h2), hz.trans h.siz, h.bel.trans hb, q1, q2, q3, ?_, ?_, ?_⟩
  · rw [upd_ne _ _ n3, upd_ne _ _ n4]; exact fun a b => (h.s2 a b).keep (hf _ (Ne.symm hm))
  · rw [upd_ne _ _ n3, upd_ne _ _ n4]; exact fun a b => (h.p2 a b).keep (hf _ (Ne.symm hm))
  · rw [upd_ne _ _ n4]; exact fun a => (h.e2 a).keep (hf _ (Ne.symm hm))
theorem M2I.two (h : M2I B w0 ev m1 m2 a1 f1 a2 f2 L1 L2 k v1 v2 c1 c2 D x w) {i : Nat} {v : Value} (hv : ∀ u, ev i = some u → v = u) (n3 : a1 ≠ i) (n4 : f1 ≠ i) (hm : m1 ≠ m2) (hf : ∀ r, r ≠ m2 → w'.heap[r]? = w.heap[r]?) (hz : w'.heap.size = w.heap.size) (hb : Below B w w')
    (q1 : upd D i true a2 = false → upd D i true f2 = false → MpS w' m2 L2 c2) (q2 : upd D i true a2 = true → upd D i true f2 = false → MpP w' m2 L2 k c2) (q3 : upd D i true f2 = true → MpS w' m2 (L2 ++ [(k, v2)]) (c2 + 1)) :
    M2I B w0 ev m1 m2 a1 f1 a2 f2 L1 L2 k v1 v2 c1 c2 (upd D i true) (upd x i v) w' := by
  refine ⟨h.kn' hv, fun b h1 h2 => (hf b h2).trans (h.far b h1 h2), hz.trans h.siz, h.bel.trans hb, ?_, ?_, ?_, q1, q2, q3⟩
  · rw [upd_ne _ _ n3, upd_ne _ _ n4]; exact fun a b => (h.s1 a b).keep (hf _ hm)
  · rw [upd_ne _ _ n3, upd_ne _ _ n4]; exact fun a b => (h.p1 a b).keep (hf _ hm)
  · rw [upd_ne _ _ n4]; exact fun a => (h.e1 a).keep (hf _ hm)
end
theorem zero_mvs (w : World) : (zeroValue 22).run Tryd.prog w = .ok (.slice none 0 0) w := by
  obtain ⟨i, hi, hz⟩ : ∃ i, Tryd.prog.info? 22 = some i ∧ i.zero = some (.slice none 0 0) := by
    have h : (Tryd.prog.info? 22).map (fun i => i.zero) = some (some (.slice none 0 0)) := by kernel_rfl
    cases e : Tryd.prog.info? 22 with
    | none => rw [e] at h; cases h
    | some i => rw [e] at h; injection h with h; exact ⟨i, rfl, h⟩
  simp [zeroValue, typeInfo, hi, hz]
theorem zero_str (w : World) : (zeroValue 9).run Tryd.prog w = .ok (.string ⟨#[]⟩) w := by
  obtain ⟨i, hi, hz⟩ : ∃ i, Tryd.prog.info? 9 = some i ∧ i.zero = some (.string ⟨#[]⟩) := by
    have h : (Tryd.prog.info? 9).map (fun i => i.zero) = some (some (.string ⟨#[]⟩)) := by kernel_rfl
    cases e : Tryd.prog.info? 9 with
    | none => rw [e] at h; cases h
    | some i => rw [e] at h; injection h with h; exact ⟨i, rfl, h⟩
  simp [zeroValue, typeInfo, hi, hz]
end Go.Proofs.YteigjfdgijaifaaDoor

namespace Go.Proofs.YteigjfdgijaifaaDoor
open Go.RowKit Go.Shelf
set_option linter.unusedVariables false

/-! ### plain -/
theorem nextM_none : ∀ (l : List (List Gd)), (∀ x ∈ l, x = []) → nextM l = none
  | [], _ => rfl
  | x :: t, h => by
    obtain rfl : x = [] := h x (by simp)
    rw [nextM, nextM_none t (fun y hy => h y (by simp [hy]))]; rfl
theorem nextM_some : ∀ (k : Nat) (l : List (List Gd)) {g : Gd} {t : List Gd}, (∀ i, i < k → l[i]? = some []) → l[k]? = some (g :: t) → nextM l = some (g, l.set k t)
  | 0, [], g, t, _, h => by simp at h
  | 0, x :: l, g, t, _, h => by
    simp at h; subst h; rfl
  | k + 1, [], g, t, _, h => by simp at h
  | k + 1, x :: l, g, t, h0, h => by
    have hx : x = [] := by have := h0 0 (by omega); simpa using this
    subst hx
    rw [nextM, nextM_some k l (fun i hi => by have := h0 (i + 1) (by omega); simpa using this) (by simpa using h)]
    rfl
/-! ### an array of slices -/
theorem info_41 : ∃ i, Tryd.prog.info? 57 = some i ∧ i.size = 41 := by
  have h : (Tryd.prog.info? 57).map (fun i => i.size) = some 41 := by kernel_rfl
  cases e : Tryd.prog.info? 57 with
  | none => rw [e] at h; cases h
  | some i => rw [e] at h; injection h with h; exact ⟨i, rfl, h⟩
theorem info_sl1 : ∃ i, Tryd.prog.info? 44 = some i ∧ i.size = 1 := by
  have h : (Tryd.prog.info? 44).map (fun i => i.size) = some 1 := by kernel_rfl
  cases e : Tryd.prog.info? 44 with
  | none => rw [e] at h; cases h
  | some i => rw [e] at h; injection h with h; exact ⟨i, rfl, h⟩
theorem load41 {w : World} {gS : Nat} {WS : List Value} (hl : WS.length = 41) (h : ∀ (j : Nat) v, WS[j]? = some v → w.cell? ⟨gS, 3 + j, none⟩ = some v) :
    Sem.run Tryd.prog (Instr.loadAt 57 (.pointer (some ⟨gS, 3, none⟩))) w = .ok (.agg WS.toArray) w := by
  obtain ⟨i, e, hi⟩ := info_41
  have hu := Tryd.underlying57
  have hagg : (isAgg 57).run Tryd.prog w = .ok true w := by
    unfold isAgg
    rw [Sem.run_bind, run_underlying hu w]
    rfl
  have hc := run_loadCells_list (P := Tryd.prog) w ⟨gS, 3, none⟩ WS (fun j v hj => by
    have hadd : (⟨gS, 3, none⟩ : Addr).add j = ⟨gS, 3 + j, none⟩ := by unfold Addr.add; split <;> simp_all
    rw [hadd]; exact h j v hj)
  rw [hl] at hc
  simp only [Instr.loadAt, Instr.sureAddr, Sem.run_bind, Sem.run_pure, Result.andThen_ok, loadVar, hagg, sizeOf, typeInfo]
  simp [e, hi, hc]
/-- one operation by hand -/
theorem wpList_load_at {P : Program} {ops : Array Oper} {rest : List Oper} {o : Oper} {a : Act} {w : World} {Q : Exit → Act → World → Prop} {T : TypeId} {x : Operand} {p v : Value} (hgd : o.guard = none) (ho : o.op = .load T x) (hx : a.eval x = p)
    (hr : Sem.run P (Instr.loadAt T p) w = .ok v w) (h : wpList P ops Q rest (a.put o.dst v) w) : wpList P ops Q (o :: rest) a w :=
  wpList_plain hgd fun _ hK => by
    unfold Oper.wp execOp
    simp only [ho, hx, Sem.run_bind, hr, Result.andThen_ok, Sem.run_pure]
    exact hK _ _ h
theorem wpList_index_at {P : Program} {ops : Array Oper} {rest : List Oper} {o : Oper} {a : Act} {w : World} {Q : Exit → Act → World → Prop} {T : TypeId} {x y : Operand} {p q v : Value} (hgd : o.guard = none) (ho : o.op = .index T x y) (hx : a.eval x = p) (hy : a.eval y = q)
    (hr : Sem.run P (Instr.index T p q) w = .ok v w) (h : wpList P ops Q rest (a.put o.dst v) w) : wpList P ops Q (o :: rest) a w :=
  wpList_plain hgd fun _ hK => by
    unfold Oper.wp execOp
    simp only [ho, hx, hy, Sem.run_bind, hr, Result.andThen_ok, Sem.run_pure]
    exact hK _ _ h
theorem index41 {W : World} {WS : List Value} {k : Nat} {v : Value} (hk : WS[k]? = some v) (hl : WS.length = 41) :
    Sem.run Tryd.prog (Instr.index 57 (.agg WS.toArray) (.int .i64 (k : Int))) W = .ok v W := by
  have hlt : k < 41 := by rw [← hl]; exact (List.getElem?_eq_some_iff.1 hk).1
  have hu := Tryd.underlying57
  have hu2 := Tryd.underlying44
  obtain ⟨i, e, hi⟩ := info_sl1
  have h0 : (0 : Int) ≤ k ∧ (k : Int) < (41 : Nat) := by omega
  have hagg : (isAgg 44).run Tryd.prog W = .ok false W := by
    unfold isAgg
    rw [Sem.run_bind, run_underlying hu2 W]
    rfl
  simp only [Instr.index, asIntOf, Sem.run_bind, Sem.run_pure, Result.andThen_ok, run_underlying hu W]
  rw [if_pos h0]
  simp [part, hagg, sizeOf, typeInfo, e, hi, hk, Sem.run_bind]
theorem results_ctv {fn : Func} {p u : Tmp} {ty : TypeId} (h : fn.results = #[.cell p ty, .tmp u]) (tmps : Array Value) (P : Program) (w : World) (q : Addr) (v : Value)
    (hp : tmps[p]?.getD undef = .pointer (some q)) (hl : (loadVar ty q).run P w = .ok v w) : (results fn tmps).run P w = .ok (.tuple #[v, tmps[u]?.getD undef]) w := by
  simp [results, h, hp, asAddr, hl]
theorem load_gr {w : World} {R : Nat} {a b : Value} (h : Arr w R 26 [a, b]) : (loadVar 26 ⟨R, 0, none⟩).run Tryd.prog w = .ok (.agg #[a, b]) w := by
  obtain ⟨i, hi, hz, hs, hb⟩ := info_parts info_gr5
  exact run_loadVar_row w R _ _ _ _ _ h Tryd.underlying26 rfl (by rw [hi]; show some i.size = _; rw [hs]; rfl)
/-- one queue of the state is cut -/
theorem SI.cut {gS : Nat} {w w' : World} {s : St} {p : SP} (h : SI gS w s p) {k : Nat} {v u : Value} {g : Gd} {gl : List Gd} {ps : List GV} (hv : p.WS[k]? = some v) (hgs : s.2[k]? = some (g :: gl)) (hq : QA 26 2 eG 0 w u ps) (hpa : Al w ps gl) (hb : sBlk u = sBlk v)
    (hd : Arr w' gS 59 (.map (some p.m1) :: .map (some p.m2) :: p.vC :: p.WS.set k u)) (hf : ∀ b, b ≠ gS → b < w.heap.size → w'.heap[b]? = w.heap[b]?) (hz : w.heap.size ≤ w'.heap.size) : SI gS w' (s.1, s.2.set k gl) { p with WS := p.WS.set k u } := by
  have kf : Kf gS p w w' := ⟨hz, fun b h1 h2 => hf b (fun e => h2 (.inl e)) h1⟩
  have hgt : ∀ {b cs t fr}, w.heap[b]? = some (.cells cs t fr) → t = 26 → b ≠ gS := fun {b cs t fr} e ht e2 => by
    subst e2; subst ht
    have e3 : w.heap[b]? = _ := h.hd
    have e4 := e.symm.trans e3
    injection e4 with e4
    injection e4 with _ e4 _
    exact absurd e4 (by decide)
  have hqk : ∀ {e : Value} {ps : List GV}, QA 26 2 eG 0 w e ps → QA 26 2 eG 0 w' e ps := fun q => q.keepK fun b hb2 => by
    obtain ⟨cs, fr, e1⟩ := q.typ b hb2
    exact hf b (hgt e1 rfl) (q.lt b hb2)
  have n1 : p.m1 ≠ gS := fun e => by
    obtain ⟨es, e1, _⟩ := h.mp1
    have e2 : w.heap[gS]? = _ := h.hd
    rw [e] at e1
    have e3 := e1.symm.trans e2
    cases e3
  have n2 : p.m2 ≠ gS := fun e => by
    obtain ⟨es, e1, _⟩ := h.mp2
    have e2 : w.heap[gS]? = _ := h.hd
    rw [e] at e1
    have e3 := e1.symm.trans e2
    cases e3
  have hkl : k < p.WS.length := (List.getElem?_eq_some_iff.1 hv).1
  have hk2 : k < s.2.length := (List.getElem?_eq_some_iff.1 hgs).1
  obtain ⟨cs, q1, q2⟩ := h.cls
  refine ⟨hd, by simpa using h.wl, by simpa using h.w2, h.ne, h.mp1.keep (hf _ n1 h.mp1.lt), h.mp2.keep (hf _ n2 h.mp2.lt), ⟨h.al1.1, fun i q e h1 h2 => ⟨(h.al1.2 i q e h1 h2).1, kf.moves h (h.al1.2 i q e h1 h2).2⟩⟩, ⟨cs, hqk q1, q2.imp (kf.gv h)⟩, ?_, ?_, ?_⟩
  · intro i v' gs' h1 h2
    by_cases e : i = k
    · subst e
      simp only at h1 h2
      rw [List.getElem?_set_self hkl] at h1
      rw [List.getElem?_set_self hk2] at h2
      injection h1 with h1; injection h2 with h2
      subst h1; subst h2
      exact ⟨ps, hqk hq, hpa.imp (kf.gv h)⟩
    · simp only at h1 h2
      rw [List.getElem?_set_ne (Ne.symm e)] at h1 h2
      obtain ⟨ps', a, b⟩ := h.wt i v' gs' h1 h2
      exact ⟨ps', hqk a, b.imp (kf.gv h)⟩
  · intro i v' b h1 h2
    simp only at h1 ⊢
    by_cases e : i = k
    · subst e
      rw [List.getElem?_set_self hkl] at h1
      injection h1 with h1
      subst h1
      rw [hb] at h2
      exact h.ap1 i v b hv h2
    · rw [List.getElem?_set_ne (Ne.symm e)] at h1
      exact h.ap1 i v' b h1 h2
  · intro i j v' u' b h1 h2 hij h3
    simp only at h1 h2
    by_cases e : i = k
    · subst e
      rw [List.getElem?_set_self hkl] at h1
      injection h1 with h1
      subst h1
      rw [List.getElem?_set_ne hij] at h2
      rw [hb] at h3
      exact h.ap2 i j v u' b hv h2 hij h3
    · rw [List.getElem?_set_ne (Ne.symm e)] at h1
      by_cases e2 : j = k
      · subst e2
        rw [List.getElem?_set_self hkl] at h2
        injection h2 with h2
        subst h2
        rw [hb]
        exact h.ap2 i j v' v b h1 hv hij h3
      · rw [List.getElem?_set_ne (Ne.symm e2)] at h2
        exact h.ap2 i j v' u' b h1 h2 hij h3
/-- what next leaves -/
def NxtP (B gS : Nat) (p : SP) (s : St) (w : World) (e : Ending) (w' : World) : Prop :=
  (nextM s.2 = none ∧ e = .returned (.tuple #[.agg #[.slice none 0 0, .slice none 0 0], .bool false]) ∧ Below w.heap.size w w') ∨
  ∃ g W' q p', nextM s.2 = some (g, W') ∧ e = .returned (.tuple #[.agg #[sv q.1, sv q.2], .bool true]) ∧ GvI w' q g ∧ SI gS w' (s.1, W') p' ∧ Below B w w' ∧ Kf gS p w w' ∧ ∀ b, Ow gS p' b → Ow gS p b
set_option maxHeartbeats 2000000 in
set_option maxRecDepth 100000 in
theorem next_any (B gS : Nat) (p : SP) (s : St) (w : World) (hs : SI gS w s p) (hp : StP s) (hB : ∀ b, Ow gS p b → B ≤ b) (hBw : B ≤ w.heap.size) :
    Calls Tryd.prog 36 #[.pointer (some ⟨gS, 0, none⟩)] w (NxtP B gS p s w) := by
  obtain ⟨m1, m2, vC, WS, L1, k1, k2⟩ := p
  have HS := Lib.hid hs
  have HP := Lib.hid hp
  have HB := Lib.hid hB
  have HBW := Lib.hid hBw
  have HWL := Lib.hid (show WS.length = 41 from hs.wl)
  have HW2 := Lib.hid hs.w2
  have hgS := hs.hd.lt
  clear hs hp hB hBw
  go_enter Tryd.func36, Tryd.ntmps36
  go_upto_region 1 with fail
  have hal := (Below.refl w.heap.size w).alloc (Nat.le_refl _) (.cells #[.slice none 0 0, .slice none 0 0] 26)
  have HB1 := Lib.hid hal
  have HR1 := Lib.hid (show Arr (w.alloc (.cells #[.slice none 0 0, .slice none 0 0] 26)) w.heap.size 26 [.slice none 0 0, .slice none 0 0] from Arr.new w _ [_, _])
  obtain ⟨w1, hw1⟩ : ∃ W', W' = w.alloc (.cells #[.slice none 0 0, .slice none 0 0] 26) := ⟨_, rfl⟩
  rw [← hw1] at HB1 HR1 ⊢
  have HS1 := Lib.hid (HS.out.below HB1.out)
  clear hal hw1
  have yld := load41 (w := w1) (gS := gS) HWL.out (fun j v hj => (HS1.out.hd.cell (3 + j)).trans (by rw [show 3 + j = j + 1 + 1 + 1 by omega]; exact hj))
  go_wp2_with (refine wpList_load_at rfl rfl rfl yld ?_)
  clear yld
  go_loopg [10] 41 (fun gk s10 wr => ∃ k : Nat, k ≤ 41 ∧ gk = 41 - k ∧ s10 = .int .i64 (k : Int) ∧ wr = w1 ∧ Hid (∀ i, i < k → s.2[i]? = some []))
  case atStart => exact ⟨0, by omega, rfl, rfl, rfl, Lib.hid (fun i hi => by omega)⟩
  case round =>
    obtain ⟨k, hk, rfl, rfl, rfl, HE⟩ := hrel
    by_cases hlt : k < 41
    · have z1 : (k : Int) < 41 := by omega
      have hkW : k < WS.length := by rw [HWL.out]; exact hlt
      have hk2 : k < s.2.length := by rw [HW2.out]; exact hlt
      obtain ⟨v, hv⟩ : ∃ v, WS[k]? = some v := ⟨_, List.getElem?_eq_getElem hkW⟩
      obtain ⟨gs, hgs⟩ : ∃ v, s.2[k]? = some v := ⟨_, List.getElem?_eq_getElem hk2⟩
      obtain ⟨ps, hq, hpa⟩ := HS.out.wt k v gs hv hgs
      have hpl := hpa.len
      obtain ⟨A, c, hvv⟩ := hq.form
      have yix := index41 (W := wr) hv HWL.out
      rw [hvv] at yix
      have HGS := Lib.hid hgs
      have HV := Lib.hid hv
      have HQ := Lib.hid hq
      have HPA := Lib.hid hpa
      have HVV := Lib.hid hvv
      clear hq hpa hgs hv hvv hkW hk2 hlt
      cases hps : ps with
      | nil =>
        subst hps
        have HGN := Lib.hid (show gs = [] from List.eq_nil_of_length_eq_zero hpl.symm)
        clear hpl
        go_wp2_with (refine wpList_index_at rfl rfl rfl rfl yix ?_)
        go_roundg (41 - (k + 1))
        case measure => omega
        case rel => exact ⟨k + 1, by omega, rfl, by go_num, rfl, Lib.hid (fun i hi => by
          by_cases e : i = k
          · subst e; rw [HGS.out, HGN.out]
          · exact HE.out i (by omega))⟩
      | cons q ps' =>
        subst hps
        obtain ⟨g, gl, hgl⟩ : ∃ g gl, gs = g :: gl := by
          cases gs with
          | nil => simp at hpl
          | cons g gl => exact ⟨g, gl, rfl⟩
        subst hgl
        obtain ⟨g0, o, c', e0, hb0, hcell, hcut⟩ := QA.cons (e := 26) (sz := 2) (enc := eG) (fun _ => rfl) HQ.out
        have e1 := HVV.out.symm.trans e0
        injection e1 with e1 e2 e3
        subst e1; subst e3
        have HCUT := Lib.hid hcut
        have HGV := Lib.hid (show GvI w q g from HPA.out.1)
        have HNX := Lib.hid (nextM_some k s.2 HE.out HGS.out)
        have hg0l := HQ.out.lt g0 (by rw [HVV.out]; rfl)
        have q0 := (World.cell?_of_block (HB1.out.block g0 hg0l)).trans (hcell 0 (sv q.1) rfl)
        have q1 := (World.cell?_of_block (HB1.out.block g0 hg0l)).trans (hcell 1 (sv q.2) rfl)
        have gc := (HS1.out.hd.cell (3 + k)).trans (show _ = some v by rw [show 3 + k = k + 1 + 1 + 1 by omega]; exact HV.out)
        have gf := HS1.out.hd.frozen (3 + k)
        have r0 := HR1.out.cell 0
        have r1 := HR1.out.cell 1
        have f0 := HR1.out.frozen 0
        have f1 := HR1.out.frozen 1
        clear e0 e2 hcell hcut hb0 hpl
        simp only [List.length_cons] at yix ⊢
        have HG0 := Lib.hid (show g0 ≠ gS from fun e => by
          obtain ⟨cs0, fr0, e1⟩ := HQ.out.typ g0 (by rw [HVV.out]; rfl)
          have e2 : w.heap[gS]? = _ := HS.out.hd
          rw [e] at e1
          have e3 := e1.symm.trans e2
          injection e3 with e3
          injection e3 with _ e3 _
          exact absurd e3 (by decide))
        have HGL := Lib.hid hgS
        have HQ0 := Lib.hid q0
        have HQ1 := Lib.hid q1
        clear q0 q1 r0 r1 f0 f1 hgS
        go_upto_region 5 with (refine wpList_index_at rfl rfl rfl rfl yix ?_)
        clear yix
        by_cases hc0 : c' = 0
        · subst hc0
          go_region
          have HU := Lib.hid (HCUT.out (some ⟨g0, o, none⟩) (.inl ⟨rfl, rfl⟩))
          obtain ⟨u, hu⟩ : ∃ u : Value, u = .slice (some ⟨g0, o, none⟩) ps'.length 0 := ⟨_, rfl⟩
          have HSB := Lib.hid (show sBlk u = sBlk v by rw [hu, HVV.out]; rfl)
          rw [← hu] at HU ⊢
          clear hu
          have hlt0 : gS < w.heap.size := HGL.out
          have HA := Lib.hid (show Arr (wr.setCell ⟨gS, 3 + k, none⟩ u).drew gS 59 (.map (some m1) :: .map (some m2) :: vC :: WS.set k u) from by
            have := HS1.out.hd.set (3 + k) u
            rw [show 3 + k = k + 1 + 1 + 1 by omega] at this ⊢
            exact this)
          have HF := Lib.hid (fun (b : Nat) (hb : b ≠ gS) => show (wr.setCell ⟨gS, 3 + k, none⟩ u).drew.heap[b]? = wr.heap[b]? from Below.heap_setCell wr ⟨gS, 3 + k, none⟩ u b (fun e => hb e))
          have HZ := Lib.hid (show (wr.setCell ⟨gS, 3 + k, none⟩ u).drew.heap.size = wr.heap.size from by simp)
          have HBB := Lib.hid (show Below B wr (wr.setCell ⟨gS, 3 + k, none⟩ u).drew from ((Below.refl B wr).setCell (p := ⟨gS, 3 + k, none⟩) (HB.out gS (.inl rfl)) u).drew)
          generalize (wr.setCell ⟨gS, 3 + k, none⟩ u).drew = w5 at HA HF HZ HBB ⊢
          have hR5 : Arr w5 w.heap.size 26 [.slice none 0 0, .slice none 0 0] := (HF.out _ (by omega)).trans HR1.out
          have hg0 : g0 ≠ gS := HG0.out
          have q0 : w5.cell? ⟨g0, o, none⟩ = some (sv q.1) := (World.cell?_of_block (HF.out g0 hg0)).trans HQ0.out
          have q1 : w5.cell? ⟨g0, o + 1, none⟩ = some (sv q.2) := (World.cell?_of_block (HF.out g0 hg0)).trans HQ1.out
          have r0 := hR5.cell 0
          have r1 := hR5.cell 1
          have f0 := hR5.frozen 0
          have f1 := hR5.frozen 1
          clear hlt0 hg0
          simp only [sv] at q0 q1
          go_wp2_with fail
          have a2 := (hR5.set 0 (sv q.1)).set 1 (sv q.2)
          have HW9 := Lib.hid (show ∀ b, b ≠ w.heap.size → ((w5.setCell ⟨w.heap.size, 0, none⟩ (sv q.1)).setCell ⟨w.heap.size, 1, none⟩ (sv q.2)).heap[b]? = w5.heap[b]? from fun b hb => (Below.heap_setCell _ ⟨w.heap.size, 1, none⟩ _ b (fun e => hb e)).trans (Below.heap_setCell _ ⟨w.heap.size, 0, none⟩ _ b (fun e => hb e)))
          have HZ9 := Lib.hid (show ((w5.setCell ⟨w.heap.size, 0, none⟩ (sv q.1)).setCell ⟨w.heap.size, 1, none⟩ (sv q.2)).heap.size = w5.heap.size by simp)
          have HB9 := Lib.hid (((Below.refl B w5).setCell (p := ⟨w.heap.size, 0, none⟩) HBW.out (sv q.1)).setCell (p := ⟨w.heap.size, 1, none⟩) HBW.out (sv q.2))
          simp only [sv] at a2 HW9 HZ9 HB9
          generalize (w5.setCell ⟨w.heap.size, 0, none⟩ (.slice q.1.1 q.1.2.1 q.1.2.2)).setCell ⟨w.heap.size, 1, none⟩ (.slice q.2.1 q.2.2.1 q.2.2.2) = w9 at a2 HW9 HZ9 HB9 ⊢
          refine bodyPost_ret (results_ctv rfl _ _ _ ⟨w.heap.size, 0, none⟩ _ rfl (load_gr a2)) rfl ?_
          have hff : ∀ b, b ≠ gS → b < w.heap.size → w9.heap[b]? = w.heap[b]? := fun b h1 h2 => ((HW9.out b (by omega)).trans (HF.out b h1)).trans (HB1.out.block b h2)
          have hzz : w.heap.size ≤ w9.heap.size := by have := HZ9.out; have := HZ.out; have := HB1.out.size; omega
          have hA9 : Arr w9 gS 59 (.map (some m1) :: .map (some m2) :: vC :: WS.set k u) := (HW9.out gS (by have := HGL.out; omega)).trans HA.out
          have hff1 : ∀ b, b ≠ gS → b < wr.heap.size → b ≠ w.heap.size → w9.heap[b]? = wr.heap[b]? := fun b h1 h2 h3 => (HW9.out b h3).trans (HF.out b h1)
          refine .inr ⟨g, _, q, _, HNX.out, rfl, ?_, SI.cut (w := w) (ps := ps') HS.out HV.out HGS.out ?_ ?_ HSB.out hA9 hff hzz, ?_, ⟨hzz, fun b h1 h2 => hff b (fun e => h2 (.inl e)) h1⟩, ?_⟩
          · exact Kf.gv (p := ⟨m1, m2, vC, WS, L1, k1, k2⟩) ⟨hzz, fun b h1 h2 => hff b (fun e => h2 (.inl e)) h1⟩ HS.out q g HGV.out
          · exact HU.out
          · exact HPA.out.2
          · exact ((HB1.out.mono HBW.out).trans HBB.out).trans HB9.out
          · intro b hb
            rcases hb with e | e | e | e | ⟨x, hx, e⟩
            · exact .inl e
            · exact .inr (.inl e)
            · exact .inr (.inr (.inl e))
            · exact .inr (.inr (.inr (.inl e)))
            · rcases List.mem_or_eq_of_mem_set hx with h | h
              · exact .inr (.inr (.inr (.inr ⟨x, h, e⟩)))
              · subst h
                exact .inr (.inr (.inr (.inr ⟨v, List.mem_of_getElem? HV.out, HSB.out ▸ e⟩)))
        · go_region
          have HU := Lib.hid (HCUT.out (some ⟨g0, o + 2, none⟩) (.inr rfl))
          obtain ⟨u, hu⟩ : ∃ u : Value, u = .slice (some ⟨g0, o + 2, none⟩) ps'.length c' := ⟨_, rfl⟩
          have HSB := Lib.hid (show sBlk u = sBlk v by rw [hu, HVV.out]; rfl)
          rw [← hu] at HU ⊢
          clear hu
          have hlt0 : gS < w.heap.size := HGL.out
          have HA := Lib.hid (show Arr (wr.setCell ⟨gS, 3 + k, none⟩ u).drew gS 59 (.map (some m1) :: .map (some m2) :: vC :: WS.set k u) from by
            have := HS1.out.hd.set (3 + k) u
            rw [show 3 + k = k + 1 + 1 + 1 by omega] at this ⊢
            exact this)
          have HF := Lib.hid (fun (b : Nat) (hb : b ≠ gS) => show (wr.setCell ⟨gS, 3 + k, none⟩ u).drew.heap[b]? = wr.heap[b]? from Below.heap_setCell wr ⟨gS, 3 + k, none⟩ u b (fun e => hb e))
          have HZ := Lib.hid (show (wr.setCell ⟨gS, 3 + k, none⟩ u).drew.heap.size = wr.heap.size from by simp)
          have HBB := Lib.hid (show Below B wr (wr.setCell ⟨gS, 3 + k, none⟩ u).drew from ((Below.refl B wr).setCell (p := ⟨gS, 3 + k, none⟩) (HB.out gS (.inl rfl)) u).drew)
          generalize (wr.setCell ⟨gS, 3 + k, none⟩ u).drew = w5 at HA HF HZ HBB ⊢
          have hR5 : Arr w5 w.heap.size 26 [.slice none 0 0, .slice none 0 0] := (HF.out _ (by omega)).trans HR1.out
          have hg0 : g0 ≠ gS := HG0.out
          have q0 : w5.cell? ⟨g0, o, none⟩ = some (sv q.1) := (World.cell?_of_block (HF.out g0 hg0)).trans HQ0.out
          have q1 : w5.cell? ⟨g0, o + 1, none⟩ = some (sv q.2) := (World.cell?_of_block (HF.out g0 hg0)).trans HQ1.out
          have r0 := hR5.cell 0
          have r1 := hR5.cell 1
          have f0 := hR5.frozen 0
          have f1 := hR5.frozen 1
          clear hlt0 hg0
          simp only [sv] at q0 q1
          go_wp2_with fail
          have a2 := (hR5.set 0 (sv q.1)).set 1 (sv q.2)
          have HW9 := Lib.hid (show ∀ b, b ≠ w.heap.size → ((w5.setCell ⟨w.heap.size, 0, none⟩ (sv q.1)).setCell ⟨w.heap.size, 1, none⟩ (sv q.2)).heap[b]? = w5.heap[b]? from fun b hb => (Below.heap_setCell _ ⟨w.heap.size, 1, none⟩ _ b (fun e => hb e)).trans (Below.heap_setCell _ ⟨w.heap.size, 0, none⟩ _ b (fun e => hb e)))
          have HZ9 := Lib.hid (show ((w5.setCell ⟨w.heap.size, 0, none⟩ (sv q.1)).setCell ⟨w.heap.size, 1, none⟩ (sv q.2)).heap.size = w5.heap.size by simp)
          have HB9 := Lib.hid (((Below.refl B w5).setCell (p := ⟨w.heap.size, 0, none⟩) HBW.out (sv q.1)).setCell (p := ⟨w.heap.size, 1, none⟩) HBW.out (sv q.2))
          simp only [sv] at a2 HW9 HZ9 HB9
          generalize (w5.setCell ⟨w.heap.size, 0, none⟩ (.slice q.1.1 q.1.2.1 q.1.2.2)).setCell ⟨w.heap.size, 1, none⟩ (.slice q.2.1 q.2.2.1 q.2.2.2) = w9 at a2 HW9 HZ9 HB9 ⊢
          refine bodyPost_ret (results_ctv rfl _ _ _ ⟨w.heap.size, 0, none⟩ _ rfl (load_gr a2)) rfl ?_
          have hff : ∀ b, b ≠ gS → b < w.heap.size → w9.heap[b]? = w.heap[b]? := fun b h1 h2 => ((HW9.out b (by omega)).trans (HF.out b h1)).trans (HB1.out.block b h2)
          have hzz : w.heap.size ≤ w9.heap.size := by have := HZ9.out; have := HZ.out; have := HB1.out.size; omega
          have hA9 : Arr w9 gS 59 (.map (some m1) :: .map (some m2) :: vC :: WS.set k u) := (HW9.out gS (by have := HGL.out; omega)).trans HA.out
          have hff1 : ∀ b, b ≠ gS → b < wr.heap.size → b ≠ w.heap.size → w9.heap[b]? = wr.heap[b]? := fun b h1 h2 h3 => (HW9.out b h3).trans (HF.out b h1)
          refine .inr ⟨g, _, q, _, HNX.out, rfl, ?_, SI.cut (w := w) (ps := ps') HS.out HV.out HGS.out ?_ ?_ HSB.out hA9 hff hzz, ?_, ⟨hzz, fun b h1 h2 => hff b (fun e => h2 (.inl e)) h1⟩, ?_⟩
          · exact Kf.gv (p := ⟨m1, m2, vC, WS, L1, k1, k2⟩) ⟨hzz, fun b h1 h2 => hff b (fun e => h2 (.inl e)) h1⟩ HS.out q g HGV.out
          · exact HU.out
          · exact HPA.out.2
          · exact ((HB1.out.mono HBW.out).trans HBB.out).trans HB9.out
          · intro b hb
            rcases hb with e | e | e | e | ⟨x, hx, e⟩
            · exact .inl e
            · exact .inr (.inl e)
            · exact .inr (.inr (.inl e))
            · exact .inr (.inr (.inr (.inl e)))
            · rcases List.mem_or_eq_of_mem_set hx with h | h
              · exact .inr (.inr (.inr (.inr ⟨x, h, e⟩)))
              · subst h
                exact .inr (.inr (.inr (.inr ⟨v, List.mem_of_getElem? HV.out, HSB.out ▸ e⟩)))
    · have z1 : ¬ (k : Int) < 41 := by omega
      have y0 := HR1.out.cell 0
      have y1 := HR1.out.cell 1
      have f0 := HR1.out.frozen 0
      have f1 := HR1.out.frozen 1
      go_wp2_with fail
      have a2 := (HR1.out.set 0 (.slice none 0 0)).set 1 (.slice none 0 0)
      have b2 := (HB1.out.setCell (p := ⟨w.heap.size, 0, none⟩) (Nat.le_refl _) (.slice none 0 0)).setCell (p := ⟨w.heap.size, 1, none⟩) (Nat.le_refl _) (.slice none 0 0)
      generalize (wr.setCell { block := w.heap.size, off := 0 } (Value.slice none 0 0)).setCell { block := w.heap.size, off := 1 } (Value.slice none 0 0) = w9 at a2 b2 ⊢
      refine bodyPost_ret (results_ctv rfl _ _ _ ⟨w.heap.size, 0, none⟩ _ rfl (load_gr a2)) rfl ?_
      refine .inl ⟨nextM_none _ fun x hx => ?_, rfl, b2⟩
      obtain ⟨i, hi⟩ := List.getElem?_of_mem hx
      have := (List.getElem?_eq_some_iff.1 hi).1
      have h41 := HW2.out
      rw [HE.out i (by omega)] at hi
      injection hi with hi
      exact hi.symm
end Go.Proofs.YteigjfdgijaifaaDoor
