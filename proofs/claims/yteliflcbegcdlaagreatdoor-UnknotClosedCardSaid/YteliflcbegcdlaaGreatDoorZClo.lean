/- package unknot: Closed. -/
import Derived.Test.YteliflcbegcdlaaGreatDoorZSmp
import Derived.Test.YteliflcbegcdlaaGreatDoorZMpb
import Derived.Test.YteliflcbegcdlaaGreatDoorZExp
import Derived.Deep.LoopGhost
namespace Go.Proofs.YteliflcbegcdlaaGreatDoor
open Go.RowKit Go.Shelf
set_option linter.unusedVariables false
attribute [local go_sem] Oper.semAt_some
/-- the list holds the class of g and, with each class, those that follow it -/
def ClP (g : Gd) (gs : List Gd) : Prop := VdG g ∧ (∀ h ∈ gs, lstM h = h) ∧ lstM g ∈ gs ∧ ∀ h ∈ gs, ∀ ms z, (ms, z) ∈ nbrs h → lstM z ∈ gs
/-- the boxes of Closed -/
structure Cl0 (n0 b2 b4 : Nat) (gc : List Value) (w W : World) : Prop where
  bel : Below n0 w W
  le : n0 ≤ W.heap.size
  x2 : Arr W b2 24 gc
  x4 : ∃ v, Arr W b4 4 [.bool v]
theorem Cl0.below {n0 b2 b4 : Nat} {gc : List Value} {w W W' : World} (h : Cl0 n0 b2 b4 gc w W) (hb : Below W.heap.size W W') : Cl0 n0 b2 b4 gc w W' := by
  obtain ⟨v, h4⟩ := h.x4
  exact ⟨h.bel.trans (hb.mono h.le), Nat.le_trans h.le hb.size, h.x2.below hb h.x2.lt, ⟨v, h4.below hb h4.lt⟩⟩
/-- .. and the map of the texts -/
structure Cl1 (n0 b2 b4 b5 M : Nat) (gc : List Value) (w : World) (S : List UInt8 → Prop) (W : World) : Prop where
  c0 : Cl0 n0 b2 b4 gc w W
  x5 : Arr W b5 63 [.map (some M)]
  mp : MpB W M S
  leM : n0 ≤ M
theorem Cl1.below {n0 b2 b4 b5 M : Nat} {gc : List Value} {w W W' : World} {S : List UInt8 → Prop} (h : Cl1 n0 b2 b4 b5 M gc w S W) (hb : Below W.heap.size W W') : Cl1 n0 b2 b4 b5 M gc w S W' :=
  ⟨h.c0.below hb, h.x5.below hb h.x5.lt, h.mp.below hb, h.leM⟩
theorem cl_run {b4 : Nat} {v : Bool} {W : World} {tmps : Array Value} (h : Arr W b4 4 [.bool v]) (h4 : tmps[4]?.getD undef = .pointer (some ⟨b4, 0, none⟩)) :
    (results Tryz.f12 tmps).run Tryz.prog W = .ok (.bool v) W := by
  have c4 := h.cell 0
  have hr : (Tryz.f12).results = #[.cell 4 4] := rfl
  have a4 := Tryz.isAgg4 W
  simp only [List.getElem?_cons_zero] at c4
  simp [results, hr, h4, asAddr, loadVar, a4, c4]
/-- how Closed ends -/
theorem cl_end {tmps : Array Value} {R : Ending → World → Prop} {v : Bool} {n0 b4 : Nat} {w : World} (h4 : tmps[4]?.getD undef = .pointer (some ⟨b4, 0, none⟩))
    (hP : ∀ W, Below n0 w W → R (.returned (.bool v)) W) (Ds : List Nat) (W : World) (hm : MkD n0 Ds W) (hr : Arr W b4 4 [.bool v]) (hb : Below n0 w W) :
    LeavesInM Fence.wide 9 Tryz.prog Tryz.f12 tmps R (Ds.map mrkD) .returning W := by
  refine leaves_mrkD (N := n0) (fun W => Arr W b4 4 [.bool v] ∧ Below n0 w W) ?_ ?_ Ds W hm ⟨hr, hb⟩
  · rintro W D hD ⟨a, b⟩ hK
    exact ⟨(Nc.of_def hK).arr a, below_put b hD⟩
  · rintro W ⟨a, b⟩
    exact ⟨_, cl_run a h4, hP W b⟩
theorem zero_bool (w : World) : (zeroValue 4).run Tryz.prog w = .ok (.bool false) w := by
  exact Tryz.zeroValue4 w
theorem bytes_eq (a : List UInt8) : ((⟨a.toArray⟩ : ByteArray) != ⟨a.toArray⟩) = false := by
  show (!(a.toArray == a.toArray)) = false
  simp
/-- what the first loop has seen to -/
def SK (gs : List Gd) (k : Nat) (x : List UInt8) : Prop := ∃ h ∈ gs.take k, x = fmG h
theorem SK.succ {gs : List Gd} {k : Nat} (hk : k < gs.length) (x : List UInt8) : SK gs (k + 1) x ↔ SK gs k x ∨ x = fmG gs[k] := by
  unfold SK
  rw [List.take_succ_eq_append_getElem hk]
  simp only [List.mem_append, List.mem_singleton]
  constructor
  · rintro ⟨h, h1 | rfl, e⟩
    · exact .inl ⟨h, h1, e⟩
    · exact .inr e
  · rintro (⟨h, h1, e⟩ | e)
    · exact ⟨h, .inl h1, e⟩
    · exact ⟨_, .inr rfl, e⟩
theorem SK.mem {gs : List Gd} (hv : ∀ h ∈ gs, VdG h) {z : Gd} (hz : VdG z) : SK gs gs.length (fmG z) ↔ z ∈ gs := by
  unfold SK
  rw [List.take_length]
  constructor
  · rintro ⟨h, h1, e⟩
    rw [fmG_inj hz (hv h h1) e]; exact h1
  · exact fun h => ⟨z, h, rfl⟩
theorem MpB.putL {W : World} {M l : Nat} {S : List UInt8 → Prop} {o : Obj} (h : MpB W M S) (hl : Lp l W) : MpB (W.putObj l o) M S := h.keep (World.putObj_heap_other (by
  rintro rfl
  obtain ⟨es, ck, h1, _⟩ := h
  obtain ⟨r, hl⟩ := hl
  rw [hl] at h1
  cases h1))
theorem Cl1.putL {n0 b2 b4 b5 M l : Nat} {gc : List Value} {w W : World} {S : List UInt8 → Prop} {o : Obj} (h : Cl1 n0 b2 b4 b5 M gc w S W) (hl : Lp l W) (hn : n0 ≤ l) : Cl1 n0 b2 b4 b5 M gc w S (W.putObj l o) := by
  obtain ⟨v, h4⟩ := h.c0.x4
  exact ⟨⟨below_put h.c0.bel hn, by rw [World.putObj_size]; exact h.c0.le, hl.nc.arr h.c0.x2, v, hl.nc.arr h4⟩, hl.nc.arr h.x5, h.mp.putL hl, h.leM⟩
theorem mk_set1 {n0 b : Nat} {t : TypeId} {u : Value} {W : World} {Ds : List Nat} (h : MkD n0 Ds W) (ha : Arr W b t [u]) (v : Value) : MkD n0 Ds (W.setCell ⟨b, 0, none⟩ v) := by
  refine h.keep fun D hD => Below.heap_setCell _ ⟨b, 0, none⟩ _ D (fun e => ?_)
  have hd := (h.2 D hD).2
  have ha' : W.heap[b]? = _ := ha
  rw [show D = b from e] at hd
  rw [hd] at ha'; cases ha'
/-- what the range over the neighbors of h keeps -/
def RgC (n0 b2 b4 b5 M gB : Nat) (gc : List Value) (w : World) (gs : List Gd) (Ds : List Nat) (h : Gd) (cs : List Value) (k : Nat) (W : World) : Prop :=
  (∀ p ∈ (nbrs h).take k, lstM p.2 ∈ gs) ∧ Cl1 n0 b2 b4 b5 M gc w (SK gs gs.length) W ∧ MkD n0 Ds W ∧ Arr W gB 24 cs
/-- what it ends with where one is not known -/
def RgY (n0 b4 : Nat) (w : World) (gs : List Gd) (Ds : List Nat) (h : Gd) (W : World) : Prop :=
  (∃ p ∈ nbrs h, lstM p.2 ∉ gs) ∧ Arr W b4 4 [.bool false] ∧ Below n0 w W ∧ n0 ≤ W.heap.size ∧ MkD n0 Ds W
section
variable {n0 b2 b4 b5 M gB k l : Nat} {gc : List Value} {w W W' : World} {gs : List Gd} {Ds : List Nat} {h : Gd} {cs : List Value} {o : Obj}
theorem RgC.below (hh : RgC n0 b2 b4 b5 M gB gc w gs Ds h cs k W) (hb : Below W.heap.size W W') : RgC n0 b2 b4 b5 M gB gc w gs Ds h cs k W' :=
  ⟨hh.1, hh.2.1.below hb, hh.2.2.1.keep fun D hD => hb.block D (hh.2.2.1.lt D hD), hh.2.2.2.below hb hh.2.2.2.lt⟩
theorem RgC.put (hh : RgC n0 b2 b4 b5 M gB gc w gs Ds h cs k W) (hl : Lp l W) (hn : n0 ≤ l) : RgC n0 b2 b4 b5 M gB gc w gs Ds h cs k (W.putObj l o) :=
  ⟨hh.1, hh.2.1.putL hl hn, hh.2.2.1.putL hl, hl.nc.arr hh.2.2.2⟩
theorem RgY.below (hh : RgY n0 b4 w gs Ds h W) (hb : Below W.heap.size W W') : RgY n0 b4 w gs Ds h W' :=
  ⟨hh.1, hh.2.1.below hb hh.2.1.lt, hh.2.2.1.trans (hb.mono hh.2.2.2.1), Nat.le_trans hh.2.2.2.1 hb.size, hh.2.2.2.2.keep fun D hD => hb.block D (hh.2.2.2.2.lt D hD)⟩
theorem RgY.put (hh : RgY n0 b4 w gs Ds h W) (hl : Lp l W) (hn : n0 ≤ l) : RgY n0 b4 w gs Ds h (W.putObj l o) :=
  ⟨hh.1, hl.nc.arr hh.2.1, below_put hh.2.2.1 hn, by rw [World.putObj_size]; exact hh.2.2.2.1, hh.2.2.2.2.putL hl⟩
end
end Go.Proofs.YteliflcbegcdlaaGreatDoor
