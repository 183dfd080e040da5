/- append onto an empty slice without room: the result is a new row. -/
/- The reference's exchange. -/
/- Facts on memory for regions that draw their order: growth, and which rows lie apart. -/
import Derived.Test.YteliflcbegcdlaaGreatDoorZOwn
import Derived.Deep.RegionLawGrows
import Derived.OneCell
import Derived.Test.YteliflcbegcdlaaGreatDoorZRem
import Derived.Test.YteliflcbegcdlaaGreatDoorZFmw
import Derived.Deep.RegionHeld3
import Derived.IntWalk
import Derived.Test.YteliflcbegcdlaaGreatDoorZRlt
import Derived.Test.YteliflcbegcdlaaGreatDoorZUnp
namespace Go.Proofs.YteliflcbegcdlaaGreatDoor
set_option linter.unusedVariables false
open Go.RowKit
theorem step_growI {P : Program} {ops : Array Oper} {o : Oper} {a : Act} {w : World} {K : Act → World → Prop} {Q : Exit → Act → World → Prop} {E : Prop} (hgd : o.guard = none) (s x : Operand) (t : TypeId) (ho : o.op = .call { callee := .builtin .append, args := #[s, x], argTypes := #[t, t] })
    {e : TypeId} {i : TypeInfo} (ht : P.underlying t = some (.slice e)) (hi : P.info? e = some i) (hz : i.zero = some (.int .i64 0)) (hs : i.size = 1) (hby : i.bytes = 8)
    (g : Nat) (hv : a.eval s = .slice (some ⟨g, 0, none⟩) 0 0) {u : Value} {ys : List Int} (hx : a.eval x = u) (hu : Ints w u ys) (hne : 0 < ys.length) (hlen : ys.length ≤ 1000000000)
    (hK : ∀ v' w', OwnI e w.heap.size w' v' ys → Below w.heap.size w w' → K (a.put o.dst v') w') : if Region.wanted o (yielded ops a.tmps) = true then Oper.wp P o a w K Q else E := by
  obtain ⟨A, c, rfl, hc, hcell⟩ := hu
  cases A with
  | none =>
    obtain ⟨b, o, hA, _⟩ := hcell 0 _ (List.getElem?_eq_getElem hne)
    cases hA
  | some ad =>
    have hcells : ∀ j q, (ys.map (Value.int .i64))[j]? = some q → w.cell? (ad.add j) = some q := by
      intro j q hq
      rw [List.getElem?_map] at hq
      cases hy : ys[j]? with
      | none => rw [hy] at hq; cases hq
      | some y =>
        rw [hy] at hq
        injection hq with hq
        obtain ⟨b, o, hA, hc1⟩ := hcell j y hy
        injection hA with hA
        subst hA
        rw [← hq]
        have : (⟨b, o, none⟩ : Addr).add j = ⟨b, o + j, none⟩ := by unfold Addr.add; split <;> simp_all
        rw [this]; exact hc1
    refine step_append_grows hgd s x t ho e i (.int .i64 0) 1 8 ht hi hz hs hby rfl (by decide) (some ⟨g, 0, none⟩) 0 0 [] hv (fun h => by cases h) rfl (fun b _ j u hj => by simp at hj) ad ys.length c (ys.map (Value.int .i64)) hx (by simp) hcells
      (by intro q hq; obtain ⟨y, _, rfl⟩ := List.mem_map.1 hq; rfl) (by omega) (by unfold maxLen; omega) (by omega) ?_
    intro v' w' h1 h2
    refine hK v' w' ?_ ⟨h2.os, h2.tape, h2.output, h2.size, fun k hk => h2.block k hk (by simp)⟩
    unfold OwnI
    simpa using h1
theorem wp_growI {P : Program} {o : Oper} {a : Act} {w : World} {K : Act → World → Prop} {Q : Exit → Act → World → Prop} (hgd : o.guard = none) (s x : Operand) (t : TypeId) (ho : o.op = .call { callee := .builtin .append, args := #[s, x], argTypes := #[t, t] })
    {e : TypeId} {i : TypeInfo} (ht : P.underlying t = some (.slice e)) (hi : P.info? e = some i) (hz : i.zero = some (.int .i64 0)) (hs : i.size = 1) (hby : i.bytes = 8)
    (g : Nat) (hv : a.eval s = .slice (some ⟨g, 0, none⟩) 0 0) {u : Value} {ys : List Int} (hx : a.eval x = u) (hu : Ints w u ys) (hne : 0 < ys.length) (hlen : ys.length ≤ 1000000000)
    (hK : ∀ v' w', OwnI e w.heap.size w' v' ys → Below w.heap.size w w' → K (a.put o.dst v') w') : Oper.wp P o a w K Q := by
  have h := step_growI (ops := #[]) (E := True) (Q := Q) hgd s x t ho ht hi hz hs hby g hv hx hu hne hlen hK
  rwa [if_pos (by simp [Region.wanted, hgd])] at h
theorem ownI_ne {e e' : TypeId} {base : Nat} {w w' : World} {v v' : Value} {xs ys : List Int} (h : OwnI e base w v xs) (h' : OwnI e' w.heap.size w' v' ys) (hne : 0 < ys.length) : v'.ownBlock ≠ v.ownBlock := by
  intro he
  rcases h'.2 with ⟨rfl, h0⟩ | ⟨g, cap, cur, rfl, hg, _⟩
  · omega
  · rcases h.2 with ⟨rfl, h0⟩ | ⟨g', cap', cur', rfl, _, hh, _⟩
    · simp [Value.ownBlock] at he
    · simp [Value.ownBlock] at he
      subst he
      rw [Array.getElem?_eq_none hg] at hh
      cases hh
theorem ownI_arr_ne {e t : TypeId} {base g : Nat} {w : World} {v : Value} {xs : List Int} {cs : List Value} (h : OwnI e base w v xs) (ha : Arr w g t cs) (ht : e ≠ t) : v.ownBlock ≠ some g := by
  intro he
  rcases h.2 with ⟨rfl, h0⟩ | ⟨g', cap', cur', rfl, _, hh, _⟩
  · simp [Value.ownBlock] at he
  · simp [Value.ownBlock] at he
    subst he
    unfold Arr at ha
    rw [ha] at hh
    simp only [Option.some.injEq, Obj.cells.injEq] at hh
    exact ht hh.2.1.symm
theorem OwnI.far {e : TypeId} {base : Nat} {w : World} {v : Value} {xs : List Int} (h : OwnI e base w v xs) {p : Addr} (hp : v.ownBlock ≠ some p.block) (u : Value) : OwnI e base (w.setCell p u) v xs := ownsRow_setCell_other h hp u
theorem OwnI.set {e : TypeId} {base g n c : Nat} {w : World} {xs : List Int} (h : OwnI e base w (.slice (some ⟨g, 0, none⟩) n c) xs) (j : Nat) (y : Int) : OwnI e base (w.setCell ⟨g, j, none⟩ (.int .i64 y)) (.slice (some ⟨g, 0, none⟩) n c) (xs.set j y) := by
  obtain ⟨A, c', hv⟩ := h.form
  injection hv with _ hn _
  subst hn
  have := (World.ownsRow.stored h j (.int .i64 y)).1
  unfold OwnI
  rw [List.length_set, List.map_set]
  exact this
theorem OwnI.form1 {e : TypeId} {base : Nat} {w : World} {v : Value} {xs : List Int} (h : OwnI e base w v xs) (hx : 0 < xs.length) : ∃ g c, v = .slice (some ⟨g, 0, none⟩) xs.length c ∧ base ≤ g ∧ g < w.heap.size := by
  rcases h.2 with ⟨rfl, h0⟩ | ⟨g, cap, cur, rfl, hg, hh, _⟩
  · omega
  · refine ⟨g, cap, rfl, hg, ?_⟩
    rcases Nat.lt_or_ge g w.heap.size with hlt | hge
    · exact hlt
    · rw [Array.getElem?_eq_none hge] at hh; cases hh
theorem OwnI.at_ {e : TypeId} {base g n c : Nat} {w : World} {xs : List Int} (h : OwnI e base w (.slice (some ⟨g, 0, none⟩) n c) xs) {j : Nat} (hj : j < xs.length) : w.cell? ⟨g, j, none⟩ = some (.int .i64 xs[j]) ∧ w.frozen? ⟨g, j, none⟩ = false := by
  constructor
  · obtain ⟨b, o, e1, _, hc⟩ := h.ints.at_ hj
    obtain ⟨rfl, rfl⟩ : g = b ∧ 0 = o := by simpa using e1
    rwa [Nat.zero_add] at hc
  · rcases h.2 with ⟨h0, _⟩ | ⟨g', cap, cur, h0, hg, hh, _⟩
    · cases h0
    · injection h0 with h1 _ _
      injection h1 with h1
      injection h1 with h1 _ _
      subst h1
      exact frozen_of_row w g j _ e hh
theorem cell_far {w : World} {p q : Addr} (h : q.block ≠ p.block) (u : Value) : (w.setCell p u).cell? q = w.cell? q := World.cell?_of_block (Below.heap_setCell w p u q.block h)
end Go.Proofs.YteliflcbegcdlaaGreatDoor

namespace Go.Proofs.YteliflcbegcdlaaGreatDoor
open Go.RowKit
set_option linter.unusedVariables false
/-- what holds in the first region of exchange, whatever has come up -/
structure ExI (B : Nat) (w4 : World) (vx vo : Value) (b : Nat) (X O : List Int) (D : Nat → Bool) (x : Nat → Value) (w : World) : Prop where
  bel : Below w4.heap.size w4 w
  f0 : D 0 = true → ∃ g, x 0 = .slice (some ⟨g, 0, none⟩) 0 0
  f1 : D 1 = true → x 1 = .pointer (some ⟨b, 0, none⟩)
  f2 : D 2 = true → x 2 = vx
  f3 : D 3 = true → OwnI 3 w4.heap.size w (x 3) X
  f4 : D 4 = true → ∃ g, x 4 = .slice (some ⟨g, 0, none⟩) 0 0
  f5 : D 5 = true → x 5 = .pointer (some ⟨b, 1, none⟩)
  f6 : D 6 = true → x 6 = vo
  f7 : D 7 = true → OwnI 3 w4.heap.size w (x 7) O
  f8 : D 8 = true → x 8 = .agg #[x 3, x 7]
  f9 : D 9 = true → ∃ g, x 9 = .pointer (some ⟨g, 0, none⟩) ∧ w4.heap.size ≤ g ∧ (D 10 = false → Arr w g 24 [.slice none 0 0, .slice none 0 0]) ∧ (D 10 = true → Arr w g 24 [x 3, x 7])
  f37 : D 3 = true → D 7 = true → (x 3).ownBlock ≠ (x 7).ownBlock
set_option maxRecDepth 100000 in
set_option maxHeartbeats 4000000 in
theorem exchange_any (vx vo : Value) (X O : List Int) (a : Nat) (w : World) (hX : Ints w vx X) (hO : Ints w vo O) (hl : X.length ≤ 1000) (hlen : X.length = O.length) (ha : a + 1 < X.length) :
    Calls Tryz.prog 84 #[.agg #[vx, vo], .int .i64 a] w fun e w' => ∃ v, e = .returned v ∧ OwnG w.heap.size w' v (swapL X a) (swapL O a) ∧ Below w.heap.size w w' := by
  obtain ⟨i0, hi0, hz0, hz1, hz2⟩ := info_parts info_int8
  have HL := Lib.hid hlen
  clear hlen
  have hX0 := hX
  have hO0 := hO
  obtain ⟨A, c, rfl, hc, hh⟩ := hX
  obtain ⟨A', c', rfl, hc', hh'⟩ := hO
  clear hh hh'
  go_enter Tryz.func84, Tryz.ntmps84
  go_upto_region 1 with fail
  have hW : Arr ((w.alloc (.cells #[.slice A X.length c, .slice A' O.length c'] 24)).alloc (.cells #[.slice none 0 0, .slice none 0 0] 24)) w.heap.size 24 [.slice A X.length c, .slice A' O.length c'] ∧ Arr ((w.alloc (.cells #[.slice A X.length c, .slice A' O.length c'] 24)).alloc (.cells #[.slice none 0 0, .slice none 0 0] 24)) (w.heap.size + 1) 24 [.slice none 0 0, .slice none 0 0] ∧ Below w.heap.size w ((w.alloc (.cells #[.slice A X.length c, .slice A' O.length c'] 24)).alloc (.cells #[.slice none 0 0, .slice none 0 0] 24)) :=
    ⟨(Arr.new _ _ [_, _]).alloc _, Arr.newAt (w.alloc _) _ [_, _] _ (by simp), ((Below.refl _ _).alloc (Nat.le_refl _) _).alloc (by simp) _⟩
  generalize ((w.alloc (.cells #[.slice A X.length c, .slice A' O.length c'] 24)).alloc (.cells #[.slice none 0 0, .slice none 0 0] 24)) = w4 at hW ⊢
  obtain ⟨p0, p1, hbw⟩ := hW
  have y0 := p0.cell 0
  have y1 := p0.cell 1
  have l1 := p1.lt
  go_cut [5, 9, 13] (fun s5 s9 s13 wx => ∃ g, s5 = .pointer (some ⟨g, 0, none⟩) ∧ Arr wx g 24 [s9, s13] ∧ w4.heap.size ≤ g ∧ OwnI 3 w4.heap.size wx s9 X ∧ OwnI 3 w4.heap.size wx s13 O ∧ s9.ownBlock ≠ s13.ownBlock ∧ Below w4.heap.size w4 wx)
  case first =>
    refine wp_region_factsU (by kernel_rfl) (by kernel_rfl) (by kernel_rfl) (by kernel_rfl) (by kernel_rfl) (ExI 0 w4 (.slice A X.length c) (.slice A' O.length c') w.heap.size X O) ?_ ⟨?_, ?_, ?_, ?_, ?_, ?_, ?_, ?_, ?_, ?_, ?_, trivial⟩ ?_
    · exact fun x => ⟨(Below.refl _ _).drew, by simp, by simp, by simp, by simp, by simp, by simp, by simp, by simp, by simp, by simp, by simp⟩
    · intro D x w1 b hI hD hdep hcl hb
      refine wp_of_run (.slice (some ⟨w1.heap.size, 0, none⟩) 0 0) (w' := w1.alloc (.cells #[] 3)) ?_ ?_
      · clear hb hI hdep hcl
        go_simp
      · exact ⟨hI.bel.trans (((Below.refl _ _).alloc (Nat.le_refl _) _).mono hI.bel.size), (fun _ => ⟨_, upd_same _ _ _⟩), (by have h9 := hI.f1; simpa [upd] using h9), (by have h9 := hI.f2; simpa [upd] using h9), (by have h9 := hI.f3; simp only [upd_ne _ _ (show (3 : Nat) ≠ 0 by decide)]; exact fun h => (h9 h).below ((Below.refl _ _).alloc (Nat.le_refl _) _) (Nat.le_refl _)), (by have h9 := hI.f4; simpa [upd] using h9), (by have h9 := hI.f5; simpa [upd] using h9), (by have h9 := hI.f6; simpa [upd] using h9), (by have h9 := hI.f7; simp only [upd_ne _ _ (show (7 : Nat) ≠ 0 by decide)]; exact fun h => (h9 h).below ((Below.refl _ _).alloc (Nat.le_refl _) _) (Nat.le_refl _)), (by have h9 := hI.f8; simpa [upd] using h9), (by have h9 := hI.f9; have e (j) (h : j ≠ 0) := upd_ne D true h; have e' (j) (h : j ≠ 0) (v) := upd_ne x v h; simp only [e 9 (by decide), e 10 (by decide), e' 9 (by decide), e' 3 (by decide), e' 7 (by decide)]; intro h; obtain ⟨g, h1, h2, h3, h4⟩ := h9 h; exact ⟨g, h1, h2, fun h => (h3 h).below ((Below.refl _ _).alloc (Nat.le_refl _) _) (h3 h).lt, fun h => (h4 h).below ((Below.refl _ _).alloc (Nat.le_refl _) _) (h4 h).lt⟩), (by have h9 := hI.f37; simpa [upd] using h9)⟩
    · intro D x w1 b hI hD hdep hcl hb
      have e2 : b.tmps[2]?.getD undef = .pointer (some ⟨w.heap.size, 0, none⟩) := hb 2
      refine wp_of_run (.pointer (some ⟨w.heap.size, 0, none⟩)) (w' := w1) ?_ ?_
      · clear hb hI hdep hcl
        go_simp
      · exact ⟨hI.bel, (by have h9 := hI.f0; simpa [upd] using h9), (fun _ => upd_same _ _ _), (by have h9 := hI.f2; simpa [upd] using h9), (by have h9 := hI.f3; simpa [upd] using h9), (by have h9 := hI.f4; simpa [upd] using h9), (by have h9 := hI.f5; simpa [upd] using h9), (by have h9 := hI.f6; simpa [upd] using h9), (by have h9 := hI.f7; simpa [upd] using h9), (by have h9 := hI.f8; simpa [upd] using h9), (by have h9 := hI.f9; simpa [upd] using h9), (by have h9 := hI.f37; simpa [upd] using h9)⟩
    · intro D x w1 b hI hD hdep hcl hb
      have e2 : b.tmps[7]?.getD undef = .pointer (some ⟨w.heap.size, 0, none⟩) := (hb 7).trans (hI.f1 (hdep 1 (by decide)))
      have ec := (hI.bel.cell (p := ⟨w.heap.size, 0, none⟩) p0.lt).trans y0
      refine wp_of_run (.slice A X.length c) (w' := w1) ?_ ?_
      · clear hb hI hdep hcl
        go_simp
      · exact ⟨hI.bel, (by have h9 := hI.f0; simpa [upd] using h9), (by have h9 := hI.f1; simpa [upd] using h9), (fun _ => upd_same _ _ _), (by have h9 := hI.f3; simpa [upd] using h9), (by have h9 := hI.f4; simpa [upd] using h9), (by have h9 := hI.f5; simpa [upd] using h9), (by have h9 := hI.f6; simpa [upd] using h9), (by have h9 := hI.f7; simpa [upd] using h9), (by have h9 := hI.f8; simpa [upd] using h9), (by have h9 := hI.f9; simpa [upd] using h9), (by have h9 := hI.f37; simpa [upd] using h9)⟩
    · intro D x w1 b hI hD hdep hcl hb
      obtain ⟨g, hg⟩ := hI.f0 (hdep 0 (by decide))
      have e1 : b.tmps[6]?.getD undef = .slice (some ⟨g, 0, none⟩) 0 0 := (hb 6).trans hg
      have e2 := (hb 8).trans (hI.f2 (hdep 2 (by decide)))
      have hne3 : 0 < X.length := by have := HL.out; omega
      have hle : X.length ≤ 1000000000 := by have := HL.out; omega
      refine wp_growI rfl (.tmp 6) (.tmp 8) 22 rfl Tryz.underlying22 hi0 hz0 hz1 hz2 g (by simpa [Act.eval] using e1) (by simpa [Act.eval] using e2) (hX0.below (hbw.trans (hI.bel.mono hbw.size))) hne3 hle ?_
      intro v' w' hown hb'
      refine StepPost.mk' ?_
      exact ⟨hI.bel.trans (hb'.mono hI.bel.size), (by have h9 := hI.f0; simpa [upd] using h9), (by have h9 := hI.f1; simpa [upd] using h9), (by have h9 := hI.f2; simpa [upd] using h9), (fun _ => by rw [upd_same]; exact hown.mono hI.bel.size), (by have h9 := hI.f4; simpa [upd] using h9), (by have h9 := hI.f5; simpa [upd] using h9), (by have h9 := hI.f6; simpa [upd] using h9), (by have h9 := hI.f7; simp only [upd_ne _ _ (show (7 : Nat) ≠ 3 by decide)]; exact fun h => (h9 h).below hb' (Nat.le_refl _)), (fun h => absurd (hcl 8 (by simpa [upd] using h) 3 (by decide)) (by simp [hD])), (by have h9 := hI.f9; simp only [upd_ne _ _ (show (9 : Nat) ≠ 3 by decide), upd_ne _ _ (show (10 : Nat) ≠ 3 by decide)]; intro h; obtain ⟨g, h1, h2, h3, h4⟩ := h9 h; exact ⟨g, h1, h2, fun h => (h3 h).below hb' (h3 h).lt, fun h => absurd (hcl 8 (hcl 10 h 8 (by decide)) 3 (by decide)) (by simp [hD])⟩), (by intro h; have ho := hI.f7; simp only [upd_same, upd_ne _ _ (show (7 : Nat) ≠ 3 by decide)]; intro h'; exact ownI_ne (ho (by simpa [upd] using h')) hown hne3)⟩
    · intro D x w1 b hI hD hdep hcl hb
      refine wp_of_run (.slice (some ⟨w1.heap.size, 0, none⟩) 0 0) (w' := w1.alloc (.cells #[] 3)) ?_ ?_
      · clear hb hI hdep hcl
        go_simp
      · exact ⟨hI.bel.trans (((Below.refl _ _).alloc (Nat.le_refl _) _).mono hI.bel.size), (by have h9 := hI.f0; simpa [upd] using h9), (by have h9 := hI.f1; simpa [upd] using h9), (by have h9 := hI.f2; simpa [upd] using h9), (by have h9 := hI.f3; simp only [upd_ne _ _ (show (3 : Nat) ≠ 4 by decide)]; exact fun h => (h9 h).below ((Below.refl _ _).alloc (Nat.le_refl _) _) (Nat.le_refl _)), (fun _ => ⟨_, upd_same _ _ _⟩), (by have h9 := hI.f5; simpa [upd] using h9), (by have h9 := hI.f6; simpa [upd] using h9), (by have h9 := hI.f7; simp only [upd_ne _ _ (show (7 : Nat) ≠ 4 by decide)]; exact fun h => (h9 h).below ((Below.refl _ _).alloc (Nat.le_refl _) _) (Nat.le_refl _)), (by have h9 := hI.f8; simpa [upd] using h9), (by have h9 := hI.f9; have e (j) (h : j ≠ 4) := upd_ne D true h; have e' (j) (h : j ≠ 4) (v) := upd_ne x v h; simp only [e 9 (by decide), e 10 (by decide), e' 9 (by decide), e' 3 (by decide), e' 7 (by decide)]; intro h; obtain ⟨g, h1, h2, h3, h4⟩ := h9 h; exact ⟨g, h1, h2, fun h => (h3 h).below ((Below.refl _ _).alloc (Nat.le_refl _) _) (h3 h).lt, fun h => (h4 h).below ((Below.refl _ _).alloc (Nat.le_refl _) _) (h4 h).lt⟩), (by have h9 := hI.f37; simpa [upd] using h9)⟩
    · intro D x w1 b hI hD hdep hcl hb
      have e2 : b.tmps[2]?.getD undef = .pointer (some ⟨w.heap.size, 0, none⟩) := hb 2
      refine wp_of_run (.pointer (some ⟨w.heap.size, 1, none⟩)) (w' := w1) ?_ ?_
      · clear hb hI hdep hcl
        go_simp
      · exact ⟨hI.bel, (by have h9 := hI.f0; simpa [upd] using h9), (by have h9 := hI.f1; simpa [upd] using h9), (by have h9 := hI.f2; simpa [upd] using h9), (by have h9 := hI.f3; simpa [upd] using h9), (by have h9 := hI.f4; simpa [upd] using h9), (fun _ => upd_same _ _ _), (by have h9 := hI.f6; simpa [upd] using h9), (by have h9 := hI.f7; simpa [upd] using h9), (by have h9 := hI.f8; simpa [upd] using h9), (by have h9 := hI.f9; simpa [upd] using h9), (by have h9 := hI.f37; simpa [upd] using h9)⟩
    · intro D x w1 b hI hD hdep hcl hb
      have e2 : b.tmps[11]?.getD undef = .pointer (some ⟨w.heap.size, 1, none⟩) := (hb 11).trans (hI.f5 (hdep 5 (by decide)))
      have ec := (hI.bel.cell (p := ⟨w.heap.size, 1, none⟩) p0.lt).trans y1
      refine wp_of_run (.slice A' O.length c') (w' := w1) ?_ ?_
      · clear hb hI hdep hcl
        go_simp
      · exact ⟨hI.bel, (by have h9 := hI.f0; simpa [upd] using h9), (by have h9 := hI.f1; simpa [upd] using h9), (by have h9 := hI.f2; simpa [upd] using h9), (by have h9 := hI.f3; simpa [upd] using h9), (by have h9 := hI.f4; simpa [upd] using h9), (by have h9 := hI.f5; simpa [upd] using h9), (fun _ => upd_same _ _ _), (by have h9 := hI.f7; simpa [upd] using h9), (by have h9 := hI.f8; simpa [upd] using h9), (by have h9 := hI.f9; simpa [upd] using h9), (by have h9 := hI.f37; simpa [upd] using h9)⟩
    · intro D x w1 b hI hD hdep hcl hb
      obtain ⟨g, hg⟩ := hI.f4 (hdep 4 (by decide))
      have e1 : b.tmps[10]?.getD undef = .slice (some ⟨g, 0, none⟩) 0 0 := (hb 10).trans hg
      have e2 := (hb 12).trans (hI.f6 (hdep 6 (by decide)))
      have hne7 : 0 < O.length := by have := HL.out; omega
      have hle : O.length ≤ 1000000000 := by have := HL.out; omega
      refine wp_growI rfl (.tmp 10) (.tmp 12) 22 rfl Tryz.underlying22 hi0 hz0 hz1 hz2 g (by simpa [Act.eval] using e1) (by simpa [Act.eval] using e2) (hO0.below (hbw.trans (hI.bel.mono hbw.size))) hne7 hle ?_
      intro v' w' hown hb'
      refine StepPost.mk' ?_
      exact ⟨hI.bel.trans (hb'.mono hI.bel.size), (by have h9 := hI.f0; simpa [upd] using h9), (by have h9 := hI.f1; simpa [upd] using h9), (by have h9 := hI.f2; simpa [upd] using h9), (by have h9 := hI.f3; simp only [upd_ne _ _ (show (3 : Nat) ≠ 7 by decide)]; exact fun h => (h9 h).below hb' (Nat.le_refl _)), (by have h9 := hI.f4; simpa [upd] using h9), (by have h9 := hI.f5; simpa [upd] using h9), (by have h9 := hI.f6; simpa [upd] using h9), (fun _ => by rw [upd_same]; exact hown.mono hI.bel.size), (fun h => absurd (hcl 8 (by simpa [upd] using h) 7 (by decide)) (by simp [hD])), (by have h9 := hI.f9; simp only [upd_ne _ _ (show (9 : Nat) ≠ 7 by decide), upd_ne _ _ (show (10 : Nat) ≠ 7 by decide)]; intro h; obtain ⟨g, h1, h2, h3, h4⟩ := h9 h; exact ⟨g, h1, h2, fun h => (h3 h).below hb' (h3 h).lt, fun h => absurd (hcl 8 (hcl 10 h 8 (by decide)) 7 (by decide)) (by simp [hD])⟩), (by intro h; have ho := hI.f3; simp only [upd_same, upd_ne _ _ (show (3 : Nat) ≠ 7 by decide)]; intro h'; exact (ownI_ne (ho (by simpa [upd] using h)) hown hne7).symm)⟩
    · intro D x w1 b hI hD hdep hcl hb
      have e1 : b.tmps[9]?.getD undef = x 3 := hb 9
      have e2 : b.tmps[13]?.getD undef = x 7 := hb 13
      refine wp_of_run (.agg #[x 3, x 7]) (w' := w1) ?_ ?_
      · obtain ⟨C0, m0, h0⟩ := (hI.f3 (hdep 3 (by decide))).form
        obtain ⟨C1, m1, h1⟩ := (hI.f7 (hdep 7 (by decide))).form
        rw [h0] at e1 ⊢
        rw [h1] at e2 ⊢
        clear hb hI hdep hcl h0 h1
        go_simp
      · exact ⟨hI.bel, (by have h9 := hI.f0; simpa [upd] using h9), (by have h9 := hI.f1; simpa [upd] using h9), (by have h9 := hI.f2; simpa [upd] using h9), (by have h9 := hI.f3; simpa [upd] using h9), (by have h9 := hI.f4; simpa [upd] using h9), (by have h9 := hI.f5; simpa [upd] using h9), (by have h9 := hI.f6; simpa [upd] using h9), (by have h9 := hI.f7; simpa [upd] using h9), (fun _ => by simp [upd]), (by have h9 := hI.f9; simpa [upd] using h9), (by have h9 := hI.f37; simpa [upd] using h9)⟩
    · intro D x w1 b hI hD hdep hcl hb
      refine wp_of_run (.pointer (some ⟨w1.heap.size, 0, none⟩)) (w' := w1.alloc (.cells #[.slice none 0 0, .slice none 0 0] 24)) ?_ ?_
      · clear hb hI hdep hcl
        go_simp
      · exact ⟨hI.bel.trans (((Below.refl _ _).alloc (Nat.le_refl _) _).mono hI.bel.size), (by have h9 := hI.f0; simpa [upd] using h9), (by have h9 := hI.f1; simpa [upd] using h9), (by have h9 := hI.f2; simpa [upd] using h9), (by have h9 := hI.f3; simp only [upd_ne _ _ (show (3 : Nat) ≠ 9 by decide)]; exact fun h => (h9 h).below ((Below.refl _ _).alloc (Nat.le_refl _) _) (Nat.le_refl _)), (by have h9 := hI.f4; simpa [upd] using h9), (by have h9 := hI.f5; simpa [upd] using h9), (by have h9 := hI.f6; simpa [upd] using h9), (by have h9 := hI.f7; simp only [upd_ne _ _ (show (7 : Nat) ≠ 9 by decide)]; exact fun h => (h9 h).below ((Below.refl _ _).alloc (Nat.le_refl _) _) (Nat.le_refl _)), (by have h9 := hI.f8; simpa [upd] using h9), (fun _ => ⟨_, upd_same _ _ _, hI.bel.size, fun _ => Arr.new _ _ [_, _], fun h => absurd (hcl 10 (by simpa [upd] using h) 9 (by decide)) (by simp [hD])⟩), (by have h9 := hI.f37; simpa [upd] using h9)⟩
    · intro D x w1 b hI hD hdep hcl hb
      obtain ⟨g, hg, hgb, harr, _⟩ := hI.f9 (hdep 9 (by decide))
      have ha := harr hD
      have e1 : b.tmps[5]?.getD undef = .pointer (some ⟨g, 0, none⟩) := (hb 5).trans hg
      have e2 : b.tmps[14]?.getD undef = .agg #[x 3, x 7] := (hb 14).trans (hI.f8 (hdep 8 (by decide)))
      have d3 := hcl 8 (hdep 8 (by decide)) 3 (by decide)
      have d7 := hcl 8 (hdep 8 (by decide)) 7 (by decide)
      obtain ⟨C0, m0, h0⟩ := (hI.f3 d3).form
      obtain ⟨C1, m1, h1⟩ := (hI.f7 d7).form
      have q0 := ha.cell 0
      have q1 := ha.cell 1
      have q2 := ha.frozen 0
      have q3 := ha.frozen 1
      have hne : ∀ (v : Value) (xs : List Int), OwnI 3 w4.heap.size w1 v xs → v.ownBlock ≠ some g := fun v xs h he => ownI_arr_ne h ha (by decide) he
      refine wp_of_skip (w' := (w1.setCell ⟨g, 0, none⟩ (x 3)).setCell ⟨g, 1, none⟩ (x 7)) ?_ ?_
      · rw [h0, h1] at e2 ⊢
        clear hb hI hdep hcl h0 h1 hne ha
        go_simp
      · have ar := (ha.set 0 (x 3)).set 1 (x 7)
        have o3 := (((hI.f3 d3).far (p := ⟨g, 0, none⟩) (hne _ _ (hI.f3 d3)) (x 3)).far (p := ⟨g, 1, none⟩) (hne _ _ (hI.f3 d3)) (x 7))
        have o7 := (((hI.f7 d7).far (p := ⟨g, 0, none⟩) (hne _ _ (hI.f7 d7)) (x 3)).far (p := ⟨g, 1, none⟩) (hne _ _ (hI.f7 d7)) (x 7))
        have bl := bset2 (r := g) hI.bel hgb (i := 0) (j := 1) (u := x 3) (v := x 7)
        exact ⟨bl, (by have h9 := hI.f0; simpa [upd] using h9), (by have h9 := hI.f1; simpa [upd] using h9), (by have h9 := hI.f2; simpa [upd] using h9), (fun _ => by simpa [upd] using o3), (by have h9 := hI.f4; simpa [upd] using h9), (by have h9 := hI.f5; simpa [upd] using h9), (by have h9 := hI.f6; simpa [upd] using h9), (fun _ => by simpa [upd] using o7), (by have h9 := hI.f8; simpa [upd] using h9), (fun _ => ⟨g, by simpa [upd] using hg, hgb, fun h => by simp [upd] at h, fun _ => by simpa [upd] using ar⟩), (by have h9 := hI.f37; simpa [upd] using h9)⟩
    · intro D x w1 hI hD
      have d3 := hD 3 (by decide)
      have d7 := hD 7 (by decide)
      obtain ⟨g, hg, hgb, _, harr⟩ := hI.f9 (hD 9 (by decide))
      simp only [putAll, dstOf, Act.put, List.map_cons, List.map_nil, List.setIfInBounds_toArray, List.set_cons_succ, List.set_cons_zero, Nat.reduceAdd]
      go_wp2_with fail
      go_meet
      exact ⟨g, hg, harr (hD 10 (by decide)), hgb, hI.f3 d3, hI.f7 d7, hI.f37 d3 d7, hI.bel⟩
  case rest =>
    obtain ⟨g, rfl, hA, hgb, h9, h13, hne, hbc⟩ := hcut
    obtain ⟨b1, o1, rfl, hlt1, c1⟩ := hX0.at_ (show a < X.length by omega)
    obtain ⟨b1', o1', e1', hlt1', c1'⟩ := hX0.at_ ha
    obtain ⟨rfl, rfl⟩ : b1 = b1' ∧ o1 = o1' := by simpa using e1'
    clear e1' hlt1'
    have haO : a + 1 < O.length := by have := HL.out; omega
    obtain ⟨b2, o2, rfl, hlt2, c2⟩ := hO0.at_ (show a < O.length by omega)
    obtain ⟨b2', o2', e2', hlt2', c2'⟩ := hO0.at_ haO
    obtain ⟨rfl, rfl⟩ : b2 = b2' ∧ o2 = o2' := by simpa using e2'
    clear e2' hlt2'
    have hw := hbw.trans (hbc.mono hbw.size)
    have hlO : 0 < O.length := by omega
    obtain ⟨gx, mx, rfl, gx1, gx2⟩ := h9.form1 (by omega)
    obtain ⟨go, mo, rfl, go1, go2⟩ := h13.form1 hlO
    have n1 : gx ≠ go := fun h => hne (by simp [Value.ownBlock, h])
    have n2 : gx ≠ g := fun h => ownI_arr_ne h9 hA (by decide) (by simp [Value.ownBlock, h])
    have n3 : go ≠ g := fun h => ownI_arr_ne h13 hA (by decide) (by simp [Value.ownBlock, h])
    clear hne
    have bl1 := p0.lt
    have gz := hA.lt
    have hwz := hbw.size
    have q0 := p0.below hbc p0.lt
    have q1 := p1.below hbc p1.lt
    clear p0 p1 y0 y1 hbc hbw
    have sw (l : List Int) (h : a + 1 < l.length) : (l.set a l[a + 1]).set (a + 1) (l[a]) = swapL l a := by simp [swapL, List.getD_eq_getElem?_getD, h, show a < l.length from by omega]
    have SW := Lib.hid sw
    clear sw
    go_wp2_with fail
    go_cut [5] (fun s5 wx => s5 = .pointer (some ⟨g, 0, none⟩) ∧ Arr wx g 24 [.slice (some ⟨gx, 0, none⟩) X.length mx, .slice (some ⟨go, 0, none⟩) O.length mo] ∧ OwnI 3 w4.heap.size wx (.slice (some ⟨gx, 0, none⟩) X.length mx) (swapL X a) ∧ OwnI 3 w4.heap.size wx (.slice (some ⟨go, 0, none⟩) O.length mo) O ∧ Arr wx w.heap.size 24 [.slice (some ⟨b1, o1, none⟩) X.length c, .slice (some ⟨b2, o2, none⟩) O.length c'] ∧ Arr wx (w.heap.size + 1) 24 [.slice none 0 0, .slice none 0 0] ∧ Below w.heap.size w wx)
    case first =>
      have r0 := hA.cell 0
      have y0 := q0.cell 0
      have z1 := (hw.cell (p := ⟨b1, o1 + a, none⟩) hlt1).trans c1
      have z1' := (hw.cell (p := ⟨b1, o1 + (a + 1), none⟩) hlt1).trans c1'
      obtain ⟨ka1, ka2⟩ := h9.at_ (show a < X.length by omega)
      obtain ⟨kb1, kb2⟩ := h9.at_ (show a + 1 < X.length by omega)
      have KS0 := Lib.hid (show wc.drew.cell? ⟨w.heap.size, 0, none⟩ = some (.slice (some ⟨b1, o1, none⟩) X.length c) ∧ wc.drew.cell? ⟨g, 0, none⟩ = some (.slice (some ⟨gx, 0, none⟩) X.length mx) ∧ wc.drew.cell? ⟨b1, o1 + a, none⟩ = some (.int .i64 X[a]) ∧ wc.drew.cell? ⟨b1, o1 + (a + 1), none⟩ = some (.int .i64 X[a + 1]) from ⟨y0, r0, z1, z1'⟩)
      have KS := Lib.hid (fun (W : World) (j : Nat) (u : Value) (hS : W.cell? ⟨w.heap.size, 0, none⟩ = some (.slice (some ⟨b1, o1, none⟩) X.length c) ∧ W.cell? ⟨g, 0, none⟩ = some (.slice (some ⟨gx, 0, none⟩) X.length mx) ∧ W.cell? ⟨b1, o1 + a, none⟩ = some (.int .i64 X[a]) ∧ W.cell? ⟨b1, o1 + (a + 1), none⟩ = some (.int .i64 X[a + 1])) => (⟨(cell_far (by show w.heap.size ≠ gx; omega) u).trans hS.1, (cell_far (by show g ≠ gx; omega) u).trans hS.2.1, (cell_far (by show b1 ≠ gx; omega) u).trans hS.2.2.1, (cell_far (by show b1 ≠ gx; omega) u).trans hS.2.2.2⟩ : (W.setCell ⟨gx, j, none⟩ u).cell? ⟨w.heap.size, 0, none⟩ = some (.slice (some ⟨b1, o1, none⟩) X.length c) ∧ (W.setCell ⟨gx, j, none⟩ u).cell? ⟨g, 0, none⟩ = some (.slice (some ⟨gx, 0, none⟩) X.length mx) ∧ (W.setCell ⟨gx, j, none⟩ u).cell? ⟨b1, o1 + a, none⟩ = some (.int .i64 X[a]) ∧ (W.setCell ⟨gx, j, none⟩ u).cell? ⟨b1, o1 + (a + 1), none⟩ = some (.int .i64 X[a + 1])))
      have j0 : (0 : Int) ≤ (a : Int) := by omega
      have j1 : (a : Int) < (X.length : Int) := by omega
      have j2 : (0 : Int) ≤ (a : Int) + 1 := by omega
      have j3 : (a : Int) + 1 < (X.length : Int) := by omega
      have j4 : ((a : Int) + 1).toNat = a + 1 := by omega
      have j5 : IntKind.i64.wrap ((a : Int) + 1) = (a : Int) + 1 := IntWalk.i64_in _ (by omega)
      go_wp2_with fail
      go_region_held3 (fun w' => w'.cell? ⟨w.heap.size, 0, none⟩ = some (.slice (some ⟨b1, o1, none⟩) X.length c) ∧ w'.cell? ⟨g, 0, none⟩ = some (.slice (some ⟨gx, 0, none⟩) X.length mx) ∧ w'.cell? ⟨b1, o1 + a, none⟩ = some (.int .i64 X[a]) ∧ w'.cell? ⟨b1, o1 + (a + 1), none⟩ = some (.int .i64 X[a + 1])) (first | exact KS0.out | exact KS.out _ _ _ KS0.out | exact KS.out _ _ _ (KS.out _ _ _ KS0.out)) (fail)
      go_wp2_with fail
      go_meet
      have sx := SW.out X ha
      refine ⟨rfl, (hA.far (p := ⟨gx, a, none⟩) (Ne.symm n2) _).far (p := ⟨gx, a + 1, none⟩) (Ne.symm n2) _, ?_, (h13.far (p := ⟨gx, a, none⟩) (by simp [Value.ownBlock]; omega) _).far (p := ⟨gx, a + 1, none⟩) (by simp [Value.ownBlock]; omega) _, (q0.far (p := ⟨gx, a, none⟩) (by show w.heap.size ≠ gx; omega) _).far (p := ⟨gx, a + 1, none⟩) (by show w.heap.size ≠ gx; omega) _, (q1.far (p := ⟨gx, a, none⟩) (by show w.heap.size + 1 ≠ gx; omega) _).far (p := ⟨gx, a + 1, none⟩) (by show w.heap.size + 1 ≠ gx; omega) _, (bset2 (r := gx) hw (by omega)).drew⟩
      rw [← sx]
      exact (h9.set a _).set (a + 1) _
    case rest =>
      clear hA h9 h13 q0 q1 hw gx2 go2 gz
      obtain ⟨rfl, hA, h9, h13, q0, q1, hw⟩ := hcut
      have gz := hA.lt
      go_wp2_with fail
      go_cut [5] (fun s5 wx => s5 = .pointer (some ⟨g, 0, none⟩) ∧ Arr wx g 24 [.slice (some ⟨gx, 0, none⟩) X.length mx, .slice (some ⟨go, 0, none⟩) O.length mo] ∧ OwnI 3 w4.heap.size wx (.slice (some ⟨gx, 0, none⟩) X.length mx) (swapL X a) ∧ OwnI 3 w4.heap.size wx (.slice (some ⟨go, 0, none⟩) O.length mo) (swapL O a) ∧ Arr wx (w.heap.size + 1) 24 [.slice none 0 0, .slice none 0 0] ∧ Below w.heap.size w wx)
      case first =>
        have r0 := hA.cell 1
        have y0 := q0.cell 1
        have z1 := (hw.cell (p := ⟨b2, o2 + a, none⟩) hlt2).trans c2
        have z1' := (hw.cell (p := ⟨b2, o2 + (a + 1), none⟩) hlt2).trans c2'
        obtain ⟨ka1, ka2⟩ := h13.at_ (show a < O.length by omega)
        obtain ⟨kb2, kb2⟩ := h13.at_ (show a + 1 < O.length by omega)
        have KS0 := Lib.hid (show wc.drew.cell? ⟨w.heap.size, 1, none⟩ = some (.slice (some ⟨b2, o2, none⟩) O.length c') ∧ wc.drew.cell? ⟨g, 1, none⟩ = some (.slice (some ⟨go, 0, none⟩) O.length mo) ∧ wc.drew.cell? ⟨b2, o2 + a, none⟩ = some (.int .i64 O[a]) ∧ wc.drew.cell? ⟨b2, o2 + (a + 1), none⟩ = some (.int .i64 O[a + 1]) from ⟨y0, r0, z1, z1'⟩)
        have KS := Lib.hid (fun (W : World) (j : Nat) (u : Value) (hS : W.cell? ⟨w.heap.size, 1, none⟩ = some (.slice (some ⟨b2, o2, none⟩) O.length c') ∧ W.cell? ⟨g, 1, none⟩ = some (.slice (some ⟨go, 0, none⟩) O.length mo) ∧ W.cell? ⟨b2, o2 + a, none⟩ = some (.int .i64 O[a]) ∧ W.cell? ⟨b2, o2 + (a + 1), none⟩ = some (.int .i64 O[a + 1])) => (⟨(cell_far (by show w.heap.size ≠ go; omega) u).trans hS.1, (cell_far (by show g ≠ go; omega) u).trans hS.2.1, (cell_far (by show b2 ≠ go; omega) u).trans hS.2.2.1, (cell_far (by show b2 ≠ go; omega) u).trans hS.2.2.2⟩ : (W.setCell ⟨go, j, none⟩ u).cell? ⟨w.heap.size, 1, none⟩ = some (.slice (some ⟨b2, o2, none⟩) O.length c') ∧ (W.setCell ⟨go, j, none⟩ u).cell? ⟨g, 1, none⟩ = some (.slice (some ⟨go, 0, none⟩) O.length mo) ∧ (W.setCell ⟨go, j, none⟩ u).cell? ⟨b2, o2 + a, none⟩ = some (.int .i64 O[a]) ∧ (W.setCell ⟨go, j, none⟩ u).cell? ⟨b2, o2 + (a + 1), none⟩ = some (.int .i64 O[a + 1])))
        have j0 : (0 : Int) ≤ (a : Int) := by omega
        have j1 : (a : Int) < (O.length : Int) := by omega
        have j2 : (0 : Int) ≤ (a : Int) + 1 := by omega
        have j3 : (a : Int) + 1 < (O.length : Int) := by omega
        have j4 : ((a : Int) + 1).toNat = a + 1 := by omega
        have j5 : IntKind.i64.wrap ((a : Int) + 1) = (a : Int) + 1 := IntWalk.i64_in _ (by omega)
        go_wp2_with fail
        go_region_held3 (fun w' => w'.cell? ⟨w.heap.size, 1, none⟩ = some (.slice (some ⟨b2, o2, none⟩) O.length c') ∧ w'.cell? ⟨g, 1, none⟩ = some (.slice (some ⟨go, 0, none⟩) O.length mo) ∧ w'.cell? ⟨b2, o2 + a, none⟩ = some (.int .i64 O[a]) ∧ w'.cell? ⟨b2, o2 + (a + 1), none⟩ = some (.int .i64 O[a + 1])) (first | exact KS0.out | exact KS.out _ _ _ KS0.out | exact KS.out _ _ _ (KS.out _ _ _ KS0.out)) (fail)
        go_wp2_with fail
        go_meet
        have sx := SW.out O haO
        refine ⟨rfl, (hA.far (p := ⟨go, a, none⟩) (Ne.symm n3) _).far (p := ⟨go, a + 1, none⟩) (Ne.symm n3) _, (h9.far (p := ⟨go, a, none⟩) (by simp [Value.ownBlock]; omega) _).far (p := ⟨go, a + 1, none⟩) (by simp [Value.ownBlock]; omega) _, ?_, (q1.far (p := ⟨go, a, none⟩) (by show w.heap.size + 1 ≠ go; omega) _).far (p := ⟨go, a + 1, none⟩) (by show w.heap.size + 1 ≠ go; omega) _, (bset2 (r := go) hw (by omega)).drew⟩
        rw [← sx]
        exact (h13.set a _).set (a + 1) _
      case rest =>
        clear hA h9 h13 q0 q1 hw gz SW
        obtain ⟨rfl, hA, h9, h13, q1, hw⟩ := hcut
        have r0 := hA.cell 0
        have r1 := hA.cell 1
        have s0 := q1.cell 0
        have s1 := q1.cell 1
        have s2 := q1.frozen 0
        have s3 := q1.frozen 1
        have hres := Lib.hid ((q1.set 0 (.slice (some ⟨gx, 0, none⟩) X.length mx)).set 1 (.slice (some ⟨go, 0, none⟩) O.length mo))
        go_wp2_with fail
        refine bodyPost_ret (v := .agg #[.slice (some ⟨gx, 0, none⟩) X.length mx, .slice (some ⟨go, 0, none⟩) O.length mo]) (results_c Tryz.results84 _ _ (w.heap.size + 1) 24 _ _ rfl hres.out Tryz.underlying24 rfl info_grid) rfl ?_
        exact ⟨_, rfl, ⟨_, _, _, _, _, _, rfl, (h9.far2 (r := w.heap.size + 1) l1).mono hwz, (h13.far2 (r := w.heap.size + 1) l1).mono hwz⟩, bset2 (r := w.heap.size + 1) hw (by omega)⟩
end Go.Proofs.YteliflcbegcdlaaGreatDoor

namespace Go.Proofs.YteliflcbegcdlaaGreatDoor
open Go.RowKit
set_option linter.unusedVariables false
/-- new memory, and writes to block z alone -/
structure Gro (B : Nat) (w w' : World) (z : Option Nat) : Prop where
  bel : Below B w w'
  keep : ∀ k, k < w.heap.size → z ≠ some k → w'.heap[k]? = w.heap[k]?
theorem Gro.size {B : Nat} {w w' : World} {z : Option Nat} (g : Gro B w w' z) : w.heap.size ≤ w'.heap.size := g.bel.size
theorem Gro.of_below {w w' : World} (h : Below w.heap.size w w') : Gro w.heap.size w w' none := ⟨h, fun k hk _ => h.block k hk⟩
theorem Gro.alloc (w : World) (o : Obj) : Gro w.heap.size w (w.alloc o) none := Gro.of_below ((Below.refl _ _).alloc (Nat.le_refl _) _)
theorem Gro.mono {B C : Nat} {w w' : World} {z : Option Nat} (g : Gro B w w' z) (h : C ≤ B) : Gro C w w' z := ⟨g.bel.mono h, g.keep⟩
theorem Arr.gro {B b : Nat} {w w' : World} {z : Option Nat} {t : TypeId} {cs : List Value} (h : Arr w b t cs) (g : Gro B w w' z) (hz : z ≠ some b) : Arr w' b t cs := (g.keep b h.lt hz).trans h
theorem OwnI.gro {B base : Nat} {e : TypeId} {w w' : World} {v : Value} {xs : List Int} {z : Option Nat} (h : OwnI e base w v xs) (g : Gro B w w' z) (hz : ∀ k, v.ownBlock = some k → z ≠ some k) : OwnI e base w' v xs := by
  refine ⟨h.1, ?_⟩
  rcases h.2 with h0 | ⟨b, cap, cur, rfl, hg, hh, r⟩
  · exact .inl h0
  · refine .inr ⟨b, cap, cur, rfl, hg, ?_, r⟩
    have hlt : b < w.heap.size := by
      rcases Nat.lt_or_ge b w.heap.size with hlt | hge
      · exact hlt
      · rw [Array.getElem?_eq_none hge] at hh; cases hh
    rw [g.keep b hlt (hz b rfl)]; exact hh
theorem OwnI.lt {base : Nat} {e : TypeId} {w : World} {v : Value} {xs : List Int} (h : OwnI e base w v xs) : ∀ k, v.ownBlock = some k → base ≤ k ∧ k < w.heap.size := by
  intro k hk
  rcases h.2 with ⟨rfl, h0⟩ | ⟨b, cap, cur, rfl, hg, hh, r⟩
  · simp [Value.ownBlock] at hk
  · simp [Value.ownBlock] at hk
    subst hk
    rcases Nat.lt_or_ge b w.heap.size with hlt | hge
    · exact ⟨hg, hlt⟩
    · rw [Array.getElem?_eq_none hge] at hh; cases hh
theorem OwnI.intsF {base : Nat} {e : TypeId} {w : World} {v : Value} {xs : List Int} (h : OwnI e base w v xs) : IntsF base w v xs := by
  intro W hW
  refine OwnI.ints (e := e) (base := base) ⟨h.1, ?_⟩
  rcases h.2 with h0 | ⟨b, cap, cur, rfl, hg, hh, r⟩
  · exact .inl h0
  · refine .inr ⟨b, cap, cur, rfl, hg, ?_, r⟩
    rw [hW b hg (h.lt b rfl).2]; exact hh
section
variable {P : Program} {w : World} {e : TypeId} {base : Nat} {v : Value} {xs : List Int}
theorem wp_appG {o : Oper} {a : Act} {K : Act → World → Prop} {Q : Exit → Act → World → Prop} (s x : Operand) (t : TypeId) (ho : o.op = .call { callee := .builtin .append, args := #[s, x], argTypes := #[t, t] })
    {i : TypeInfo} (ht : P.underlying t = some (.slice e)) (hi : P.info? e = some i) (hz : i.zero = some (.int .i64 0)) (hs : i.size = 1) (hby : i.bytes = 8)
    (hv : a.eval s = v) (h : OwnI e base w v xs) {ad : Addr} {c : Nat} {ys : List Int} (hx : a.eval x = .slice (some ad) ys.length c) (hu : Ints w (.slice (some ad) ys.length c) ys) (hlen : xs.length + ys.length ≤ 1000000000) (hbase : base ≤ w.heap.size)
    (hK : ∀ v' w', OwnI e base w' v' (xs ++ ys) → Gro base w w' v.ownBlock → (v'.ownBlock = v.ownBlock ∨ v'.ownBlock = some w.heap.size) → K (a.put o.dst v') w') : o.wp P a w K Q := by
  obtain ⟨A, c', he, hc, hx'⟩ := hu
  injection he with e1 e2 e3
  subst e1
  have hcells : ∀ j q, (ys.map (Value.int .i64))[j]? = some q → w.cell? (ad.add j) = some q := by
    intro j q hq
    rw [List.getElem?_map] at hq
    cases hy : ys[j]? with
    | none => rw [hy] at hq; cases hq
    | some y =>
      rw [hy] at hq
      injection hq with hq
      obtain ⟨b, o, hA, hcell⟩ := hx' j y hy
      injection hA with hA
      subst hA
      rw [← hq]
      have : (⟨b, o, none⟩ : Addr).add j = ⟨b, o + j, none⟩ := by unfold Addr.add; split <;> simp_all
      rw [this]; exact hcell
  obtain ⟨v', w', hrun, h2, h3, _, h5⟩ := run_append_own_at (P := P) w base t o.type e i (.int .i64 0) 1 8 ht hi hz hs hby rfl (by decide) v xs.length (xs.map (Value.int .i64)) h ad ys.length c (ys.map (Value.int .i64)) (by simp) hcells
    (by intro q hq; obtain ⟨y, _, rfl⟩ := List.mem_map.1 hq; rfl) (by unfold maxLen; omega) (by omega) hbase
  unfold Oper.wp execOp
  simp only [ho, resolve, invoke, builtin, Sem.run_bind, Sem.run_pure, Result.andThen_ok, List.map_toArray, List.map_cons, List.map_nil, hv, hx, hrun]
  refine hK v' w' ?_ ⟨(Below.refl _ _).grown h3 hbase h.block, fun k hk hne => h3.block k hk (fun e => hne e.symm)⟩ h5
  unfold OwnI
  rw [List.length_append, List.map_append]
  exact h2
end
/-- the rows of these operations are there -/
def ltF (L : List Nat) (D : Nat → Bool) (x : Nat → Value) (w : World) : Prop := ∀ p ∈ L, D p = true → ∀ k, (x p).ownBlock = some k → k < w.heap.size
/-- the rows of the first operations lie apart from those of the second ones -/
def crF (L M : List Nat) (D : Nat → Bool) (x : Nat → Value) : Prop := ∀ p ∈ L, ∀ q ∈ M, D p = true → D q = true → ∀ k, (x p).ownBlock = some k → (x q).ownBlock ≠ some k
section
variable {L M : List Nat} {D : Nat → Bool} {x : Nat → Value} {w w' : World} {i : Nat} {v : Value}
theorem ltF.upd (h : ltF L D x w) (hs : w.heap.size ≤ w'.heap.size) (hv : ∀ k, v.ownBlock = some k → k < w'.heap.size) : ltF L (upd D i true) (upd x i v) w' := by
  intro p hp hd k hk
  by_cases e : p = i
  · subst e; rw [upd_same] at hk; exact hv k hk
  · rw [upd_ne _ _ e] at hk hd
    exact Nat.lt_of_lt_of_le (h p hp hd k hk) hs
theorem ltF.skip (h : ltF L D x w) (hs : w.heap.size ≤ w'.heap.size) (hi : i ∉ L) : ltF L (Go.Proofs.YteliflcbegcdlaaGreatDoor.upd D i true) (Go.Proofs.YteliflcbegcdlaaGreatDoor.upd x i v) w' := by
  intro p hp hd k hk
  have e : p ≠ i := fun e => hi (e ▸ hp)
  rw [upd_ne _ _ e] at hk hd
  exact Nat.lt_of_lt_of_le (h p hp hd k hk) hs
theorem crF.skip (h : crF L M D x) (hi : i ∉ L) (hj : i ∉ M) : crF L M (upd D i true) (upd x i v) := by
  intro p hp q hq hd hd' k hk
  have e : p ≠ i := fun e => hi (e ▸ hp)
  have e' : q ≠ i := fun e => hj (e ▸ hq)
  rw [upd_ne _ _ e] at hk hd
  rw [upd_ne _ _ e'] at hd' ⊢
  exact h p hp q hq hd hd' k hk
theorem crF.left (h : crF L M D x) (hl : ltF M D x w) (hi : i ∉ M) (hv : ∀ k, v.ownBlock = some k → w.heap.size ≤ k ∨ ∃ p ∈ L, D p = true ∧ (x p).ownBlock = some k) : crF L M (upd D i true) (upd x i v) := by
  intro p hp q hq hd hd' k hk
  have e' : q ≠ i := fun e => hi (e ▸ hq)
  rw [upd_ne _ _ e'] at hd' ⊢
  by_cases e : p = i
  · subst e
    rw [upd_same] at hk
    rcases hv k hk with hv | ⟨p', hp', hd2, hk2⟩
    · intro hq2
      have := hl q hq hd' k hq2
      omega
    · exact h p' hp' q hq hd2 hd' k hk2
  · rw [upd_ne _ _ e] at hk hd
    exact h p hp q hq hd hd' k hk
theorem crF.right (h : crF L M D x) (hl : ltF L D x w) (hi : i ∉ L) (hv : ∀ k, v.ownBlock = some k → w.heap.size ≤ k ∨ ∃ p ∈ M, D p = true ∧ (x p).ownBlock = some k) : crF L M (upd D i true) (upd x i v) := by
  intro p hp q hq hd hd' k hk
  have e : p ≠ i := fun e => hi (e ▸ hp)
  rw [upd_ne _ _ e] at hd hk
  by_cases e' : q = i
  · subst e'
    rw [upd_same]
    intro hk'
    rcases hv k hk' with hv | ⟨q', hq', hd2, hk2⟩
    · have := hl p hp hd k hk
      omega
    · exact h p hp q' hq' hd hd2 k hk hk2
  · rw [upd_ne _ _ e'] at hd' ⊢
    exact h p hp q hq hd hd' k hk
end
end Go.Proofs.YteliflcbegcdlaaGreatDoor
