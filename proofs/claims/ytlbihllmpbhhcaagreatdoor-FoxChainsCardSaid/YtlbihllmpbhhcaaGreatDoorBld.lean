/- strings.Builder: copyCheck, WriteByte, WriteString (the shelf's do not lie over this dump). -/
import Derived.Test.YtlbihllmpbhhcaaGreatDoorShelf
import Derived.Test.YtlbihllmpbhhcaaGreatDoorLam
import Derived.Shelf.Strings.Builder1
namespace Go.Proofs.YtlbihllmpbhhcaaGreatDoor
open Go.RowKit
set_option linter.unusedVariables false

abbrev IsB (B b : Nat) (bs : List Value) (w : World) : Prop := Lib.IsBuilder 74 5 B b bs w
set_option maxHeartbeats 1000000 in
set_option maxRecDepth 100000 in
theorem bld_used (b : Nat) (w : World) (h0 : w.cell? ⟨b, 0, none⟩ = some (.pointer (some ⟨b, 0, none⟩))) :
    Calls Tryz.prog 52 #[.pointer (some ⟨b, 0, none⟩)] w fun e w' => e = .returned (.tuple #[]) ∧ w' = w := by
  obtain ⟨j, hj, _⟩ := Option.map_eq_some_iff.1 Tryz.Builder_Extra_169.sizeBuilder
  go_enter Tryz.func52, Tryz.ntmps52
  go_wp2_with fail
  rw [Lib.run_neq_ptr_same w _ Tryz.underlying71 hj]
  go_wp2_with fail
  go_end0
  exact ⟨rfl, rfl⟩
set_option maxHeartbeats 1000000 in
set_option maxRecDepth 100000 in
theorem bld_fresh (b : Nat) (w : World) (h0 : w.cell? ⟨b, 0, none⟩ = some (.pointer none)) (hsh : w.shape? b = some (74, 2)) (hfz : w.frozen? ⟨b, 0, none⟩ = false) :
    Calls Tryz.prog 52 #[.pointer (some ⟨b, 0, none⟩)] w fun e w' => e = .returned (.tuple #[]) ∧ w' = w.setCell ⟨b, 0, none⟩ (.pointer (some ⟨b, 0, none⟩)) := by
  obtain ⟨j, hj, hjs⟩ := Option.map_eq_some_iff.1 Tryz.Builder_Extra_169.sizeBuilder
  go_enter Tryz.func52, Tryz.ntmps52
  go_wp2_with fail
  rw [Lib.run_to_unsafe w ⟨b, 0, none⟩ Tryz.underlying71 Tryz.underlying105 hj (by rw [hjs]; decide) hsh (Nat.zero_lt_succ 1)]
  simp only [Result.andThen]
  rw [Oper.upon_value]
  go_wp2_with fail
  rw [run_callFunc_extern Tryz.func63 (by kernel_rfl) (by kernel_rfl) (by kernel_rfl) (e := Extern.AbiNoEscape.same) (by kernel_rfl)]
  rw [Lib.run_noEscape]
  simp only [Result.andThen]
  rw [Oper.upon_value]
  go_wp2_with fail
  rw [Lib.run_from_unsafe w ⟨b, 0, none⟩ Tryz.underlying105 Tryz.underlying71 hj hsh Tryz.Builder_Extra_169.liesBuilder]
  simp only [Result.andThen]
  rw [Oper.upon_value]
  go_wp2_with fail
  go_end0
  exact ⟨rfl, rfl⟩
/-- blocks of other types than bytes are kept, but for the builder's own -/
def KeepB (b : Nat) (w w' : World) : Prop := ∀ g t cs, Arr w g t cs → t ≠ 5 → g ≠ b → Arr w' g t cs
theorem KeepB.refl (b : Nat) (w : World) : KeepB b w w := fun _ _ _ h _ _ => h
theorem KeepB.set {b : Nat} {w w' : World} (h : KeepB b w w') (i : Nat) (v : Value) : KeepB b w (w'.setCell ⟨b, i, none⟩ v) := fun g t cs ha ht hg => (Below.heap_setCell w' ⟨b, i, none⟩ v g hg).trans (h g t cs ha ht hg)
theorem KeepB.trans {b : Nat} {w1 w2 w3 : World} (h : KeepB b w1 w2) (k : KeepB b w2 w3) : KeepB b w1 w3 := fun g t cs ha ht hg => k g t cs (h g t cs ha ht hg) ht hg
theorem KeepB.below {b : Nat} {w1 w2 w3 : World} (h : KeepB b w1 w2) (k : Below w2.heap.size w2 w3) : KeepB b w1 w3 := fun g t cs ha ht hg => (h g t cs ha ht hg).below k (h g t cs ha ht hg).lt
theorem bld_apart {base n g : Nat} {w : World} {v : Value} {xs cs : List Value} {t : TypeId} (h : w.ownsRow base 5 1 v n xs) (hg : Arr w g t cs) (hne : t ≠ 5) : v.ownBlock ≠ some g := by
  intro hk
  rcases h.2 with ⟨rfl, h0⟩ | ⟨k, cap, cur, rfl, _, hh, r⟩
  · simp [Value.ownBlock] at hk
  · simp [Value.ownBlock] at hk
    subst hk
    unfold Arr at hg
    rw [hg] at hh
    injection hh with hh
    injection hh with _ h2 _
    exact hne h2
theorem KeepB.grown {b base n : Nat} {w w' w'' : World} {v : Value} {xs : List Value} (h : KeepB b w w') (ho : w'.ownsRow base 5 1 v n xs) (hg : w'.grownBy w'' v.ownBlock) : KeepB b w w'' := fun g t cs ha ht hgb =>
  (hg.block g (h g t cs ha ht hgb).lt (fun e => bld_apart ho (h g t cs ha ht hgb) ht e.symm)).trans (h g t cs ha ht hgb)
theorem bld_check (B b : Nat) (bs : List Value) (w : World) (h : IsB B b bs w) :
    Calls Tryz.prog 52 #[.pointer (some ⟨b, 0, none⟩)] w fun e w' => e = .returned (.tuple #[]) ∧ (Lib.BuilderAt 74 5 B b (.pointer (some ⟨b, 0, none⟩)) bs w' ∧ Below B w w' ∧ KeepB b w w') := by
  rcases h with h | h
  · refine (bld_fresh b w h.cell0 h.shape h.frozen0).mono ?_
    rintro e w' ⟨rfl, rfl⟩
    exact ⟨rfl, h.used _, (Below.refl B w).setCell (p := ⟨b, 0, none⟩) h.1 _, (KeepB.refl b w).set 0 _⟩
  · refine (bld_used b w h.cell0).mono ?_
    rintro e w' ⟨rfl, rfl⟩
    exact ⟨rfl, h, Below.refl B _, KeepB.refl b _⟩
theorem bld_slice {base : Nat} {w : World} {v : Value} {n : Nat} {xs : List Value} (h : w.ownsRow base 5 1 v n xs) : ∃ A n' c, v = .slice A n' c := by
  rcases h.2 with ⟨hv, _⟩ | ⟨g, cap, cur, hv, _⟩
  · exact ⟨_, _, _, hv⟩
  · exact ⟨_, _, _, hv⟩
theorem bld_lt {w : World} {b : Nat} {o : Obj} (h : w.heap[b]? = some o) : b < w.heap.size := by
  rcases Nat.lt_or_ge b w.heap.size with q | q
  · exact q
  · rw [Array.getElem?_eq_none q] at h; cases h
theorem bld_c0 {w : World} {b : Nat} {p v : Value} (h : w.heap[b]? = some (.cells #[p, v] 74 (0, 0))) : w.cell? ⟨b, 0, none⟩ = some p ∧ w.cell? ⟨b, 1, none⟩ = some v ∧ w.frozen? ⟨b, 1, none⟩ = false :=
  ⟨by rw [Lib.cell_of_heap h]; rfl, by rw [Lib.cell_of_heap h]; rfl, Lib.frozen_of_heap h 1⟩
set_option maxHeartbeats 2000000 in
set_option maxRecDepth 100000 in
theorem bld_string (B b : Nat) (bs : List Value) (s : ByteArray) (w : World) (h : IsB B b bs w) (hlen : bs.length + s.size ≤ 100000000000) (hBw : B ≤ w.heap.size) :
    Calls Tryz.prog 36 #[.pointer (some ⟨b, 0, none⟩), .string s] w fun e w' => e = .returned (.tuple #[.int .i64 s.size, .nilIface]) ∧ IsB B b (bs ++ Lib.strCells s) w' ∧ Below B w w' ∧ KeepB b w w' := by
  have HC := Lib.hid (bld_check B b bs w h)
  obtain ⟨i0, hi, hz0, hz1, hz2⟩ := info_parts Tryz.Builder_Extra_169.infoByte
  clear h
  go_enter Tryz.func36, Tryz.ntmps36
  go_wp2_with fail
  refine HC.out.mono ?_
  rintro e w1 ⟨rfl, ⟨hB, v, hbk, hown, hne⟩, hb1, hk1⟩
  obtain ⟨c0, c1, _⟩ := bld_c0 hbk
  have hs1 := hb1.size
  go_wp2_with (at_builtin; refine Lib.wpList_append_own_string _ rfl _ _ 72 9 rfl B 5 i0 Tryz.underlying72 Tryz.underlying9 hi hz0 hz1 hz2 _ _ _ rfl hown s rfl (by unfold maxLen; omega) (by omega) (by omega) ?_)
  intro v' w2 hown' hgrow _
  have hb2 : w2.heap[b]? = some (.cells #[.pointer (some ⟨b, 0, none⟩), v] 74 (0, 0)) := (hgrow.block b (bld_lt hbk) (fun e => hne e.symm)).trans hbk
  obtain ⟨d0, d1, f1⟩ := bld_c0 hb2
  have HK := Lib.hid ((hk1.grown hown hgrow).set 1 v')
  have HO := Lib.hid (And.intro hown' (And.intro hb2 ((hb1.grown hgrow (by omega) (fun k hk => (hown.lt k hk).1)).setCell (p := ⟨b, 1, none⟩) hB v')))
  obtain ⟨A', n', c', rfl⟩ := bld_slice hown'
  clear hown hown' hgrow hbk hb2 c0 c1 hb1 hk1
  go_wp2_with fail
  go_ret2
  exact ⟨rfl, .inr (Lib.BuilderAt.put (T := 74) (e := 5) hB HO.out.2.1 (bs' := bs ++ Lib.strCells s) (by simpa [Lib.strCells_length] using HO.out.1) (by decide)), HO.out.2.2, HK.out⟩
set_option maxHeartbeats 2000000 in
set_option maxRecDepth 100000 in
theorem bld_byte (B b : Nat) (bs : List Value) (x : Int) (w : World) (h : IsB B b bs w) (hlen : bs.length ≤ 100000000000) (hBw : B ≤ w.heap.size) :
    Calls Tryz.prog 35 #[.pointer (some ⟨b, 0, none⟩), .int .u8 x] w fun e w' => e = .returned .nilIface ∧ IsB B b (bs ++ [.int .u8 x]) w' ∧ Below B w w' ∧ KeepB b w w' := by
  have HC := Lib.hid (bld_check B b bs w h)
  obtain ⟨i0, hi, hz0, hz1, hz2⟩ := info_parts Tryz.Builder_Extra_169.infoByte
  clear h
  go_enter Tryz.func35, Tryz.ntmps35
  go_wp2_with fail
  refine HC.out.mono ?_
  rintro e w1 ⟨rfl, ⟨hB, v, hbk, hown, hne⟩, hb1, hk1⟩
  obtain ⟨c0, c1, _⟩ := bld_c0 hbk
  have hs1 := hb1.size
  have hlb := bld_lt hbk
  go_wp2_with (at_builtin; refine wpList_append_own _ rfl _ _ 72 rfl B 5 i0 (.int .u8 0) 1 1 Tryz.underlying72 hi hz0 hz1 hz2 rfl (by decide) _ _ _ rfl (hown.alloc _) ⟨w1.heap.size, 0, none⟩ 1 1 [.int .u8 x] rfl rfl ?c1 ?c2 ?c3 ?c4 ?c5 ?_)
  case c1 =>
    intro j u hj
    match j, hj with
    | 0, hj => simp at hj; subst hj; simp [Addr.add]
  case c2 => intro u hu; simp at hu; subst hu; rfl
  case c3 => unfold maxLen; omega
  case c4 => omega
  case c5 => simp; omega
  intro v' w2 hown' hgrow _
  have hb2 : w2.heap[b]? = some (.cells #[.pointer (some ⟨b, 0, none⟩), v] 74 (0, 0)) := ((hgrow.block b (by simp; omega) (fun e => hne e.symm)).trans (Lib.alloc_old w1 _ b hlb)).trans hbk
  obtain ⟨d0, d1, f1⟩ := bld_c0 hb2
  have HK := Lib.hid (((hk1.below ((Below.refl _ _).alloc (Nat.le_refl _) _)).grown (hown.alloc _) hgrow).set 1 v')
  have HO := Lib.hid (And.intro hown' (And.intro hb2 (((hb1.alloc (by omega) _).grown hgrow (by simp; omega) (fun k hk => (hown.lt k hk).1)).setCell (p := ⟨b, 1, none⟩) hB v')))
  obtain ⟨A', n', c', rfl⟩ := bld_slice hown'
  clear hown hown' hgrow hbk hb2 c0 c1 hb1 hk1
  go_wp2_with fail
  go_ret
  exact ⟨rfl, .inr (Lib.BuilderAt.put (T := 74) (e := 5) hB HO.out.2.1 (bs' := bs ++ [.int .u8 x]) (by simpa using HO.out.1) (by decide)), HO.out.2.2, HK.out⟩
end Go.Proofs.YtlbihllmpbhhcaaGreatDoor
