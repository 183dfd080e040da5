/- laurent's Text. -/
import Derived.Test.YtbfggncmjdhapaaGreatDoorZBld
import Derived.Test.YtbfggncmjdhapaaGreatDoorZPad
import Derived.Lib.AppendIntMem
import Derived.Lib.ItoaLen
import Derived.Deep.CutRange
namespace Go.Proofs.YtbfggncmjdhapaaGreatDoor
open Go.RowKit
set_option linter.unusedVariables false

/-- the table of the powers of ten is laid -/
def Tb (w : World) : Prop := Lib.TabIs Tryz.prog w "internal/strconv.uint64pow10" .u64 Lib.pow10Tab
theorem Tb.below {w w' : World} (h : Tb w) (hb : Below w.heap.size w w') : Tb w' := by
  unfold Tb Lib.TabIs World.var? at h ⊢
  cases hg : Tryz.prog.globalNamed "internal/strconv.uint64pow10" with
  | none => rw [hg] at h; simp at h
  | some g =>
  rw [hg] at h
  simp only [Option.bind_some] at h ⊢
  have hlt : g < w.heap.size := by
    rcases Nat.lt_or_ge g w.heap.size with q | q
    · exact q
    · rw [Array.getElem?_eq_none q] at h; cases h
  rw [hb.block g hlt]
  exact h
theorem itoa_any (n : Int) (h0 : -9223372036854775808 ≤ n) (h1 : n ≤ 9223372036854775807) (w : World) (ht : Tb w) :
    Calls Tryz.prog 63 #[.int .i64 n] w fun e w' => e = .returned (.string ⟨(Lib.itoa n).toArray⟩) ∧ Below w.heap.size w w' :=
  Calls.mono (Tryz.strconv_Itoa n h0 h1 w ht) (by
    rintro e w' ⟨rfl, k, os, rfl⟩
    exact ⟨rfl, Lib.below_grow _ _ (Nat.le_refl _) _ _⟩)
def cabs (c : Int) : Int := if c < 0 then -c else c
def sgT (i : Nat) (c : Int) : List UInt8 := if c < 0 then [45] else if 0 < i then [43] else []
def coT (c e : Int) : List UInt8 := if cabs c = 1 ∧ e ≠ 0 then [] else Lib.itoa (cabs c)
def vaT (nm : List UInt8) (e : Int) : List UInt8 := if e = 0 then [] else nm
def poT (e : Int) : List UInt8 := if e = 0 ∨ e = 1 then [] else 94 :: Lib.itoa e
def txtT (nm : List UInt8) (i : Nat) (t : Int × Int) : List UInt8 := sgT i t.2 ++ (coT t.2 t.1 ++ (vaT nm t.1 ++ poT t.1))
def txtU (nm : List UInt8) (l : List (Int × Int)) : Nat → List UInt8
  | 0 => []
  | k + 1 => txtU nm l k ++ txtT nm k (l[k]?.getD (0, 0))
def txt (nm : List UInt8) : Pol → List UInt8
  | none => [98, 105, 103]
  | some l => if l.length = 0 then [48] else txtU nm l l.length
theorem sgT_len (i : Nat) (c : Int) : (sgT i c).length ≤ 1 := by unfold sgT; split; · simp
                                                                 · split <;> simp
theorem coT_len {c e : Int} (h : -1125899906842624 ≤ c ∧ c ≤ 1125899906842624) : (coT c e).length ≤ 21 := by
  unfold coT
  split
  · simp
  · exact Lib.itoa_length_le _ (by unfold cabs; split <;> omega) (by unfold cabs; split <;> omega)
theorem vaT_len {nm : List UInt8} {e : Int} : (vaT nm e).length ≤ nm.length := by unfold vaT; split <;> simp
theorem poT_len {e : Int} (h : -1048576 ≤ e ∧ e ≤ 1048576) : (poT e).length ≤ 22 := by
  unfold poT
  split
  · simp
  · have := Lib.itoa_length_le e (by omega) (by omega)
    rw [List.length_cons]; omega
theorem txtT_len {nm : List UInt8} {i : Nat} {t : Int × Int} (hn : nm.length ≤ 1000) (h1 : -1125899906842624 ≤ t.2 ∧ t.2 ≤ 1125899906842624) (h2 : -1048576 ≤ t.1 ∧ t.1 ≤ 1048576) : (txtT nm i t).length ≤ 2000 := by
  have a := sgT_len i t.2
  have b := coT_len (e := t.1) h1
  have c := vaT_len (nm := nm) (e := t.1)
  have d := poT_len h2
  unfold txtT
  simp only [List.length_append]
  omega
theorem txtU_len {nm : List UInt8} {l : List (Int × Int)} (hn : nm.length ≤ 1000) (hl : Lim l) : ∀ k, k ≤ l.length → (txtU nm l k).length ≤ 2000 * k
  | 0, _ => by simp [txtU]
  | k + 1, h => by
    have h1 := txtU_len hn hl k (by omega)
    have e : l[k]?.getD (0, 0) = l[k] := by rw [List.getElem?_eq_getElem (by omega)]; rfl
    have h2 := txtT_len (i := k) hn (hl.co _ (List.getElem_mem (show k < l.length by omega))) (hl.ex _ (List.getElem_mem (show k < l.length by omega)))
    rw [txtU, List.length_append, e]; omega
theorem IsB.below {B b : Nat} {bs : List Value} {w w' : World} (h : IsB B b bs w) (hb : Below w.heap.size w w') : IsB B b bs w' := by
  have key : ∀ p, Lib.BuilderAt 102 5 B b p bs w → Lib.BuilderAt 102 5 B b p bs w' := by
    rintro p ⟨h1, v, h2, h3, h4⟩
    refine ⟨h1, v, (hb.block b (bld_lt h2)).trans h2, ⟨h3.1, ?_⟩, h4⟩
    rcases h3.2 with h0 | ⟨k, cap, cur, rfl, hg, hh, r⟩
    · exact .inl h0
    · exact .inr ⟨k, cap, cur, rfl, hg, (hb.block k (bld_lt hh)).trans hh, r⟩
  rcases h with h | h
  · exact .inl (key _ h)
  · exact .inr (key _ h)
/-- the state of a round of Text -/
structure TxSt (w : World) (g : Nat) (t : Int × Int) (bs : List UInt8) (wx : World) : Prop where
  ib : IsB (w.heap.size + 1) (w.heap.size + 1) (Lib.byteCells bs) wx
  bel : Below w.heap.size w wx
  sz : g + 1 ≤ wx.heap.size
  tt : Arr wx g 76 [.int .i64 t.1, .int .i64 t.2]
  gb : w.heap.size + 2 ≤ g
theorem TxSt.byte {w wx : World} {g : Nat} {t : Int × Int} {bs : List UInt8} (h : TxSt w g t bs wx) (hl : bs.length ≤ 10000000000) (x : UInt8) (n : Int) (hn : n = (x.toNat : Int)) :
    Calls Tryz.prog 62 #[.pointer (some ⟨w.heap.size + 1, 0, none⟩), .int .u8 n] wx fun e w' => e = .returned .nilIface ∧ TxSt w g t (bs ++ [x]) w' := by
  subst hn
  have hs := h.sz
  have hg := h.gb
  refine Calls.mono (bld_byte _ _ _ _ wx h.ib (by rw [Lib.byteCells_length]; omega) (by omega)) ?_
  rintro e w' ⟨rfl, h1, h2, h3⟩
  refine ⟨rfl, by rw [Lib.byteCells_append]; exact h1, h.bel.trans (h2.mono (by omega)), by have := h2.size; omega, h3 _ _ _ h.tt (by decide) (by omega), hg⟩
theorem TxSt.str {w wx : World} {g : Nat} {t : Int × Int} {bs : List UInt8} (h : TxSt w g t bs wx) (hl : bs.length ≤ 10000000000) (s : List UInt8) (hsl : s.length ≤ 1000) :
    Calls Tryz.prog 61 #[.pointer (some ⟨w.heap.size + 1, 0, none⟩), .string ⟨s.toArray⟩] wx fun e w' => (∃ q, e = .returned (.tuple #[.int .i64 q, .nilIface])) ∧ TxSt w g t (bs ++ s) w' := by
  have hs := h.sz
  have hg := h.gb
  have e1 : (ByteArray.mk s.toArray).size = s.length := rfl
  refine Calls.mono (bld_string _ _ _ ⟨s.toArray⟩ wx h.ib (by rw [Lib.byteCells_length, e1]; omega) (by omega)) ?_
  rintro e w' ⟨rfl, h1, h2, h3⟩
  refine ⟨⟨_, rfl⟩, by rw [Lib.byteCells_append]; exact h1, h.bel.trans (h2.mono (by omega)), by have := h2.size; omega, h3 _ _ _ h.tt (by decide) (by omega), hg⟩
theorem TxSt.itoa {w wx : World} {g : Nat} {t : Int × Int} {bs : List UInt8} (h : TxSt w g t bs wx) (ht : Tb w) (n : Int) (h0 : -9223372036854775808 ≤ n) (h1 : n ≤ 9223372036854775807) :
    Calls Tryz.prog 63 #[.int .i64 n] wx fun e w' => e = .returned (.string ⟨(Lib.itoa n).toArray⟩) ∧ TxSt w g t bs w' := by
  have hs := h.sz
  have hg := h.gb
  refine Calls.mono (itoa_any n h0 h1 wx (ht.below h.bel)) ?_
  rintro e w' ⟨rfl, h2⟩
  exact ⟨rfl, h.ib.below h2, h.bel.trans (h2.mono (by have := h.bel.size; omega)), by have := h2.size; omega, h.tt.below h2 h.tt.lt, hg⟩
end Go.Proofs.YtbfggncmjdhapaaGreatDoor
