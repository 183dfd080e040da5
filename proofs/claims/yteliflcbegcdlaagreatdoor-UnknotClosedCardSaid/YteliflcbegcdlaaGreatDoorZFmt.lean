/- grid.list, grid.Format, unknot.class: walks. -/
import Derived.Test.YteliflcbegcdlaaGreatDoorZBl2
import Derived.Test.YteliflcbegcdlaaGreatDoorZRtr
import Derived.Deep.CutRange
namespace Go.Proofs.YteliflcbegcdlaaGreatDoor
open Go.RowKit
set_option linter.unusedVariables false
structure TxL (w : World) (bs : List UInt8) (wx : World) : Prop where
  ib : IsB w.heap.size w.heap.size (Lib.byteCells bs) wx
  bel : Below w.heap.size w wx
  sz : w.heap.size + 1 ≤ wx.heap.size
theorem TxL.byte {w wx : World} {bs : List UInt8} (h : TxL w bs wx) (hl : bs.length ≤ 10000000000) (x : UInt8) (n : Int) (hn : n = (x.toNat : Int)) :
    Calls Tryz.prog 68 #[.pointer (some ⟨w.heap.size, 0, none⟩), .int .u8 n] wx fun e w' => e = .returned .nilIface ∧ TxL w (bs ++ [x]) w' := by
  subst hn
  have hs := h.sz
  refine Calls.mono (bld_byte _ _ _ _ wx h.ib (by rw [Lib.byteCells_length]; omega) (by omega)) ?_
  rintro e w' ⟨rfl, h1, h2, h3⟩
  exact ⟨rfl, by rw [Lib.byteCells_append]; exact h1, h.bel.trans h2, by have := h2.size; omega⟩
theorem TxL.str {w wx : World} {bs : List UInt8} (h : TxL w bs wx) (hl : bs.length ≤ 10000000000) (s : List UInt8) (hsl : s.length ≤ 1000) :
    Calls Tryz.prog 69 #[.pointer (some ⟨w.heap.size, 0, none⟩), .string ⟨s.toArray⟩] wx fun e w' => (∃ q, e = .returned (.tuple #[.int .i64 q, .nilIface])) ∧ TxL w (bs ++ s) w' := by
  have hs := h.sz
  have e1 : (ByteArray.mk s.toArray).size = s.length := rfl
  refine Calls.mono (bld_string _ _ _ ⟨s.toArray⟩ wx h.ib (by rw [Lib.byteCells_length, e1]; omega) (by omega)) ?_
  rintro e w' ⟨rfl, h1, h2, h3⟩
  exact ⟨⟨_, rfl⟩, by rw [Lib.byteCells_append]; exact h1, h.bel.trans h2, by have := h2.size; omega⟩
theorem TxL.itoa {w wx : World} {bs : List UInt8} (h : TxL w bs wx) (ht : Tb w) (n : Int) (h0 : -9223372036854775808 ≤ n) (h1 : n ≤ 9223372036854775807) :
    Calls Tryz.prog 70 #[.int .i64 n] wx fun e w' => e = .returned (.string ⟨(Lib.itoa n).toArray⟩) ∧ TxL w bs w' := by
  have hs := h.sz
  refine Calls.mono (itoa_any n h0 h1 wx (ht.below h.bel)) ?_
  rintro e w' ⟨rfl, h2⟩
  exact ⟨rfl, h.ib.below h2, h.bel.trans (h2.mono (by have := h.bel.size; omega)), by have := h2.size; omega⟩
set_option maxHeartbeats 2000000 in
set_option maxRecDepth 100000 in
theorem list_any (v : Value) (l : List Int) (w : World) (h : Ints w v l) (hl : l.length ≤ 1000) (hb : ∀ x ∈ l, 0 ≤ x ∧ x ≤ 1000) (ht : Tb w) :
    Calls Tryz.prog 45 #[v] w fun e w' => e = .returned (.string ⟨(fmR l l.length).toArray⟩) ∧ Below w.heap.size w w' := by
  have HX := Lib.hid (fun W (hb : Below w.heap.size w W) => h.below hb)
  have HBD := Lib.hid hb
  have HFL := Lib.hid (fun k hk => fmR_len hb k hk)
  have HT := Lib.hid ht
  obtain ⟨A, c, hv, -, -⟩ := h
  subst hv
  obtain ⟨n, hn⟩ : ∃ n, n = l.length := ⟨_, rfl⟩
  rw [← hn] at HX hl ⊢
  have HN := Lib.hid hn
  clear hn hb ht
  have hW : ∀ W, W = (w.alloc (.cells #[.pointer none, .slice none 0 0] 118)) → TxL w [] W := by
    intro W hW
    subst hW
    exact ⟨.inl ⟨Nat.le_refl _, _, Arr.new w 118 [.pointer none, .slice none 0 0], ⟨rfl, .inl ⟨rfl, rfl⟩⟩, by simp [Value.ownBlock]⟩, (Below.refl _ _).alloc (Nat.le_refl _) _, by simp⟩
  go_enter Tryz.func45, Tryz.ntmps45
  go_upto_region 2 with fail
  have HW := Lib.hid (hW _ rfl)
  generalize (w.alloc (.cells #[.pointer none, .slice none 0 0] 118)) = w1 at *
  clear hW
  go_upto_region 3 with fail
  go_loopg [4, 5, 8] n (fun gk s4 s5 s8 wr => ∃ k : Nat, k ≤ n ∧ gk = n - k ∧ s8 = .int .i64 (k : Int) ∧ TxL w (fmR l k) wr)
  case atStart => exact ⟨0, by omega, rfl, rfl, HW.out⟩
  case round =>
    clear HW
    obtain ⟨k, hk, rfl, rfl, hst⟩ := hrel
    obtain ⟨wo, rfl⟩ : ∃ wo : World, wo = wr := ⟨_, rfl⟩
    by_cases hkt : k < n
    · have z1 : (k : Int) < (n : Int) := by omega
      have hkl : k < l.length := by rw [← HN.out]; exact hkt
      obtain ⟨b, o, rfl, -, hcell⟩ := (HX.out wo hst.bel).at_ hkl
      have hx := HBD.out _ (List.getElem_mem hkl)
      have HE := Lib.hid (show fmR l (k + 1) = fmR l k ++ ((if 0 < k then [32] else []) ++ Lib.itoa l[k]) by rw [fmR, List.getElem?_eq_getElem hkl]; rfl)
      have hfl := HFL.out k (by omega)
      have hil := Lib.itoa_length_le l[k] (by omega) (by omega)
      generalize l[k] = x at *
      generalize fmR l k = bs at *
      by_cases h0 : 0 < k
      · have z2 : (0 : Int) < (k : Int) := by omega
        have HB1 := Lib.hid (hst.byte (by omega) 32 32 rfl)
        have hl2 : (bs ++ [(32 : UInt8)]).length = bs.length + 1 := List.length_append
        have HE2 := Lib.hid (show fmR l (k + 1) = (bs ++ [32]) ++ Lib.itoa x by rw [HE.out, if_pos h0, List.append_assoc])
        clear hst HE
        go_wp2_with fail
        refine HB1.out.mono ?_
        rintro e w4 ⟨rfl, h4⟩
        have HI := Lib.hid (h4.itoa HT.out x (by omega) (by omega))
        clear h4
        go_wp2_with fail
        refine HI.out.mono ?_
        rintro e w5 ⟨rfl, h5⟩
        have HS := Lib.hid (h5.str (by omega) (Lib.itoa x) (by omega))
        clear h5
        go_wp2_with fail
        refine HS.out.mono ?_
        rintro e w6 ⟨⟨q, rfl⟩, h6⟩
        have H6 := Lib.hid h6
        clear h6
        go_wp2_with fail
        go_roundg (n - (k + 1))
        case measure => omega
        case rel => exact ⟨k + 1, by omega, rfl, by go_num, by rw [HE2.out]; exact H6.out⟩
      · have z2 : ¬ (0 : Int) < (k : Int) := by omega
        have HE2 := Lib.hid (show fmR l (k + 1) = bs ++ Lib.itoa x by rw [HE.out, if_neg h0, List.nil_append])
        have HI := Lib.hid (hst.itoa HT.out x (by omega) (by omega))
        clear hst HE
        go_wp2_with fail
        refine HI.out.mono ?_
        rintro e w5 ⟨rfl, h5⟩
        have HS := Lib.hid (h5.str (by omega) (Lib.itoa x) (by omega))
        clear h5
        go_wp2_with fail
        refine HS.out.mono ?_
        rintro e w6 ⟨⟨q, rfl⟩, h6⟩
        have H6 := Lib.hid h6
        clear h6
        go_wp2_with fail
        go_roundg (n - (k + 1))
        case measure => omega
        case rel => exact ⟨k + 1, by omega, rfl, by go_num, by rw [HE2.out]; exact H6.out⟩
    · have z1 : ¬ (k : Int) < (n : Int) := by omega
      obtain rfl : k = n := by omega
      have hfl := HFL.out k (by rw [HN.out]; exact Nat.le_refl _)
      have HS := Lib.hid (Tryz.Builder_String_any w.heap.size w.heap.size (fmR l k) wo hst.ib (by have := hst.sz; omega))
      have HBL := Lib.hid hst.bel
      clear hst
      go_wp2_with fail
      refine HS.out.mono ?_
      rintro e w6 ⟨rfl, h6⟩
      have HB6 := Lib.hid (HBL.out.trans (h6.mono (by omega)))
      clear h6
      go_wp2_with fail
      go_ret
      exact ⟨rfl, HB6.out⟩
end Go.Proofs.YteliflcbegcdlaaGreatDoor
