/- grid.list, grid.Format, unknot.class: walks. -/
/- grid.Format, unknot.class: walks. -/
/- grid.Format at grids that are not valid. -/
import Derived.Test.YteliflcbegcdlaaGreatDoorWwBl2
import Derived.Test.YteliflcbegcdlaaGreatDoorWwRtr
import Derived.Deep.CutRange
import Derived.Test.YteliflcbegcdlaaGreatDoorWwGrf
import Derived.Test.YteliflcbegcdlaaGreatDoorWwUnq
namespace Go.Proofs.YteliflcbegcdlaaGreatDoor
open Go.RowKit
set_option linter.unusedVariables false
structure TxL (w : World) (bs : List UInt8) (wx : World) : Prop where
  ib : IsB w.heap.size w.heap.size (Lib.byteCells bs) wx
  bel : Below w.heap.size w wx
  sz : w.heap.size + 1 ≤ wx.heap.size
theorem TxL.byte {w wx : World} {bs : List UInt8} (h : TxL w bs wx) (hl : bs.length ≤ 10000000000) (x : UInt8) (n : Int) (hn : n = (x.toNat : Int)) :
    Calls Tryz.prog 68 #[.pointer (some ⟨w.heap.size, 0, none⟩), .int .u8 n] wx fun e w' => e = .returned .nilIface ∧ TxL w (bs ++ [x]) w' := by
  subst hn
  have hs := h.sz
  refine Calls.mono (bld_byte _ _ _ _ wx h.ib (by rw [Lib.byteCells_length]; omega) (by omega)) ?_
  rintro e w' ⟨rfl, h1, h2, h3⟩
  exact ⟨rfl, by rw [Lib.byteCells_append]; exact h1, h.bel.trans h2, by have := h2.size; omega⟩
theorem TxL.str {w wx : World} {bs : List UInt8} (h : TxL w bs wx) (hl : bs.length ≤ 10000000000) (s : List UInt8) (hsl : s.length ≤ 1000) :
    Calls Tryz.prog 69 #[.pointer (some ⟨w.heap.size, 0, none⟩), .string ⟨s.toArray⟩] wx fun e w' => (∃ q, e = .returned (.tuple #[.int .i64 q, .nilIface])) ∧ TxL w (bs ++ s) w' := by
  have hs := h.sz
  have e1 : (ByteArray.mk s.toArray).size = s.length := rfl
  refine Calls.mono (bld_string _ _ _ ⟨s.toArray⟩ wx h.ib (by rw [Lib.byteCells_length, e1]; omega) (by omega)) ?_
  rintro e w' ⟨rfl, h1, h2, h3⟩
  exact ⟨⟨_, rfl⟩, by rw [Lib.byteCells_append]; exact h1, h.bel.trans h2, by have := h2.size; omega⟩
theorem TxL.itoa {w wx : World} {bs : List UInt8} (h : TxL w bs wx) (ht : Tb w) (n : Int) (h0 : -9223372036854775808 ≤ n) (h1 : n ≤ 9223372036854775807) :
    Calls Tryz.prog 70 #[.int .i64 n] wx fun e w' => e = .returned (.string ⟨(Lib.itoa n).toArray⟩) ∧ TxL w bs w' := by
  have hs := h.sz
  refine Calls.mono (itoa_any n h0 h1 wx (ht.below h.bel)) ?_
  rintro e w' ⟨rfl, h2⟩
  exact ⟨rfl, h.ib.below h2, h.bel.trans (h2.mono (by have := h.bel.size; omega)), by have := h2.size; omega⟩
set_option maxHeartbeats 2000000 in
set_option maxRecDepth 100000 in
theorem list_any (v : Value) (l : List Int) (w : World) (h : Ints w v l) (hl : l.length ≤ 1000) (hb : ∀ x ∈ l, 0 ≤ x ∧ x ≤ 1000) (ht : Tb w) :
    Calls Tryz.prog 45 #[v] w fun e w' => e = .returned (.string ⟨(fmR l l.length).toArray⟩) ∧ Below w.heap.size w w' := by
  have HX := Lib.hid (fun W (hb : Below w.heap.size w W) => h.below hb)
  have HBD := Lib.hid hb
  have HFL := Lib.hid (fun k hk => fmR_len hb k hk)
  have HT := Lib.hid ht
  obtain ⟨A, c, hv, -, -⟩ := h
  subst hv
  obtain ⟨n, hn⟩ : ∃ n, n = l.length := ⟨_, rfl⟩
  rw [← hn] at HX hl ⊢
  have HN := Lib.hid hn
  clear hn hb ht
  have hW : ∀ W, W = (w.alloc (.cells #[.pointer none, .slice none 0 0] 118)) → TxL w [] W := by
    intro W hW
    subst hW
    exact ⟨.inl ⟨Nat.le_refl _, _, Arr.new w 118 [.pointer none, .slice none 0 0], ⟨rfl, .inl ⟨rfl, rfl⟩⟩, by simp [Value.ownBlock]⟩, (Below.refl _ _).alloc (Nat.le_refl _) _, by simp⟩
  go_enter Tryz.func45, Tryz.ntmps45
  go_upto_region 2 with fail
  have HW := Lib.hid (hW _ rfl)
  generalize (w.alloc (.cells #[.pointer none, .slice none 0 0] 118)) = w1 at *
  clear hW
  go_upto_region 3 with fail
  go_loopg [4, 5, 8] n (fun gk s4 s5 s8 wr => ∃ k : Nat, k ≤ n ∧ gk = n - k ∧ s8 = .int .i64 (k : Int) ∧ TxL w (fmR l k) wr)
  case atStart => exact ⟨0, by omega, rfl, rfl, HW.out⟩
  case round =>
    clear HW
    obtain ⟨k, hk, rfl, rfl, hst⟩ := hrel
    obtain ⟨wo, rfl⟩ : ∃ wo : World, wo = wr := ⟨_, rfl⟩
    by_cases hkt : k < n
    · have z1 : (k : Int) < (n : Int) := by omega
      have hkl : k < l.length := by rw [← HN.out]; exact hkt
      obtain ⟨b, o, rfl, -, hcell⟩ := (HX.out wo hst.bel).at_ hkl
      have hx := HBD.out _ (List.getElem_mem hkl)
      have HE := Lib.hid (show fmR l (k + 1) = fmR l k ++ ((if 0 < k then [32] else []) ++ Lib.itoa l[k]) by rw [fmR, List.getElem?_eq_getElem hkl]; rfl)
      have hfl := HFL.out k (by omega)
      have hil := Lib.itoa_length_le l[k] (by omega) (by omega)
      generalize l[k] = x at *
      generalize fmR l k = bs at *
      by_cases h0 : 0 < k
      · have z2 : (0 : Int) < (k : Int) := by omega
        have HB1 := Lib.hid (hst.byte (by omega) 32 32 rfl)
        have hl2 : (bs ++ [(32 : UInt8)]).length = bs.length + 1 := List.length_append
        have HE2 := Lib.hid (show fmR l (k + 1) = (bs ++ [32]) ++ Lib.itoa x by rw [HE.out, if_pos h0, List.append_assoc])
        clear hst HE
        go_wp2_with fail
        refine HB1.out.mono ?_
        rintro e w4 ⟨rfl, h4⟩
        have HI := Lib.hid (h4.itoa HT.out x (by omega) (by omega))
        clear h4
        go_wp2_with fail
        refine HI.out.mono ?_
        rintro e w5 ⟨rfl, h5⟩
        have HS := Lib.hid (h5.str (by omega) (Lib.itoa x) (by omega))
        clear h5
        go_wp2_with fail
        refine HS.out.mono ?_
        rintro e w6 ⟨⟨q, rfl⟩, h6⟩
        have H6 := Lib.hid h6
        clear h6
        go_wp2_with fail
        go_roundg (n - (k + 1))
        case measure => omega
        case rel => exact ⟨k + 1, by omega, rfl, by go_num, by rw [HE2.out]; exact H6.out⟩
      · have z2 : ¬ (0 : Int) < (k : Int) := by omega
        have HE2 := Lib.hid (show fmR l (k + 1) = bs ++ Lib.itoa x by rw [HE.out, if_neg h0, List.nil_append])
        have HI := Lib.hid (hst.itoa HT.out x (by omega) (by omega))
        clear hst HE
        go_wp2_with fail
        refine HI.out.mono ?_
        rintro e w5 ⟨rfl, h5⟩
        have HS := Lib.hid (h5.str (by omega) (Lib.itoa x) (by omega))
        clear h5
        go_wp2_with fail
        refine HS.out.mono ?_
        rintro e w6 ⟨⟨q, rfl⟩, h6⟩
        have H6 := Lib.hid h6
        clear h6
        go_wp2_with fail
        go_roundg (n - (k + 1))
        case measure => omega
        case rel => exact ⟨k + 1, by omega, rfl, by go_num, by rw [HE2.out]; exact H6.out⟩
    · have z1 : ¬ (k : Int) < (n : Int) := by omega
      obtain rfl : k = n := by omega
      have hfl := HFL.out k (by rw [HN.out]; exact Nat.le_refl _)
      have HS := Lib.hid (Tryz.Builder_String_any w.heap.size w.heap.size (fmR l k) wo hst.ib (by have := hst.sz; omega))
      have HBL := Lib.hid hst.bel
      clear hst
      go_wp2_with fail
      refine HS.out.mono ?_
      rintro e w6 ⟨rfl, h6⟩
      have HB6 := Lib.hid (HBL.out.trans (h6.mono (by omega)))
      clear h6
      go_wp2_with fail
      go_ret
      exact ⟨rfl, HB6.out⟩
end Go.Proofs.YteliflcbegcdlaaGreatDoor

namespace Go.Proofs.YteliflcbegcdlaaGreatDoor
open Go.RowKit
set_option linter.unusedVariables false
theorem cat_g (x y : List UInt8) : (⟨x.toArray⟩ ++ ⟨y.toArray⟩ : ByteArray) = ⟨(x ++ y).toArray⟩ := ByteArray.mk_append_mk x y
set_option maxHeartbeats 4000000 in
set_option maxRecDepth 100000 in
theorem format_any (vx vo : Value) (X O : List Int) (w : World) (hX : Ints w vx X) (hO : Ints w vo O) (hv : Vd X O) (ht : Tb w) :
    Calls Tryz.prog 29 #[.agg #[vx, vo]] w fun e w' => e = .returned (.tuple #[.string ⟨(fmG (X, O)).toArray⟩, .int .i64 0]) ∧ Below w.heap.size w w' := by
  have h40 := hv.most
  have hle := hv.len
  have bX : ∀ x ∈ X, 0 ≤ x ∧ x ≤ 1000 := fun x hx => by have := hv.pX.1 x hx; omega
  have bO : ∀ x ∈ O, 0 ≤ x ∧ x ≤ 1000 := fun x hx => by have := hv.pO.1 x hx; omega
  have HLX := Lib.hid (fun W (hb : Below w.heap.size w W) => list_any vx X W (hX.below hb) (by omega) bX (ht.below hb))
  have HLO := Lib.hid (fun W (hb : Below w.heap.size w W) => list_any vo O W (hO.below hb) (by omega) bO (ht.below hb))
  have HVD := Lib.hid (fun W (hb : Below w.heap.size w W) => valid_any vx vo X O W (hX.below hb) (hO.below hb) (by omega) (by omega))
  rw [(validB_iff X O).2 hv] at HVD
  have lX := fmR_len bX X.length (Nat.le_refl _)
  have lO := fmR_len bO O.length (Nat.le_refl _)
  obtain ⟨A, c, rfl, -, -⟩ := hX
  obtain ⟨A', c', rfl, -, -⟩ := hO
  obtain ⟨tx, htx⟩ : ∃ t, t = fmR X X.length := ⟨_, rfl⟩
  obtain ⟨ty, hty⟩ : ∃ t, t = fmR O O.length := ⟨_, rfl⟩
  have HG := Lib.hid (show fmG (X, O) = tx ++ ([32, 47, 32] ++ ty) by unfold fmG; rw [htx, hty])
  rw [← htx] at HLX lX
  rw [← hty] at HLO lO
  have ltx : tx.length ≤ 2000 := by omega
  have lty : ty.length ≤ 2000 := by omega
  obtain ⟨n, hn⟩ : ∃ n, n = X.length := ⟨_, rfl⟩
  obtain ⟨m, hm⟩ : ∃ m, m = O.length := ⟨_, rfl⟩
  rw [← hn] at HLX HVD ⊢
  rw [← hm] at HLO HVD ⊢
  have hal := (Below.refl w.heap.size w).alloc (Nat.le_refl _) (.cells #[.slice A n c, .slice A' m c'] 24)
  have HB := Lib.hid hal
  have HQ := Lib.hid (show Arr (w.alloc (.cells #[.slice A n c, .slice A' m c'] 24)) w.heap.size 24 [.slice A n c, .slice A' m c'] from Arr.new w _ [_, _])
  clear hal htx hty hn hm bX bO ht hv h40 hle lX lO
  go_enter Tryz.func29, Tryz.ntmps29
  go_upto_region 1 with fail
  obtain ⟨w3, hw3⟩ : ∃ W', W' = w.alloc (.cells #[.slice A n c, .slice A' m c'] 24) := ⟨_, rfl⟩
  rw [← hw3] at HB HQ ⊢
  obtain ⟨gB, hgB⟩ : ∃ g, g = w.heap.size := ⟨_, rfl⟩
  rw [← hgB] at HQ ⊢
  clear hw3 hgB
  have y0 := HQ.out.cell 0
  have y1 := HQ.out.cell 1
  have HVE := Lib.hid (HVD.out w3 HB.out)
  go_upto_region 3 with (go_at_call 28; refine HVE.out.mono ?_; rintro e w4 ⟨rfl, hb4⟩)
  have HQ4 := Lib.hid (HQ.out.below hb4 HQ.out.lt)
  have HB4 := Lib.hid (HB.out.trans (hb4.mono HB.out.size))
  clear y0 y1 hb4 HVE HVD
  obtain ⟨t1, ht1⟩ : ∃ t, t = tx ++ [32, 47, 32] := ⟨_, rfl⟩
  obtain ⟨t2, ht2⟩ : ∃ t, t = t1 ++ ty := ⟨_, rfl⟩
  have C1 := Lib.hid (show (⟨tx.toArray⟩ ++ ⟨#[32, 47, 32]⟩ : ByteArray) = ⟨t1.toArray⟩ by rw [ht1]; exact cat_g tx [32, 47, 32])
  have C2 := Lib.hid (show (⟨t1.toArray⟩ ++ ⟨ty.toArray⟩ : ByteArray) = ⟨t2.toArray⟩ by rw [ht2]; exact cat_g t1 ty)
  have L1 := Lib.hid (show ¬ 9223372036854775807 < tx.length + 3 by omega)
  have L2 := Lib.hid (show ¬ 9223372036854775807 < t1.length + ty.length by rw [ht1, List.length_append]; simp; omega)
  have HG2 := Lib.hid (show fmG (X, O) = t2 by rw [HG.out, ht2, ht1, List.append_assoc])
  clear ht1 ht2 HG
  refine wp_region_phy (fun a b => Below a.heap.size a b) (fun h k => h.trans (k.mono h.size)) ((Below.refl _ _).drew) (by kernel_rfl) (by kernel_rfl) (by kernel_rfl) (by kernel_rfl) (phiT (fun i => ([some (.pointer (some ⟨gB, 0, none⟩)), some (.slice A n c), some (.string ⟨tx.toArray⟩), some (.string ⟨t1.toArray⟩), some (.pointer (some ⟨gB, 1, none⟩)), some ((.slice A' m c')), some (.string ⟨ty.toArray⟩), some (.string ⟨t2.toArray⟩), some (.string ⟨t2.toArray⟩), some (.int .i64 0)] : List (Option Value)).getD i none) (fun i v w => True)) (fun i v w w' h hb => ?_) ⟨?_, ?_, ?_, ?_, ?_, ?_, ?_, ?_, ?_, ?_, trivial⟩ ?_
  · unfold phiT at h ⊢
    split
    · next u hu => rw [hu] at h; exact h
    · next hu =>
      rw [hu] at h
      exact True.intro
  · intro x w1 bA hT hdep hold hb
    refine .inl ⟨trivial, ?_⟩
    have e1 : bA.tmps[1]?.getD undef = .pointer (some ⟨gB, 0, none⟩) := hb 1
    refine phx_run (.pointer (some ⟨gB, 0, none⟩)) ?_ (Below.refl _ _) rfl
    clear hb hdep hold
    go_simp
  · intro x w1 bA hT hdep hold hb
    refine .inl ⟨trivial, ?_⟩
    have e7 : bA.tmps[7]?.getD undef = .pointer (some ⟨gB, 0, none⟩) := (hb 7).trans (hdep 0 (by decide))
    have cc := HQ4.out.below hT HQ4.out.lt
    have cc0 := cc.cell 0
    have cc1 := cc.cell 1
    clear cc
    refine phx_run (.slice A n c) ?_ (Below.refl _ _) rfl
    clear hb hdep hold
    go_simp
  · intro x w1 bA hT hdep hold hb
    refine .inl ⟨trivial, ?_⟩
    have e8 : bA.tmps[8]?.getD undef = .slice A n c := (hb 8).trans (hdep 1 (by decide))
    refine phx_call ?_ ((HLX.out w1 (HB4.out.trans (hT.mono HB4.out.size))).mono fun e w' h => ⟨_, h.1, h.2, rfl⟩)
    clear hb hdep hold
    go_simp
  · intro x w1 bA hT hdep hold hb
    refine .inl ⟨trivial, ?_⟩
    have e9 : bA.tmps[9]?.getD undef = .string ⟨tx.toArray⟩ := (hb 9).trans (hdep 2 (by decide))
    have lz := L1.out
    have hc := C1.out
    refine phx_run (.string ⟨t1.toArray⟩) ?_ (Below.refl _ _) rfl
    clear hb hdep hold
    go_simp
  · intro x w1 bA hT hdep hold hb
    refine .inl ⟨trivial, ?_⟩
    have e1 : bA.tmps[1]?.getD undef = .pointer (some ⟨gB, 0, none⟩) := hb 1
    refine phx_run (.pointer (some ⟨gB, 1, none⟩)) ?_ (Below.refl _ _) rfl
    clear hb hdep hold
    go_simp
  · intro x w1 bA hT hdep hold hb
    refine .inl ⟨trivial, ?_⟩
    have e11 : bA.tmps[11]?.getD undef = .pointer (some ⟨gB, 1, none⟩) := (hb 11).trans (hdep 4 (by decide))
    have cc := HQ4.out.below hT HQ4.out.lt
    have cc0 := cc.cell 0
    have cc1 := cc.cell 1
    clear cc
    refine phx_run ((.slice A' m c')) ?_ (Below.refl _ _) rfl
    clear hb hdep hold
    go_simp
  · intro x w1 bA hT hdep hold hb
    refine .inl ⟨trivial, ?_⟩
    have e12 : bA.tmps[12]?.getD undef = (.slice A' m c') := (hb 12).trans (hdep 5 (by decide))
    refine phx_call ?_ ((HLO.out w1 (HB4.out.trans (hT.mono HB4.out.size))).mono fun e w' h => ⟨_, h.1, h.2, rfl⟩)
    clear hb hdep hold
    go_simp
  · intro x w1 bA hT hdep hold hb
    refine .inl ⟨trivial, ?_⟩
    have e10 : bA.tmps[10]?.getD undef = .string ⟨t1.toArray⟩ := (hb 10).trans (hdep 3 (by decide))
    have e13 : bA.tmps[13]?.getD undef = .string ⟨ty.toArray⟩ := (hb 13).trans (hdep 6 (by decide))
    have lz := L2.out
    have hc := C2.out
    refine phx_run (.string ⟨t2.toArray⟩) ?_ (Below.refl _ _) rfl
    clear hb hdep hold
    go_simp
  · intro x w1 bA hT hdep hold hb
    refine .inl ⟨trivial, ?_⟩
    have e14 : bA.tmps[14]?.getD undef = .string ⟨t2.toArray⟩ := (hb 14).trans (hdep 7 (by decide))
    refine phx_run (.string ⟨t2.toArray⟩) ?_ (Below.refl _ _) rfl
    clear hb hdep hold
    go_simp
  · intro x w1 bA hT hdep hold hb
    refine .inl ⟨trivial, ?_⟩
    refine phx_run (.int .i64 0) ?_ (Below.refl _ _) rfl
    clear hb hdep hold
    go_simp
  intro x w1 hT hall
  have x0e : x 0 = .pointer (some ⟨gB, 0, none⟩) := hall 0 (by decide)
  have x1e : x 1 = .slice A n c := hall 1 (by decide)
  have x2e : x 2 = .string ⟨tx.toArray⟩ := hall 2 (by decide)
  have x3e : x 3 = .string ⟨t1.toArray⟩ := hall 3 (by decide)
  have x4e : x 4 = .pointer (some ⟨gB, 1, none⟩) := hall 4 (by decide)
  have x5e : x 5 = (.slice A' m c') := hall 5 (by decide)
  have x6e : x 6 = .string ⟨ty.toArray⟩ := hall 6 (by decide)
  have x7e : x 7 = .string ⟨t2.toArray⟩ := hall 7 (by decide)
  have x8e : x 8 = .string ⟨t2.toArray⟩ := hall 8 (by decide)
  have x9e : x 9 = .int .i64 0 := hall 9 (by decide)
  simp only [putAll, dstOf, Act.put, List.map_cons, List.map_nil, List.setIfInBounds_toArray, List.set_cons_succ, List.set_cons_zero, Nat.reduceAdd, x0e, x1e, x2e, x3e, x4e, x5e, x6e, x7e, x8e, x9e]
  clear x0e x1e x2e x3e x4e x5e x6e x7e x8e x9e hall
  have HB5 := Lib.hid (HB4.out.trans (hT.mono HB4.out.size))
  clear hT
  go_wp2_with fail
  go_ret2
  exact ⟨by rw [HG2.out]; rfl, HB5.out⟩
/-- a grid in memory -/
def GdI (w : World) (v : Value) (g : Gd) : Prop := ∃ A n c B m d, v = .agg #[.slice A n c, .slice B m d] ∧ Ints w (.slice A n c) g.1 ∧ Ints w (.slice B m d) g.2
theorem GdI.below {w w' : World} {v : Value} {g : Gd} (h : GdI w v g) (hb : Below w.heap.size w w') : GdI w' v g := by
  obtain ⟨A, n, c, B, m, d, e, h1, h2⟩ := h
  exact ⟨A, n, c, B, m, d, e, h1.below hb, h2.below hb⟩
/-- a write to a block without integers -/
theorem Ints.away {w : World} {v : Value} {xs : List Int} {g i : Nat} {t : TypeId} {cs : List Value} (h : Ints w v xs) (hg : Arr w g t cs) (hn : ∀ (j : Nat) (x : Int), cs[j]? ≠ some (Value.int .i64 x)) (u : Value) : Ints (w.setCell ⟨g, i, none⟩ u) v xs := by
  obtain ⟨A, c, e, hc, hx⟩ := h
  refine ⟨A, c, e, hc, fun k x hk => ?_⟩
  obtain ⟨b, o, hA, hcell⟩ := hx k x hk
  refine ⟨b, o, hA, ?_⟩
  have hne : b ≠ g := fun eb => by
    subst eb
    have := hg.cell (o + k)
    rw [hcell] at this
    exact hn _ _ this.symm
  exact (World.cell?_of_block (Below.heap_setCell w ⟨g, i, none⟩ u b hne)).trans hcell
set_option maxHeartbeats 4000000 in
set_option maxRecDepth 100000 in
theorem class_any (v : Value) (g : Gd) (w : World) (h : GdI w v g) (hv : Vd g.1 g.2) (ht : Tb w) :
    Calls Tryz.prog 30 #[v] w fun e w' => ∃ u, e = .returned (.tuple #[u, .string ⟨(fmG (lstM g)).toArray⟩]) ∧ GdI w' u (lstM g) ∧ Below w.heap.size w w' := by
  obtain ⟨X, O⟩ := g
  obtain ⟨A, n, c, B, m, d, rfl, hX, hO⟩ := h
  have HLC := Lib.hid (fun W (hb : Below w.heap.size w W) => least_any (.slice A n c) (.slice B m d) X O W (hX.below hb) (hO.below hb) hv)
  have HT := Lib.hid (fun W (hb : Below w.heap.size w W) => ht.below hb)
  have HVD := Lib.hid (lstM_vd hv)
  have HLM := Lib.hid (fun p (h : IsL X O X.length p) => lstM_of (Nat.lt_of_lt_of_le (by decide) hv.two) h)
  have hal := ((Below.refl w.heap.size w).alloc (Nat.le_refl _) (.cells #[.slice A n c, .slice B m d] 24)).alloc (by simp) (.cells #[.slice none 0 0, .slice none 0 0] 24)
  have HB := Lib.hid hal
  have HQ := Lib.hid (show Arr ((w.alloc (.cells #[.slice A n c, .slice B m d] 24)).alloc (.cells #[.slice none 0 0, .slice none 0 0] 24)) w.heap.size 24 [.slice A n c, .slice B m d] from (Arr.new w _ [_, _]).alloc _)
  have HR := Lib.hid (show Arr ((w.alloc (.cells #[.slice A n c, .slice B m d] 24)).alloc (.cells #[.slice none 0 0, .slice none 0 0] 24)) (w.heap.size + 1) 24 [.slice none 0 0, .slice none 0 0] from Arr.newAt (w.alloc _) _ [_, _] _ (by simp))
  clear hX hO hv ht hal
  go_enter Tryz.func30, Tryz.ntmps30
  go_upto_region 1 with fail
  obtain ⟨w3, hw3⟩ : ∃ W', W' = (w.alloc (.cells #[.slice A n c, .slice B m d] 24)).alloc (.cells #[.slice none 0 0, .slice none 0 0] 24) := ⟨_, rfl⟩
  rw [← hw3] at HB HQ HR ⊢
  clear hw3
  have y0 := HQ.out.cell 0
  have y1 := HQ.out.cell 1
  have HLD := Lib.hid (HLC.out w3 HB.out)
  go_wp2_with fail
  refine HLD.out.mono ?_
  rintro e w4 ⟨p, A0, c0, A1, c1, rfl, hrd, hil, hb4⟩
  obtain ⟨r1, r2⟩ := hrd
  have hpe := HLM.out p hil
  subst hpe
  have HR4 := Lib.hid (HR.out.below hb4 HR.out.lt)
  have HB4 := Lib.hid (HB.out.trans (hb4.mono HB.out.size))
  have hal := (Below.refl w4.heap.size w4).alloc (Nat.le_refl _) (.cells #[.slice A0 X.length c0, .slice A1 X.length c1] 24)
  have HQ5 := Lib.hid (show Arr (w4.alloc (.cells #[.slice A0 X.length c0, .slice A1 X.length c1] 24)) w4.heap.size 24 [.slice A0 X.length c0, .slice A1 X.length c1] from Arr.new w4 _ [_, _])
  have HR5 := Lib.hid (HR4.out.below hal HR4.out.lt)
  have HB5 := Lib.hid (HB4.out.trans (hal.mono HB4.out.size))
  have HX5 := Lib.hid (r1.below hal)
  have HO5 := Lib.hid (r2.below hal)
  clear r1 r2 hil hb4 hal y0 y1 HLD HLC HLM
  go_upto_region 2 with fail
  obtain ⟨w5, hw5⟩ : ∃ W', W' = w4.alloc (.cells #[.slice A0 X.length c0, .slice A1 X.length c1] 24) := ⟨_, rfl⟩
  rw [← hw5] at HQ5 HR5 HB5 HX5 HO5 ⊢
  obtain ⟨gL, hgL⟩ : ∃ g, g = w4.heap.size := ⟨_, rfl⟩
  rw [← hgL] at HQ5 ⊢
  clear hw5 hgL
  have y0 := HQ5.out.cell 0
  have y1 := HQ5.out.cell 1
  have HFD := Lib.hid (format_any (.slice A0 X.length c0) (.slice A1 X.length c1) (lstM (X, O)).1 (lstM (X, O)).2 w5 HX5.out HO5.out HVD.out (HT.out w5 HB5.out))
  go_wp2_with fail
  refine HFD.out.mono ?_
  rintro e w6 ⟨rfl, hb6⟩
  have qL := HQ5.out.below hb6 HQ5.out.lt
  have qR := HR5.out.below hb6 HR5.out.lt
  have HX6 := Lib.hid (HX5.out.below hb6)
  have HO6 := Lib.hid (HO5.out.below hb6)
  have HB6 := Lib.hid (HB5.out.trans (hb6.mono HB5.out.size))
  clear y0 y1 HFD hb6
  have y0 := qL.cell 0
  have y1 := qL.cell 1
  have z0 := qR.cell 0
  have z1 := qR.cell 1
  have f0 := qR.frozen 0
  have f1 := qR.frozen 1
  have HRZ := Lib.hid ((qR.set 0 (.slice A0 X.length c0)).set 1 (.slice A1 X.length c1))
  have HXZ := Lib.hid qR
  clear qL qR
  go_wp2_with fail
  refine bodyPost_ret (v := .tuple #[.agg #[.slice A0 X.length c0, .slice A1 X.length c1], .string ⟨(fmG (lstM (X, O))).toArray⟩]) (results_ct Tryz.results30 _ _ (w.heap.size + 1) 24 _ _ rfl HRZ.out Tryz.underlying24 rfl info_grid) rfl ?_
  refine ⟨_, rfl, ⟨A0, X.length, c0, A1, X.length, c1, rfl, ?_, ?_⟩, bset2 HB6.out (by omega)⟩
  · exact (HX6.out.away HXZ.out (fun j x => by rcases j with _ | _ | j <;> simp) _).away (HXZ.out.set 0 _) (fun j x => by rcases j with _ | _ | j <;> simp) _
  · exact (HO6.out.away HXZ.out (fun j x => by rcases j with _ | _ | j <;> simp) _).away (HXZ.out.set 0 _) (fun j x => by rcases j with _ | _ | j <;> simp) _
end Go.Proofs.YteliflcbegcdlaaGreatDoor

namespace Go.Proofs.YteliflcbegcdlaaGreatDoor
open Go.RowKit
set_option linter.unusedVariables false
end Go.Proofs.YteliflcbegcdlaaGreatDoor
