/- Strands of a diagram: Opposite, the closures of Strands, cycle. -/
import Derived.Test.YtlbihllmpbhhcaaDoorZStr
import Derived.Test.YtlbihllmpbhhcaaDoorZVac
import Derived.Test.YtlbihllmpbhhcaaDoorZPsh
import Derived.Shelf.Abstract
namespace Go.Proofs.YtlbihllmpbhhcaaDoor
open Go.RowKit
set_option linter.unusedVariables false

set_option maxHeartbeats 400000 in
theorem turn2_code (h : Nat) (w : World) (hh : h < 1000) :
    Calls Tryd.prog 90 #[.int .i64 h, .int .i64 2] w fun e w' => e = .returned (.int .i64 (turnN h 2)) ∧ w = w' := by
  have u0 : ¬ ((h : Int) < 0) := by omega
  rcases (by omega : h % 4 = 0 ∨ h % 4 = 1 ∨ h % 4 = 2 ∨ h % 4 = 3) with q | q | q | q
  · have q1 : (h : Int) % 4 = 0 := by omega
    go_enter Tryd.func90, Tryd.ntmps90
    go_wp2_with fail
    go_ret
    exact ⟨congrArg (fun z => Ending.returned (Value.int .i64 z)) (by unfold turnN; go_num), rfl⟩
  · have q1 : (h : Int) % 4 = 1 := by omega
    go_enter Tryd.func90, Tryd.ntmps90
    go_wp2_with fail
    go_ret
    exact ⟨congrArg (fun z => Ending.returned (Value.int .i64 z)) (by unfold turnN; go_num), rfl⟩
  · have q1 : (h : Int) % 4 = 2 := by omega
    go_enter Tryd.func90, Tryd.ntmps90
    go_wp2_with fail
    go_ret
    exact ⟨congrArg (fun z => Ending.returned (Value.int .i64 z)) (by unfold turnN; go_num), rfl⟩
  · have q1 : (h : Int) % 4 = 3 := by omega
    go_enter Tryd.func90, Tryd.ntmps90
    go_wp2_with fail
    go_ret
    exact ⟨congrArg (fun z => Ending.returned (Value.int .i64 z)) (by unfold turnN; go_num), rfl⟩
theorem opp_code (h : Nat) (w : World) (hh : h < 1000) :
    Calls Tryd.prog 80 #[.int .i64 h] w fun e w' => e = .returned (.int .i64 (opp h : Nat)) ∧ w = w' := by
  have HT := Lib.hid (turn2_code h w hh)
  go_enter Tryd.func80, Tryd.ntmps80
  go_wp2_with fail
  refine HT.out.mono ?_
  rintro e w1 ⟨rfl, rfl⟩
  go_wp2_with fail
  go_ret
  exact ⟨rfl, rfl⟩
/-- what the closure that leads to the next half-edge does -/
structure NxC (F : FuncId) (Bd N : Nat) (φ : Nat → Nat) (base : Nat) (w0 : World) : Prop where
  eg : ∀ args W, (callFunc F args).run Tryd.prog W = .ok (.enter F args) W
  ca : ∀ (h : Nat) W, h < N → Below base w0 W → Calls Tryd.prog F #[.int .i64 (h : Int), .pointer (some ⟨Bd, 0, none⟩)] W fun e w' => e = .returned (.int .i64 (φ h : Nat)) ∧ W = w'
theorem NxC.below {F : FuncId} {Bd N base : Nat} {φ : Nat → Nat} {w0 w1 : World} (h : NxC F Bd N φ base w0) (hb : Below base w0 w1) : NxC F Bd N φ base w1 := ⟨h.eg, fun x W hx hW => h.ca x W hx (hb.trans hW)⟩
theorem NxC.up {F : FuncId} {Bd N base b2 : Nat} {φ : Nat → Nat} {w0 : World} (h : NxC F Bd N φ base w0) (hb : base ≤ b2) : NxC F Bd N φ b2 w0 := ⟨h.eg, fun x W hx hW => h.ca x W hx (hW.mono hb)⟩
theorem nxc_strands {S M : List Int} {L : Int} (k : Ok S M L) (vs vm : Value) (Bd : Nat) (w : World) (hd : Arr w Bd 61 [vs, vm, .int .i64 L]) (hM : Ints w vm M) :
    NxC 79 Bd M.length (nxt M) w.heap.size w where
  eg := enters_of Tryd.func79 (by kernel_rfl) rfl
  ca := fun h W hh hb => by
    have hl : M.length ≤ 256 := by have := k.n; have := k.m; omega
    have hmt : M[h]'hh = (mt M h : Nat) := by
      have := k.pos h hh
      unfold mt
      rw [List.getElem?_eq_getElem hh]
      show M[h] = ((M[h]).toNat : Int)
      omega
    have hlt := k.lt h hh
    obtain ⟨b, o, ⟨c', hv⟩, hbl, hcell⟩ := ints_atZ (hM.below hb) hh
    rw [hmt] at hcell
    subst hv
    have HO := Lib.hid (opp_code (mt M h) W (by omega))
    have y1 := (hd.below hb hd.lt).cell 1
    have z1 : (h : Int) < (M.length : Int) := by omega
    have HE := Lib.hid (show nxt M h = opp (mt M h) from rfl)
    clear hd hM hmt hb
    generalize nxt M h = R at *
    generalize mt M h = q at *
    clear hh
    generalize M.length = n at *
    go_enter Tryd.func79, Tryd.ntmps79
    go_wp2_with fail
    refine HO.out.mono ?_
    rintro e w1 ⟨rfl, rfl⟩
    go_wp2_with fail
    go_ret
    exact ⟨by rw [HE.out]; rfl, rfl⟩
theorem sto_any {S M : List Int} {L : Int} (k : Ok S M L) (vs vm : Value) (Bd h : Nat) (w : World) (hd : Arr w Bd 61 [vs, vm, .int .i64 L]) (hS : Ints w vs S) (hh : h < M.length) :
    Calls Tryd.prog 77 #[.int .i64 (h : Int), .pointer (some ⟨Bd, 0, none⟩)] w fun e w' => e = .returned (.bool (outB S h)) ∧ Below w.heap.size w w' := by
  have HO := Lib.hid (out_code vs vm L S h w hS (by have := k.m; omega) (by have := k.n; omega))
  have y0 := hd.cell 0
  have y1 := hd.cell 1
  have y2 := hd.cell 2
  clear hd hS hh
  go_enter Tryd.func77, Tryd.ntmps77
  go_wp2_with fail
  refine HO.out.mono ?_
  rintro e w1 ⟨rfl, hb⟩
  go_wp2_with fail
  go_ret
  exact ⟨rfl, hb⟩
/-- the first k members of a cycle -/
def cycK (φ : Nat → Nat) (s k : Nat) : List Int := (List.range k).map fun j => ((itr φ j s : Nat) : Int)
theorem cycK_succ (φ : Nat → Nat) (s k : Nat) : cycK φ s (k + 1) = cycK φ s k ++ [((itr φ k s : Nat) : Int)] := by
  unfold cycK; rw [List.range_succ, List.map_append]; rfl
theorem cycK_len (φ : Nat → Nat) (s k : Nat) : (cycK φ s k).length = k := by unfold cycK; simp
theorem OwnI.oneAt {w : World} {e : TypeId} {base g : Nat} {x : Int} (hb : base ≤ g) (hg : w.heap[g]? = some (.cells #[.int .i64 x] e (0, 0))) : OwnI e base w (.slice (some ⟨g, 0, none⟩) 1 1) [x] :=
  ⟨rfl, .inr ⟨g, 1, #[.int .i64 x], rfl, hb, hg, by simp, by unfold maxLen; omega, by simp, by simp⟩⟩
/-- the list is a cycle -/
def Cyl (φ : Nat → Nat) (s : Nat) (l : List Int) : Prop := ∀ y : Int, y ∈ l ↔ ∃ j : Nat, y = (itr φ j s : Nat)
theorem cyl_of {φ : Nat → Nat} {s k : Nat} (hk : 0 < k) (h : itr φ k s = s) : Cyl φ s (cycK φ s k) := by
  intro y
  constructor
  · intro hy
    unfold cycK at hy
    obtain ⟨j, _, rfl⟩ := List.mem_map.1 hy
    exact ⟨j, rfl⟩
  · rintro ⟨j, rfl⟩
    have hm : ∀ q r, itr φ (q * k + r) s = itr φ r s := by
      intro q
      induction q with
      | zero => intro r; rw [Nat.zero_mul, Nat.zero_add]
      | succ q ih =>
        intro r
        rw [Nat.succ_mul, show q * k + k + r = q * k + (r + k) by omega, ih, itr_add, h]
    unfold cycK
    rw [List.mem_map]
    refine ⟨j % k, List.mem_range.2 (Nat.mod_lt _ hk), ?_⟩
    have := hm (j / k) (j % k)
    rw [show j / k * k + j % k = j by rw [Nat.mul_comm]; exact Nat.div_add_mod j k] at this
    rw [this]
set_option maxHeartbeats 2000000 in
set_option maxRecDepth 100000 in
theorem cycle_any {F : FuncId} {Bd N : Nat} {φ : Nat → Nat} (start : Nat) (w : World) (hx : NxC F Bd N φ w.heap.size w) (hp : PermF N φ) (hs : start < N) (hN : N ≤ 1000) :
    Calls Tryd.prog 91 #[.int .i64 (start : Int), .func (.func F) #[] #[.pointer (some ⟨Bd, 0, none⟩)]] w fun e w' => ∃ A c l, e = .returned (.slice A l.length c) ∧ Cyl φ start l ∧ l.length ≤ N ∧ OwnI 3 w.heap.size w' (.slice A l.length c) l ∧ Below w.heap.size w w' := by
  obtain ⟨i0, hi, hz0, hz1, hz2⟩ := info_parts info_int
  have HX := Lib.hid hx
  have HP := Lib.hid hp
  have eg := hx.eg
  have HI := Lib.hid hi
  have HZ0 := Lib.hid hz0
  have HZ1 := Lib.hid hz1
  have HZ2 := Lib.hid hz2
  clear hx hp hi hz0 hz1 hz2
  have hW : ∀ W, W = (w.alloc (.cells #[.int .i64 (start : Int)] 3)) → OwnI 3 w.heap.size W (.slice (some ⟨w.heap.size, 0, none⟩) 1 1) (cycK φ start 1) ∧ Below w.heap.size w W := by
    rintro W rfl
    exact ⟨OwnI.oneAt (Nat.le_refl _) (heap_alloc_new w _), (Below.refl _ _).alloc (Nat.le_refl _) _⟩
  have HC := Lib.hid (fun W (hb : Below w.heap.size w W) => HX.out.ca start W hs hb)
  go_enter Tryd.func91, Tryd.ntmps91
  go_upto_region 2 with fail
  generalize (w.alloc (.cells #[.int .i64 (start : Int)] 3)) = w3 at hW ⊢
  obtain ⟨ho3, hb3⟩ := hW w3 rfl
  have HC3 := Lib.hid (HC.out w3 hb3)
  clear hW HC
  have HST := Lib.hid (show OwnI 3 w.heap.size w3 (.slice (some ⟨w.heap.size, 0, none⟩) 1 1) (cycK φ start 1) ∧ Below w.heap.size w w3 ∧ ∀ j, 0 < j → j < 1 → itr φ j start ≠ start from ⟨ho3, hb3, fun j h1 h2 => by omega⟩)
  clear ho3 hb3
  go_wp2_with fail
  refine HC3.out.mono ?_
  rintro e w4 ⟨rfl, rfl⟩
  clear HC3
  go_wp2_with fail
  go_loopg [5, 6] N (fun gk s5 s6 wr => ∃ k : Nat, 1 ≤ k ∧ k ≤ N ∧ gk = N + 1 - k ∧ s6 = .int .i64 ((itr φ k start : Nat) : Int) ∧ Hid (OwnI 3 w.heap.size wr s5 (cycK φ start k) ∧ Below w.heap.size w wr ∧ ∀ j, 0 < j → j < k → itr φ j start ≠ start))
  case atStart => exact ⟨1, Nat.le_refl _, by omega, by omega, rfl, HST⟩
  case round =>
    clear HST
    obtain ⟨k, hk1, hkN, rfl, rfl, HR⟩ := hrel
    obtain ⟨ho, hb, hj⟩ := HR.out
    clear HR
    have HKL := Lib.hid (cycK_len φ start k)
    have HLT := Lib.hid (HP.out.itr_lt hs k)
    by_cases he : itr φ k start = start
    · have z1 : (((itr φ k start : Nat) : Int) != (start : Int)) = false := by simp [he]
      have HCY := Lib.hid (cyl_of hk1 he)
      obtain ⟨A, c, rfl⟩ := ho.form
      have HO := Lib.hid ho
      have HB := Lib.hid hb
      clear ho hb hj he
      generalize itr φ k start = h at *
      go_wp2_with fail
      go_ret
      exact ⟨A, c, _, rfl, HCY.out, by rw [HKL.out]; exact hkN, HO.out, HB.out⟩
    · have z1 : (((itr φ k start : Nat) : Int) != (start : Int)) = true := by rw [bne_iff_ne]; omega
      have HJ := Lib.hid (show ∀ j, 0 < j → j < k + 1 → itr φ j start ≠ start from fun j h1 h2 => by
        rcases Nat.lt_or_ge j k with h3 | h3
        · exact hj j h1 h3
        · rw [show j = k by omega]; exact he)
      have HKN := Lib.hid (HP.out.apart hs HJ.out)
      have HSC := Lib.hid (cycK_succ φ start k)
      have HCN := Lib.hid (show ∀ W, Below w.heap.size w W → Calls Tryd.prog F #[.int .i64 ((itr φ k start : Nat) : Int), .pointer (some ⟨Bd, 0, none⟩)] W fun e w' => e = .returned (.int .i64 ((itr φ (k + 1) start : Nat) : Int)) ∧ W = w' from fun W hb => HX.out.ca (itr φ k start) W HLT.out hb)
      have HO := Lib.hid ho
      have HB := Lib.hid hb
      clear ho hb hj he
      generalize hh' : itr φ (k + 1) start = h' at *
      have HH := Lib.hid hh'
      clear hh'
      generalize itr φ k start = h at *
      generalize cycK φ start k = R at *
      obtain ⟨A, c, rfl⟩ := HO.out.form
      have hsz := HB.out.size
      have HN := Lib.hid hN
      go_wp2_with (at_builtin; refine wpList_appIx rfl _ _ 22 rfl Tryd.underlying22 HI.out HZ0.out HZ1.out HZ2.out rfl (HO.out.alloc _) (b := wr.heap.size) (y := (h : Int)) rfl (by simp [go_sem]) (by have := HKL.out; have := HN.out; omega) (by simp; omega) ?_; intro v' w1 hown1 hbel1 hkx1 hmv1; have HO1 := Lib.hid hown1; have HB1 := Lib.hid ((HB.out.alloc HB.out.size _).trans hbel1); clear hown1 hbel1 hkx1 hmv1; have HC1 := Lib.hid (HCN.out w1 HB1.out))
      refine HC1.out.mono ?_
      rintro e w5 ⟨rfl, rfl⟩
      go_wp2_with fail
      go_roundg (N + 1 - (k + 1))
      case measure => have := HKN.out; omega
      case rel => exact ⟨k + 1, by omega, HKN.out, rfl, by rw [HH.out], Lib.hid ⟨by rw [HSC.out]; exact HO1.out, HB1.out, HJ.out⟩⟩
end Go.Proofs.YtlbihllmpbhhcaaDoor
