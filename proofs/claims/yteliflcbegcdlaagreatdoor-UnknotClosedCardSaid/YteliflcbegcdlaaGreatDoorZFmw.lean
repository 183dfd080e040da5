/- grid.list, grid.Format, unknot.class: walks. -/
/- A region that draws its order, by facts: one obligation for each operation, whatever the order. -/
/- A region that draws its order, whose operations leave what was there as it is (they may make memory and call): each operation is walked once; of each result a fact that later growth keeps. -/
/- XPhi for a region with guards ('&&', '||') that are all met: each operation is walked once; of a guarded one it is shown that its guard holds. -/
/- A region that draws its order, whose operations read or call quietly, but for a store at its end: each operation is walked once, by a table of values. -/
/- A region that draws its order: each operation is walked once; a relation T between worlds tells what the operations keep; guards are met or not; with or without a store at its end. -/
/- Translations keep grids valid (plain). -/
/- The end of a region that draws its order, where one slot alone is read afterwards. -/
/- grid.Format, unknot.class: walks. -/
import Derived.Test.YteliflcbegcdlaaGreatDoorZBl2
import Derived.Test.YteliflcbegcdlaaGreatDoorZLst
import Derived.Deep.CutRange
import Derived.Test.YteliflcbegcdlaaGreatDoorZBase
import Derived.Orders
import Derived.Test.YteliflcbegcdlaaGreatDoorZReloc
import Derived.Deep.Draws
import Derived.Test.YteliflcbegcdlaaGreatDoorZUnp
namespace Go.Proofs.YteliflcbegcdlaaGreatDoor
open Go.RowKit
set_option linter.unusedVariables false
structure TxL (w : World) (bs : List UInt8) (wx : World) : Prop where
  ib : IsB w.heap.size w.heap.size (Lib.byteCells bs) wx
  bel : Below w.heap.size w wx
  sz : w.heap.size + 1 ≤ wx.heap.size
theorem TxL.byte {w wx : World} {bs : List UInt8} (h : TxL w bs wx) (hl : bs.length ≤ 10000000000) (x : UInt8) (n : Int) (hn : n = (x.toNat : Int)) :
    Calls Tryz.prog 68 #[.pointer (some ⟨w.heap.size, 0, none⟩), .int .u8 n] wx fun e w' => e = .returned .nilIface ∧ TxL w (bs ++ [x]) w' := by
  subst hn
  have hs := h.sz
  refine Calls.mono (bld_byte _ _ _ _ wx h.ib (by rw [Lib.byteCells_length]; omega) (by omega)) ?_
  rintro e w' ⟨rfl, h1, h2, h3⟩
  exact ⟨rfl, by rw [Lib.byteCells_append]; exact h1, h.bel.trans h2, by have := h2.size; omega⟩
theorem TxL.str {w wx : World} {bs : List UInt8} (h : TxL w bs wx) (hl : bs.length ≤ 10000000000) (s : List UInt8) (hsl : s.length ≤ 1000) :
    Calls Tryz.prog 69 #[.pointer (some ⟨w.heap.size, 0, none⟩), .string ⟨s.toArray⟩] wx fun e w' => (∃ q, e = .returned (.tuple #[.int .i64 q, .nilIface])) ∧ TxL w (bs ++ s) w' := by
  have hs := h.sz
  have e1 : (ByteArray.mk s.toArray).size = s.length := rfl
  refine Calls.mono (bld_string _ _ _ ⟨s.toArray⟩ wx h.ib (by rw [Lib.byteCells_length, e1]; omega) (by omega)) ?_
  rintro e w' ⟨rfl, h1, h2, h3⟩
  exact ⟨⟨_, rfl⟩, by rw [Lib.byteCells_append]; exact h1, h.bel.trans h2, by have := h2.size; omega⟩
theorem TxL.itoa {w wx : World} {bs : List UInt8} (h : TxL w bs wx) (ht : Tb w) (n : Int) (h0 : -9223372036854775808 ≤ n) (h1 : n ≤ 9223372036854775807) :
    Calls Tryz.prog 70 #[.int .i64 n] wx fun e w' => e = .returned (.string ⟨(Lib.itoa n).toArray⟩) ∧ TxL w bs w' := by
  have hs := h.sz
  refine Calls.mono (itoa_any n h0 h1 wx (ht.below h.bel)) ?_
  rintro e w' ⟨rfl, h2⟩
  exact ⟨rfl, h.ib.below h2, h.bel.trans (h2.mono (by have := h.bel.size; omega)), by have := h2.size; omega⟩
set_option maxHeartbeats 2000000 in
set_option maxRecDepth 100000 in
theorem list_any (v : Value) (l : List Int) (w : World) (h : Ints w v l) (hl : l.length ≤ 1000) (hb : ∀ x ∈ l, 0 ≤ x ∧ x ≤ 1000) (ht : Tb w) :
    Calls Tryz.prog 45 #[v] w fun e w' => e = .returned (.string ⟨(fmR l l.length).toArray⟩) ∧ Below w.heap.size w w' := by
  have HX := Lib.hid (fun W (hb : Below w.heap.size w W) => h.below hb)
  have HBD := Lib.hid hb
  have HFL := Lib.hid (fun k hk => fmR_len hb k hk)
  have HT := Lib.hid ht
  obtain ⟨A, c, hv, -, -⟩ := h
  subst hv
  obtain ⟨n, hn⟩ : ∃ n, n = l.length := ⟨_, rfl⟩
  rw [← hn] at HX hl ⊢
  have HN := Lib.hid hn
  clear hn hb ht
  have hW : ∀ W, W = (w.alloc (.cells #[.pointer none, .slice none 0 0] 118)) → TxL w [] W := by
    intro W hW
    subst hW
    exact ⟨.inl ⟨Nat.le_refl _, _, Arr.new w 118 [.pointer none, .slice none 0 0], ⟨rfl, .inl ⟨rfl, rfl⟩⟩, by simp [Value.ownBlock]⟩, (Below.refl _ _).alloc (Nat.le_refl _) _, by simp⟩
  go_enter Tryz.func45, Tryz.ntmps45
  go_upto_region 2 with fail
  have HW := Lib.hid (hW _ rfl)
  generalize (w.alloc (.cells #[.pointer none, .slice none 0 0] 118)) = w1 at *
  clear hW
  go_upto_region 3 with fail
  go_loopg [4, 5, 8] n (fun gk s4 s5 s8 wr => ∃ k : Nat, k ≤ n ∧ gk = n - k ∧ s8 = .int .i64 (k : Int) ∧ TxL w (fmR l k) wr)
  case atStart => exact ⟨0, by omega, rfl, rfl, HW.out⟩
  case round =>
    clear HW
    obtain ⟨k, hk, rfl, rfl, hst⟩ := hrel
    obtain ⟨wo, rfl⟩ : ∃ wo : World, wo = wr := ⟨_, rfl⟩
    by_cases hkt : k < n
    · have z1 : (k : Int) < (n : Int) := by omega
      have hkl : k < l.length := by rw [← HN.out]; exact hkt
      obtain ⟨b, o, rfl, -, hcell⟩ := (HX.out wo hst.bel).at_ hkl
      have hx := HBD.out _ (List.getElem_mem hkl)
      have HE := Lib.hid (show fmR l (k + 1) = fmR l k ++ ((if 0 < k then [32] else []) ++ Lib.itoa l[k]) by rw [fmR, List.getElem?_eq_getElem hkl]; rfl)
      have hfl := HFL.out k (by omega)
      have hil := Lib.itoa_length_le l[k] (by omega) (by omega)
      generalize l[k] = x at *
      generalize fmR l k = bs at *
      by_cases h0 : 0 < k
      · have z2 : (0 : Int) < (k : Int) := by omega
        have HB1 := Lib.hid (hst.byte (by omega) 32 32 rfl)
        have hl2 : (bs ++ [(32 : UInt8)]).length = bs.length + 1 := List.length_append
        have HE2 := Lib.hid (show fmR l (k + 1) = (bs ++ [32]) ++ Lib.itoa x by rw [HE.out, if_pos h0, List.append_assoc])
        clear hst HE
        go_wp2_with fail
        refine HB1.out.mono ?_
        rintro e w4 ⟨rfl, h4⟩
        have HI := Lib.hid (h4.itoa HT.out x (by omega) (by omega))
        clear h4
        go_wp2_with fail
        refine HI.out.mono ?_
        rintro e w5 ⟨rfl, h5⟩
        have HS := Lib.hid (h5.str (by omega) (Lib.itoa x) (by omega))
        clear h5
        go_wp2_with fail
        refine HS.out.mono ?_
        rintro e w6 ⟨⟨q, rfl⟩, h6⟩
        have H6 := Lib.hid h6
        clear h6
        go_wp2_with fail
        go_roundg (n - (k + 1))
        case measure => omega
        case rel => exact ⟨k + 1, by omega, rfl, by go_num, by rw [HE2.out]; exact H6.out⟩
      · have z2 : ¬ (0 : Int) < (k : Int) := by omega
        have HE2 := Lib.hid (show fmR l (k + 1) = bs ++ Lib.itoa x by rw [HE.out, if_neg h0, List.nil_append])
        have HI := Lib.hid (hst.itoa HT.out x (by omega) (by omega))
        clear hst HE
        go_wp2_with fail
        refine HI.out.mono ?_
        rintro e w5 ⟨rfl, h5⟩
        have HS := Lib.hid (h5.str (by omega) (Lib.itoa x) (by omega))
        clear h5
        go_wp2_with fail
        refine HS.out.mono ?_
        rintro e w6 ⟨⟨q, rfl⟩, h6⟩
        have H6 := Lib.hid h6
        clear h6
        go_wp2_with fail
        go_roundg (n - (k + 1))
        case measure => omega
        case rel => exact ⟨k + 1, by omega, rfl, by go_num, by rw [HE2.out]; exact H6.out⟩
    · have z1 : ¬ (k : Int) < (n : Int) := by omega
      obtain rfl : k = n := by omega
      have hfl := HFL.out k (by rw [HN.out]; exact Nat.le_refl _)
      have HS := Lib.hid (Tryz.Builder_String_any w.heap.size w.heap.size (fmR l k) wo hst.ib (by have := hst.sz; omega))
      have HBL := Lib.hid hst.bel
      clear hst
      go_wp2_with fail
      refine HS.out.mono ?_
      rintro e w6 ⟨rfl, h6⟩
      have HB6 := Lib.hid (HBL.out.trans (h6.mono (by omega)))
      clear h6
      go_wp2_with fail
      go_ret
      exact ⟨rfl, HB6.out⟩
end Go.Proofs.YteliflcbegcdlaaGreatDoor

namespace Go.Proofs.YteliflcbegcdlaaGreatDoor
set_option linter.unusedVariables false
open Go.RowKit
def upd {α : Type} (x : Nat → α) (i : Nat) (v : α) : Nat → α := fun j => if j = i then v else x j
@[simp] theorem upd_same {α : Type} (x : Nat → α) (i : Nat) (v : α) : upd x i v i = v := by simp [upd]
theorem upd_ne {α : Type} (x : Nat → α) {i j : Nat} (v : α) (h : j ≠ i) : upd x i v j = x j := by simp [upd, h]
/-- what the operations of a region have put so far -/
def putAll : List (Option Tmp) → Nat → (Nat → Value) → Act → Act
  | [], _, _, a => a
  | d :: ds, i, x, a => putAll ds (i + 1) x (a.put d (x i))
def dstOf (ops : Array Oper) : List (Option Tmp) := ops.toList.map (·.dst)
/-- no temporary is written twice -/
def apartD : List (Option Tmp) → Bool
  | [] => true
  | d :: ds => (match d with | none => true | some t => !ds.contains (some t)) && apartD ds
theorem putAll_put : ∀ (ds : List (Option Tmp)) (i : Nat) (x : Nat → Value) (a : Act) (d : Option Tmp) (v : Value), (∀ t, d = some t → some t ∉ ds) → putAll ds i x (a.put d v) = (putAll ds i x a).put d v := by
  intro ds
  induction ds with
  | nil => intro i x a d v _; rfl
  | cons e ds ih =>
    intro i x a d v h
    rw [putAll, putAll, ← ih _ _ _ _ _ (fun t ht hm => h t ht (List.mem_cons_of_mem _ hm))]
    congr 1
    refine Act.put_comm a v (x i) (fun t ht he => ?_)
    exact h t ht (by rw [he]; exact List.mem_cons_self)
theorem putAll_congr : ∀ (ds : List (Option Tmp)) (i : Nat) (x y : Nat → Value) (a : Act), (∀ j, i ≤ j → j < i + ds.length → x j = y j) → putAll ds i x a = putAll ds i y a := by
  intro ds
  induction ds with
  | nil => intro i x y a _; rfl
  | cons e ds ih =>
    intro i x y a h
    rw [putAll, putAll, h i (Nat.le_refl _) (by simp), ih (i + 1) x y _ (fun j h1 h2 => h j (by omega) (by simp at h2 ⊢; omega))]
theorem put_put (a : Act) (d : Option Tmp) (u v : Value) : (a.put d u).put d v = a.put d v := by
  cases d <;> simp [Act.put]
theorem putAll_upd : ∀ (ds : List (Option Tmp)) (i : Nat) (x : Nat → Value) (a : Act) (k : Nat) (v : Value), apartD ds = true → k < ds.length → (putAll ds i x a).put (ds.getD k none) v = putAll ds i (upd x (i + k) v) a := by
  intro ds
  induction ds with
  | nil => intro i x a k v _ h; simp at h
  | cons e ds ih =>
    intro i x a k v hd hk
    simp only [apartD, Bool.and_eq_true] at hd
    rw [putAll, putAll]
    cases k with
    | zero =>
      simp only [Nat.add_zero, upd_same, List.getD_cons_zero]
      rw [← putAll_put]
      · rw [put_put]
        exact putAll_congr _ _ _ _ _ (fun j h1 h2 => (upd_ne x v (by omega)).symm)
      · intro t ht
        rw [ht] at hd
        have := hd.1
        simpa using this
    | succ k =>
      rw [List.getD_cons_succ, ih _ _ _ _ _ hd.2 (by simpa using hk), upd_ne x v (by omega)]
      congr 2
      omega
def slotV (a : Act) (d : Option Tmp) : Value := match d with | some t => a.tmps.getD t undef | none => undef
theorem put_get (a : Act) (d : Option Tmp) : a.put d (slotV a d) = a := by
  cases d with
  | none => rfl
  | some t =>
    simp only [Act.put, slotV]
    congr 1
    apply Array.ext
    · simp
    · intro j h1 h2
      simp only [Array.getElem_setIfInBounds h2]
      split
      · rename_i h; subst h; simp [h2]
      · rfl
theorem putAll_start : ∀ (ds : List (Option Tmp)) (i : Nat) (a : Act), apartD ds = true → putAll ds i (fun j => slotV a (ds.getD (j - i) none)) a = a := by
  intro ds
  induction ds with
  | nil => intro i a _; rfl
  | cons e ds ih =>
    intro i a hd
    simp only [apartD, Bool.and_eq_true] at hd
    rw [putAll]
    have h0 : slotV a ((e :: ds).getD (i - i) none) = slotV a e := by simp
    simp only [h0, put_get]
    refine Eq.trans (putAll_congr _ _ _ _ _ (fun j h1 h2 => ?_)) (ih (i + 1) a hd.2)
    rw [show j - i = (j - (i + 1)) + 1 from by omega, List.getD_cons_succ]
/-- each edge leads back -/
def backD (ops : Array Oper) : Bool := (List.range ops.size).all fun i => ((ops[i]?).map (·.after.all fun e => !Region.binds .any e || decide (e.on < i))).getD true
def deps (o : Oper) : List Nat := (o.after.toList.filter fun e => Region.binds .any e).map (·.on)
def depsAt (ops : Array Oper) (j : Nat) : List Nat := match ops[j]? with | some o => deps o | none => []
section
variable {P : Program} {ops : Array Oper} {Q : Exit → Act → World → Prop}
theorem ready_nil (hb : backD ops = true) {listed : Array Bool} (hs : listed.size = ops.size) (h : Region.ready .any ops listed = []) : ∀ i, i < ops.size → listed.getD i true = true := by
  intro i
  induction i using Nat.strongRecOn with
  | _ i ih =>
    intro hi
    cases hl : listed.getD i true with
    | true => rfl
    | false =>
      exfalso
      have : i ∈ Region.ready .any ops listed := by
        rw [mem_ready]
        refine ⟨hl, ops[i], by simp [hi], fun e he hbe => ?_⟩
        have hlt : e.on < i := by
          simp only [backD, List.all_eq_true, List.mem_range] at hb
          have := hb i hi
          simp only [hi, Array.getElem?_eq_getElem, Option.map_some, Option.getD_some, Array.all_eq_true_iff_forall_mem] at this
          have h2 := this e he
          rw [hbe] at h2
          simpa using h2
        have := ih e.on hlt (by omega)
        have hlt' : e.on < listed.size := by omega
        simpa [Array.getD, hlt'] using this
      rw [h] at this
      cases this
def countF (l : Array Bool) : Nat := l.toList.countP (· == false)
theorem countF_list : ∀ (m : List Bool) (i : Nat), m[i]? = some false → (m.set i true).countP (· == false) + 1 = m.countP (· == false) := by
  intro m
  induction m with
  | nil => intro i h; simp at h
  | cons b m ih =>
    intro i h
    cases i with
    | zero => simp at h; simp [h]
    | succ i =>
      have := ih i (by simpa using h)
      simp only [List.set_cons_succ, List.countP_cons]
      omega
theorem countF_set {l : Array Bool} {i : Nat} (h : l.getD i true = false) : countF (l.setIfInBounds i true) + 1 = countF l := by
  have hi : i < l.size := by
    rcases Nat.lt_or_ge i l.size with h' | h'
    · exact h'
    · simp [Array.getD, Nat.not_lt.2 h'] at h
  unfold countF
  rw [Array.toList_setIfInBounds]
  refine countF_list _ _ ?_
  simpa [Array.getD, hi] using h
theorem wpAny_inv (hb : backD ops = true) (I : Array Bool → Act → World → Prop)
    (hstep : ∀ l a w i, l.size = ops.size → I l a w → i ∈ Region.ready .any ops l → wpOp P ops Q i (I (l.setIfInBounds i true)) a w)
    (hend : ∀ l a w, l.size = ops.size → I l a w → (∀ i, i < ops.size → l.getD i true = true) → Q .normal a w) :
    ∀ (fuel : Nat) (l : Array Bool) (a : Act) (w : World), l.size = ops.size → countF l ≤ fuel → I l a w → wpAny P .any ops Q fuel l a w := by
  intro fuel
  induction fuel with
  | zero =>
    intro l a w hs hc h
    have hr : Region.ready .any ops l = [] := by
      cases hr : Region.ready .any ops l with
      | nil => rfl
      | cons i r =>
        have : i ∈ Region.ready .any ops l := by rw [hr]; exact List.mem_cons_self
        have := countF_set (mem_ready.1 this).1
        omega
    exact ⟨hr, hend l a w hs h (ready_nil hb hs hr)⟩
  | succ fuel ih =>
    intro l a w hs hc h
    refine ⟨fun hr => hend l a w hs h (ready_nil hb hs hr), fun i hi => ?_⟩
    refine wpOp_mono (fun a' w' h' => ih _ a' w' (by simpa using hs) ?_ h') (hstep l a w i hs h hi)
    have := countF_set (mem_ready.1 hi).1
    omega
/-- The region by facts. 'x i' is the value of operation i, 'D i' says that it has come up. -/
theorem wp_region_facts {id : Nat} {a : Act} {w : World} (hm : P.follows .mixedOrders = true) (hd : apartD (dstOf ops) = true) (hb : backD ops = true)
    (I : (Nat → Bool) → (Nat → Value) → World → Prop)
    (h0 : ∀ x, I (fun _ => false) x w.drew)
    (hstep : ∀ i o, ops[i]? = some o → ∀ D x w, I D x w → D i = false → (∀ j ∈ deps o, D j = true) → (∀ j, D j = true → ∀ k ∈ depsAt ops j, D k = true) → wpOp P ops Q i (fun a' w' => ∃ v, a' = (putAll (dstOf ops) 0 x a).put o.dst v ∧ I (upd D i true) (upd x i v) w') (putAll (dstOf ops) 0 x a) w)
    (hend : ∀ D x w, I D x w → (∀ i, i < ops.size → D i = true) → Q .normal (putAll (dstOf ops) 0 x a) w) : (Code.region id ops true).wp P Q a w := by
  refine wp_region_any hm (wpAny_inv hb (fun l a' w' => ∃ x, a' = putAll (dstOf ops) 0 x a ∧ (∀ j, l.getD j false = true → ∀ k ∈ depsAt ops j, l.getD k false = true) ∧ I (fun j => l.getD j false) x w') ?_ ?_ _ _ _ _ (by simp) ?_ ?_)
  · rintro l a' w' i hs ⟨x, rfl, hcl, hI⟩ hi
    obtain ⟨hun, o, ho, hdep⟩ := mem_ready.1 hi
    have hlt : i < ops.size := (Array.getElem?_eq_some_iff.1 ho).1
    have hdi : (dstOf ops).getD i none = o.dst := by
      have : ops[i] = o := by simpa [hlt] using ho
      simp [dstOf, hlt, this]
    have hdp : ∀ j ∈ deps o, l.getD j false = true := by
      intro j hj
      simp only [deps, List.mem_map, List.mem_filter] at hj
      obtain ⟨e, ⟨he, hbe⟩, rfl⟩ := hj
      exact hdep e (by simpa using he) hbe
    refine wpOp_mono ?_ (hstep i o ho (fun j => l.getD j false) x w' hI (by have h' : i < l.size := by omega
                                                                            simpa [Array.getD, h'] using hun) hdp hcl)
    · rintro a'' w'' ⟨v, rfl, hI'⟩
      refine ⟨upd x i v, ?_, ?_, ?_⟩
      · rw [← hdi, putAll_upd _ _ _ _ _ _ hd (by simpa [dstOf] using hlt), Nat.zero_add]
      · intro j hj k hk
        by_cases e : k = i
        · subst e
          have h' : k < l.size := by omega
          simp [Array.getD, h']
        rw [getD_set_ne _ (Ne.symm e)]
        by_cases ej : j = i
        · subst ej
          simp only [depsAt, ho] at hk
          exact hdp k hk
        · rw [getD_set_ne _ (Ne.symm ej)] at hj
          exact hcl j hj k hk
      · have : (fun j => (l.setIfInBounds i true).getD j false) = upd (fun j => l.getD j false) i true := by
          funext j
          by_cases e : j = i
          · subst e
            have h' : j < l.size := by omega
            simp [upd, Array.getD, h']
          · rw [upd_ne _ _ e, getD_set_ne _ (Ne.symm e)]
        rw [this]
        exact hI'
  · rintro l a' w' hs ⟨x, rfl, _, hI⟩ hall
    refine hend _ x w' hI (fun i hi => ?_)
    have := hall i hi
    cases hl : l.getD i false with
    | true => rfl
    | false => 
      rcases Nat.lt_or_ge i l.size with h' | h'
      · simp [Array.getD, h'] at this hl; rw [this] at hl; cases hl
      · omega
  · exact Nat.le_trans List.countP_le_length (by simp)
  · refine ⟨_, (putAll_start _ 0 a hd).symm, fun j hj => ?_, ?_⟩
    · by_cases h : j < ops.size <;> simp [Array.getD, h] at hj
    have : (fun j => (Array.replicate ops.size false).getD j false) = fun _ => false := by
      funext j
      by_cases h : j < ops.size <;> simp [Array.getD, h]
    rw [this]
    exact h0 _
def AllOps (Φ : Nat → Oper → Prop) : Nat → List Oper → Prop
  | _, [] => True
  | i, o :: os => Φ i o ∧ AllOps Φ (i + 1) os
theorem AllOps.get {Φ : Nat → Oper → Prop} : ∀ (l : List Oper) (i : Nat), AllOps Φ i l → ∀ k o, l[k]? = some o → Φ (i + k) o := by
  intro l
  induction l with
  | nil => intro i _ k o h; simp at h
  | cons q l ih =>
    intro i h k o ho
    cases k with
    | zero => simp at ho; subst ho; exact h.1
    | succ k => have := ih (i + 1) h.2 k o (by simpa using ho); rw [show i + (k + 1) = i + 1 + k from by omega]; exact this
theorem wpOp_plain {i : Nat} {o : Oper} {a : Act} {w : World} {K : Act → World → Prop} (h : ops[i]? = some o) (hg : o.guard = none) (hw : o.wp P a w K Q) : wpOp P ops Q i K a w := by
  unfold wpOp
  simp only [h, Region.wanted, hg, if_true]
  exact .inl hw
def NoQ : Exit → Act → World → Prop := fun _ _ _ => False
theorem wp_noQ {o : Oper} {a : Act} {w : World} {K : Act → World → Prop} (h : o.wp P a w K NoQ) : o.wp P a w K Q := by
  unfold Oper.wp at *
  generalize (execOp a.eval o).run P w = r at *
  cases r with
  | ok n w' =>
    cases n <;> simp only [Oper.upon] at h ⊢ <;>
      first
        | exact h
        | exact Calls.mono h (fun e w'' he => by cases e <;> first | exact he | exact he.elim | (obtain ⟨_, _, hf⟩ := he; exact hf.elim))
  | halt x w' => cases x <;> simp only [Oper.upon] at h ⊢ <;> first | exact h | exact h.elim
/-- what slot t holds -/
def look (ds : List (Option Tmp)) (x : Nat → Value) (a : Act) (t : Tmp) : Value :=
  match ds.idxOf? (some t) with
  | some i => x i
  | none => a.tmps.getD t undef
theorem getD_put (a : Act) (d t : Tmp) (v : Value) (hd : d < a.tmps.size) : (a.put (some d) v).tmps.getD t undef = if d = t then v else a.tmps.getD t undef := by
  simp only [Act.put, Array.getD_eq_getD_getElem?, Array.getElem?_setIfInBounds]
  by_cases h : d = t
  · subst h; simp [hd]
  · simp [h]
theorem size_put (a : Act) (d : Option Tmp) (v : Value) : (a.put d v).tmps.size = a.tmps.size := by cases d <;> simp [Act.put]
def inD (n : Nat) (ds : List (Option Tmp)) : Bool := ds.all fun d => match d with | some t => decide (t < n) | none => true
theorem putAll_look : ∀ (ds : List (Option Tmp)) (i : Nat) (x : Nat → Value) (a : Act) (t : Tmp), apartD ds = true → inD a.tmps.size ds = true →
    (putAll ds i x a).tmps.getD t undef = match ds.idxOf? (some t) with | some k => x (i + k) | none => a.tmps.getD t undef := by
  intro ds
  induction ds with
  | nil => intro i x a t _ _; rfl
  | cons e ds ih =>
    intro i x a t hd hn
    simp only [apartD, Bool.and_eq_true] at hd
    simp only [inD, List.all_cons, Bool.and_eq_true] at hn
    rw [putAll, ih _ _ _ _ hd.2 (by rw [size_put]; exact hn.2), List.idxOf?_cons]
    by_cases he : e = some t
    · subst he
      have hnm : ds.idxOf? (some t) = none := by
        rw [List.idxOf?_eq_none_iff]
        have := hd.1
        simpa using this
      simp only [hnm, beq_self_eq_true, if_true, Nat.add_zero]
      rw [getD_put _ _ _ _ (by simpa using hn.1), if_pos rfl]
    · have hb : (e == some t) = false := by simpa using he
      rw [hb]
      simp only [Bool.false_eq_true, if_false]
      cases hk : ds.idxOf? (some t) with
      | some k => simp only [Option.map_some]; congr 1; omega
      | none =>
        simp only [Option.map_none]
        cases e with
        | none => rfl
        | some d =>
          rw [getD_put _ _ _ _ (by simpa using hn.1), if_neg (fun h => he (by rw [h]))]
/-- behind one operation -/
def StepPost (I : (Nat → Bool) → (Nat → Value) → World → Prop) (D : Nat → Bool) (x : Nat → Value) (i : Nat) (b : Act) (d : Option Tmp) (a' : Act) (w' : World) : Prop := ∃ v, a' = b.put d v ∧ I (upd D i true) (upd x i v) w'
theorem StepPost.mk' {I : (Nat → Bool) → (Nat → Value) → World → Prop} {D : Nat → Bool} {x : Nat → Value} {i : Nat} {b : Act} {d : Option Tmp} {w' : World} {v : Value} (h : I (upd D i true) (upd x i v) w') : StepPost I D x i b d (b.put d v) w' := ⟨v, rfl, h⟩
/-- the region by facts, no operation guarded -/
theorem wp_region_factsU {id : Nat} {l : List Oper} {a : Act} {w : World} (hm : P.follows .mixedOrders = true) (hd : apartD (dstOf l.toArray) = true) (hb : backD l.toArray = true) (hg : l.all (fun o => o.guard.isNone) = true) (hn : inD a.tmps.size (dstOf l.toArray) = true)
    (I : (Nat → Bool) → (Nat → Value) → World → Prop)
    (h0 : ∀ x, I (fun _ => false) x w.drew)
    (hstep : AllOps (fun i o => ∀ D x w (b : Act), I D x w → D i = false → (∀ j ∈ deps o, D j = true) → (∀ j, D j = true → ∀ k ∈ depsAt l.toArray j, D k = true) → (∀ t : Nat, b.tmps[t]?.getD undef = look (dstOf l.toArray) x a t) → o.wp P b w (StepPost I D x i b o.dst) NoQ) 0 l)
    (hend : ∀ D x w, I D x w → (∀ i, i < l.length → D i = true) → Q .normal (putAll (dstOf l.toArray) 0 x a) w) : (Code.region id l.toArray true).wp P Q a w := by
  refine wp_region_facts hm hd hb I h0 (fun i o ho D x w hI hD hdep hcl => ?_) (fun D x w hI h => hend D x w hI (by simpa using h))
  have ho' : l[i]? = some o := by simpa using ho
  refine wpOp_plain ho ?_ ?_
  · have := List.all_eq_true.1 hg o (List.mem_of_getElem? ho')
    simpa using this
  · have := hstep.get _ _ i o ho' D x w (putAll (dstOf l.toArray) 0 x a)
    rw [Nat.zero_add] at this
    refine wp_noQ (this hI hD hdep hcl (fun t => ?_))
    rw [← Array.getD_eq_getD_getElem?, putAll_look _ _ _ _ _ hd hn]
    unfold look
    simp only [Nat.zero_add]
theorem wp_of_run {I : (Nat → Bool) → (Nat → Value) → World → Prop} {D : Nat → Bool} {x : Nat → Value} {i : Nat} {o : Oper} {b : Act} {w w' : World} (v : Value) (h : (execOp b.eval o).run P w = .ok (.value v) w') (hK : I (upd D i true) (upd x i v) w') : o.wp P b w (StepPost I D x i b o.dst) NoQ := by
  unfold Oper.wp; rw [h]; exact StepPost.mk' hK
theorem wp_of_skip {I : (Nat → Bool) → (Nat → Value) → World → Prop} {D : Nat → Bool} {x : Nat → Value} {i : Nat} {o : Oper} {b : Act} {w w' : World} (h : (execOp b.eval o).run P w = .ok .skip w') (hK : I (upd D i true) (upd x i undef) w') : o.wp P b w (StepPost I D x i b o.dst) NoQ := by
  unfold Oper.wp; rw [h]; exact StepPost.mk' hK
end
end Go.Proofs.YteliflcbegcdlaaGreatDoor

namespace Go.Proofs.YteliflcbegcdlaaGreatDoor
open Go.RowKit
set_option linter.unusedVariables false
section
variable {P : Program} {ops : Array Oper} {Q : Exit → Act → World → Prop}
/-- The region by facts. 'x i' is the value of operation i, 'D i' says that it has come up. -/
theorem wp_region_facts2 {id : Nat} {a : Act} {w : World} (hm : P.follows .mixedOrders = true) (hd : apartD (dstOf ops) = true) (hb : backD ops = true)
    (I : (Nat → Bool) → (Nat → Value) → World → Prop)
    (h0 : I (fun _ => false) (fun j => slotV a ((dstOf ops).getD (j - 0) none)) w.drew)
    (hstep : ∀ i o, ops[i]? = some o → ∀ D x w, I D x w → D i = false → (∀ j ∈ deps o, D j = true) → (∀ j, D j = true → ∀ k ∈ depsAt ops j, D k = true) → wpOp P ops Q i (fun a' w' => ∃ v, a' = (putAll (dstOf ops) 0 x a).put o.dst v ∧ I (upd D i true) (upd x i v) w') (putAll (dstOf ops) 0 x a) w)
    (hend : ∀ D x w, I D x w → (∀ i, i < ops.size → D i = true) → Q .normal (putAll (dstOf ops) 0 x a) w) : (Code.region id ops true).wp P Q a w := by
  refine wp_region_any hm (wpAny_inv hb (fun l a' w' => ∃ x, a' = putAll (dstOf ops) 0 x a ∧ (∀ j, l.getD j false = true → ∀ k ∈ depsAt ops j, l.getD k false = true) ∧ I (fun j => l.getD j false) x w') ?_ ?_ _ _ _ _ (by simp) ?_ ?_)
  · rintro l a' w' i hs ⟨x, rfl, hcl, hI⟩ hi
    obtain ⟨hun, o, ho, hdep⟩ := mem_ready.1 hi
    have hlt : i < ops.size := (Array.getElem?_eq_some_iff.1 ho).1
    have hdi : (dstOf ops).getD i none = o.dst := by
      have : ops[i] = o := by simpa [hlt] using ho
      simp [dstOf, hlt, this]
    have hdp : ∀ j ∈ deps o, l.getD j false = true := by
      intro j hj
      simp only [deps, List.mem_map, List.mem_filter] at hj
      obtain ⟨e, ⟨he, hbe⟩, rfl⟩ := hj
      exact hdep e (by simpa using he) hbe
    refine wpOp_mono ?_ (hstep i o ho (fun j => l.getD j false) x w' hI (by have h' : i < l.size := by omega
                                                                            simpa [Array.getD, h'] using hun) hdp hcl)
    · rintro a'' w'' ⟨v, rfl, hI'⟩
      refine ⟨upd x i v, ?_, ?_, ?_⟩
      · rw [← hdi, putAll_upd _ _ _ _ _ _ hd (by simpa [dstOf] using hlt), Nat.zero_add]
      · intro j hj k hk
        by_cases e : k = i
        · subst e
          have h' : k < l.size := by omega
          simp [Array.getD, h']
        rw [getD_set_ne _ (Ne.symm e)]
        by_cases ej : j = i
        · subst ej
          simp only [depsAt, ho] at hk
          exact hdp k hk
        · rw [getD_set_ne _ (Ne.symm ej)] at hj
          exact hcl j hj k hk
      · have : (fun j => (l.setIfInBounds i true).getD j false) = upd (fun j => l.getD j false) i true := by
          funext j
          by_cases e : j = i
          · subst e
            have h' : j < l.size := by omega
            simp [upd, Array.getD, h']
          · rw [upd_ne _ _ e, getD_set_ne _ (Ne.symm e)]
        rw [this]
        exact hI'
  · rintro l a' w' hs ⟨x, rfl, _, hI⟩ hall
    refine hend _ x w' hI (fun i hi => ?_)
    have := hall i hi
    cases hl : l.getD i false with
    | true => rfl
    | false => 
      rcases Nat.lt_or_ge i l.size with h' | h'
      · simp [Array.getD, h'] at this hl; rw [this] at hl; cases hl
      · omega
  · exact Nat.le_trans List.countP_le_length (by simp)
  · refine ⟨_, (putAll_start _ 0 a hd).symm, fun j hj => ?_, ?_⟩
    · by_cases h : j < ops.size <;> simp [Array.getD, h] at hj
    have : (fun j => (Array.replicate ops.size false).getD j false) = fun _ => false := by
      funext j
      by_cases h : j < ops.size <;> simp [Array.getD, h]
    rw [this]
    exact h0
/-- the region by facts, no operation guarded -/
theorem wp_region_facts2U {id : Nat} {l : List Oper} {a : Act} {w : World} (hm : P.follows .mixedOrders = true) (hd : apartD (dstOf l.toArray) = true) (hb : backD l.toArray = true) (hg : l.all (fun o => o.guard.isNone) = true) (hn : inD a.tmps.size (dstOf l.toArray) = true)
    (I : (Nat → Bool) → (Nat → Value) → World → Prop)
    (h0 : I (fun _ => false) (fun j => slotV a ((dstOf l.toArray).getD (j - 0) none)) w.drew)
    (hstep : AllOps (fun i o => ∀ D x w (b : Act), I D x w → D i = false → (∀ j ∈ deps o, D j = true) → (∀ j, D j = true → ∀ k ∈ depsAt l.toArray j, D k = true) → (∀ t : Nat, b.tmps[t]?.getD undef = look (dstOf l.toArray) x a t) → o.wp P b w (StepPost I D x i b o.dst) NoQ) 0 l)
    (hend : ∀ D x w, I D x w → (∀ i, i < l.length → D i = true) → Q .normal (putAll (dstOf l.toArray) 0 x a) w) : (Code.region id l.toArray true).wp P Q a w := by
  refine wp_region_facts2 hm hd hb I h0 (fun i o ho D x w hI hD hdep hcl => ?_) (fun D x w hI h => hend D x w hI (by simpa using h))
  have ho' : l[i]? = some o := by simpa using ho
  refine wpOp_plain ho ?_ ?_
  · have := List.all_eq_true.1 hg o (List.mem_of_getElem? ho')
    simpa using this
  · have := hstep.get _ _ i o ho' D x w (putAll (dstOf l.toArray) 0 x a)
    rw [Nat.zero_add] at this
    refine wp_noQ (this hI hD hdep hcl (fun t => ?_))
    rw [← Array.getD_eq_getD_getElem?, putAll_look _ _ _ _ _ hd hn]
    unfold look
    simp only [Nat.zero_add]
end
section
variable {P : Program} {Q : Exit → Act → World → Prop}
variable {w : World} {Φ : Nat → Value → World → Prop} {i : Nat} {b : Act} {o : Oper}
/-- the facts of a table: a value for each operation, but for those with a property of their own -/
def phiT (ev : Nat → Option Value) (Ψ : Nat → Value → World → Prop) (i : Nat) (v : Value) (w : World) : Prop := match ev i with | some u => v = u | none => Ψ i v w
end
end Go.Proofs.YteliflcbegcdlaaGreatDoor

namespace Go.Proofs.YteliflcbegcdlaaGreatDoor
open Go.RowKit
set_option linter.unusedVariables false
section
variable {P : Program} {ops : Array Oper} {Q : Exit → Act → World → Prop}
/-- the guard of an operation is met -/
def gOk (ops : Array Oper) (o : Oper) (b : Act) : Prop := match o.guard with
  | none => True
  | some (j, want) => ∃ d : Nat, (ops[j]?.bind (·.dst)) = some d ∧ b.tmps[d]?.getD undef = .bool want
theorem gOk.wanted {o : Oper} {b : Act} (h : gOk ops o b) : Region.wanted o (yielded ops b.tmps) = true := by
  unfold gOk at h
  unfold Region.wanted
  cases hg : o.guard with
  | none => rfl
  | some p =>
    obtain ⟨j, want⟩ := p
    rw [hg] at h
    obtain ⟨d, hd, hv⟩ := h
    have hv2 : b.tmps[d]? = some (.bool want) := by
      cases ht : b.tmps[d]? with
      | none => rw [ht] at hv; simp [undef] at hv
      | some u => rw [ht] at hv; simp at hv; rw [hv]
    show (yielded ops b.tmps j == some want) = true
    unfold yielded
    rw [hd, Option.bind_some, hv2]
    simp
theorem wpOp_met {i : Nat} {o : Oper} {a : Act} {w : World} {K : Act → World → Prop} (h : ops[i]? = some o) (hg : Region.wanted o (yielded ops a.tmps) = true) (hw : o.wp P a w K Q) : wpOp P ops Q i K a w := by
  unfold wpOp
  simp only [h, hg, if_true]
  exact .inl hw
end
section
variable {P : Program} {Q : Exit → Act → World → Prop}
end
end Go.Proofs.YteliflcbegcdlaaGreatDoor

namespace Go.Proofs.YteliflcbegcdlaaGreatDoor
open Go.RowKit
set_option linter.unusedVariables false
section
variable {P : Program} {Q : Exit → Act → World → Prop}
variable {w : World} {ev : Nat → Value} {S : World → World} {n i m : Nat} {b : Act} {o : Oper}
end
end Go.Proofs.YteliflcbegcdlaaGreatDoor

namespace Go.Proofs.YteliflcbegcdlaaGreatDoor
open Go.RowKit
set_option linter.unusedVariables false
section
variable {P : Program} {ops : Array Oper} {Q : Exit → Act → World → Prop}
/-- the guard of an operation is not met (it is the other truth value, or it was not asked itself) -/
def gNo (ops : Array Oper) (o : Oper) (b : Act) : Prop := match o.guard with
  | none => False
  | some (j, want) => ∃ d : Nat, (ops[j]?.bind (·.dst)) = some d ∧ (b.tmps[d]?.getD undef = .bool (!want) ∨ b.tmps[d]?.getD undef = undef)
theorem gNo.wanted {o : Oper} {b : Act} (h : gNo ops o b) : Region.wanted o (yielded ops b.tmps) = false := by
  unfold gNo at h
  unfold Region.wanted
  cases hg : o.guard with
  | none => rw [hg] at h; exact absurd h id
  | some p =>
    obtain ⟨j, want⟩ := p
    rw [hg] at h
    obtain ⟨d, hd, hv⟩ := h
    show (yielded ops b.tmps j == some want) = false
    unfold yielded
    rw [hd, Option.bind_some]
    rcases hv with hv | hv
    · cases ht : b.tmps[d]? with
      | none => simp
      | some u =>
        rw [ht] at hv
        simp only [Option.getD_some] at hv
        rw [hv]
        cases want <;> simp
    · cases ht : b.tmps[d]? with
      | none => simp
      | some u =>
        rw [ht] at hv
        simp only [Option.getD_some] at hv
        rw [hv]
        simp [undef]
theorem wpOp_skip {i : Nat} {o : Oper} {a : Act} {w : World} {K : Act → World → Prop} (h : ops[i]? = some o) (hg : Region.wanted o (yielded ops a.tmps) = false) (hw : K (a.put o.dst undef) w) : wpOp P ops Q i K a w := by
  unfold wpOp
  simp only [h, hg]
  exact hw
/-- the region by facts, guards met or not -/
theorem wp_region_facts2X {id : Nat} {l : List Oper} {a : Act} {w : World} (hm : P.follows .mixedOrders = true) (hd : apartD (dstOf l.toArray) = true) (hb : backD l.toArray = true) (hn : inD a.tmps.size (dstOf l.toArray) = true)
    (I : (Nat → Bool) → (Nat → Value) → World → Prop)
    (h0 : I (fun _ => false) (fun j => slotV a ((dstOf l.toArray).getD (j - 0) none)) w.drew)
    (hstep : AllOps (fun i o => ∀ D x w (b : Act), I D x w → D i = false → (∀ j ∈ deps o, D j = true) → (∀ j, D j = true → ∀ k ∈ depsAt l.toArray j, D k = true) → (∀ t : Nat, b.tmps[t]?.getD undef = look (dstOf l.toArray) x a t) → (gOk l.toArray o b ∧ o.wp P b w (StepPost I D x i b o.dst) NoQ) ∨ (gNo l.toArray o b ∧ I (upd D i true) (upd x i undef) w)) 0 l)
    (hend : ∀ D x w, I D x w → (∀ i, i < l.length → D i = true) → Q .normal (putAll (dstOf l.toArray) 0 x a) w) : (Code.region id l.toArray true).wp P Q a w := by
  refine wp_region_facts2 hm hd hb I h0 (fun i o ho D x w hI hD hdep hcl => ?_) (fun D x w hI h => hend D x w hI (by simpa using h))
  have ho' : l[i]? = some o := by simpa using ho
  have := hstep.get _ _ i o ho' D x w (putAll (dstOf l.toArray) 0 x a)
  rw [Nat.zero_add] at this
  have h2 := this hI hD hdep hcl (fun t => by
    rw [← Array.getD_eq_getD_getElem?, putAll_look _ _ _ _ _ hd hn]
    unfold look
    simp only [Nat.zero_add])
  rcases h2 with ⟨h2, h3⟩ | ⟨h2, h3⟩
  · exact wpOp_met ho h2.wanted (wp_noQ h3)
  · exact wpOp_skip ho h2.wanted ⟨undef, rfl, h3⟩
end
section
variable {P : Program} {Q : Exit → Act → World → Prop}
/-- behind one operation -/
def PhxPost (T : World → World → Prop) (w : World) (Φ : Nat → Value → World → Prop) (i : Nat) (b : Act) (d : Option Tmp) (a' : Act) (w' : World) : Prop := ∃ v, a' = b.put d v ∧ T w w' ∧ Φ i v w'
/-- the same without a store at the end -/
theorem wp_region_phy {id : Nat} {l : List Oper} {a : Act} {w0 : World} (T : World → World → Prop) (Tr : ∀ {a b c}, T a b → T b c → T a c) (T0 : T w0 w0.drew) (hm : P.follows .mixedOrders = true) (hd : apartD (dstOf l.toArray) = true) (hb : backD l.toArray = true) (hn : inD a.tmps.size (dstOf l.toArray) = true)
    (Φ : Nat → Value → World → Prop) (hΦ : ∀ i v w w', Φ i v w → T w w' → Φ i v w')
    (hstep : AllOps (fun i o => ∀ (x : Nat → Value) w (b : Act), T w0 w → (∀ j ∈ deps o, Φ j (x j) w) → (∀ j, i ∈ depsAt l.toArray j → x j = slotV a ((dstOf l.toArray).getD (j - 0) none)) → (∀ t : Nat, b.tmps[t]?.getD undef = look (dstOf l.toArray) x a t) →
      (gOk l.toArray o b ∧ o.wp P b w (PhxPost T w Φ i b o.dst) NoQ) ∨ (gNo l.toArray o b ∧ Φ i undef w)) 0 l)
    (hend : ∀ (x : Nat → Value) w, T w0 w → (∀ i, i < l.length → Φ i (x i) w) → Q .normal (putAll (dstOf l.toArray) 0 x a) w) : (Code.region id l.toArray true).wp P Q a w0 := by
  refine wp_region_facts2X hm hd hb hn (fun D x w => T w0 w ∧ (∀ i, D i = true → Φ i (x i) w) ∧ ∀ i, D i = false → x i = (fun j => slotV a ((dstOf l.toArray).getD (j - 0) none)) i) ⟨T0, fun i h => Bool.noConfusion h, fun _ _ => rfl⟩ ?_ ?_
  · have key : ∀ k o, l[k]? = some o → ∀ D x W (b : Act), (T w0 W ∧ (∀ i, D i = true → Φ i (x i) W) ∧ ∀ i, D i = false → x i = (fun j => slotV a ((dstOf l.toArray).getD (j - 0) none)) i) → D k = false → (∀ j ∈ deps o, D j = true) → (∀ j, D j = true → ∀ q ∈ depsAt l.toArray j, D q = true) → (∀ t : Nat, b.tmps[t]?.getD undef = look (dstOf l.toArray) x a t) → (gOk l.toArray o b ∧ o.wp P b W (StepPost (fun D x w => T w0 w ∧ (∀ i, D i = true → Φ i (x i) w) ∧ ∀ i, D i = false → x i = (fun j => slotV a ((dstOf l.toArray).getD (j - 0) none)) i) D x k b o.dst) NoQ) ∨ (gNo l.toArray o b ∧ (T w0 W ∧ (∀ i, upd D k true i = true → Φ i (upd x k undef i) W) ∧ ∀ i, upd D k true i = false → upd x k undef i = (fun j => slotV a ((dstOf l.toArray).getD (j - 0) none)) i)) := by
      intro k o ho D x W b hI hD hdep hcl hbt
      have hs := hstep.get _ _ k o ho x W b hI.1 (fun j hj => hI.2.1 j (hdep j hj)) (fun j hj => hI.2.2 j (by
        cases h : D j with
        | false => rfl
        | true =>
          rw [Nat.zero_add] at hj
          have := hcl j h k hj
          rw [hD] at this; cases this)) hbt
      rw [Nat.zero_add] at hs
      rcases hs with ⟨g1, g2⟩ | ⟨g1, g2⟩
      · refine .inl ⟨g1, Oper.wp_mono ?_ g2⟩
        rintro a' w' ⟨v, rfl, hb', hv⟩
        refine ⟨v, rfl, Tr hI.1 hb', fun i hi => ?_, fun i hi => ?_⟩
        · by_cases e : i = k
          · subst e; rw [upd_same]; exact hv
          · rw [upd_ne _ _ e] at hi ⊢
            exact hΦ i (x i) W w' (hI.2.1 i hi) hb'
        · by_cases e : i = k
          · subst e; rw [upd_same] at hi; cases hi
          · rw [upd_ne _ _ e] at hi ⊢
            exact hI.2.2 i hi
      · refine .inr ⟨g1, hI.1, fun i hi => ?_, fun i hi => ?_⟩
        · by_cases e : i = k
          · subst e; rw [upd_same]; exact g2
          · rw [upd_ne _ _ e] at hi ⊢
            exact hI.2.1 i hi
        · by_cases e : i = k
          · subst e; rw [upd_same] at hi; cases hi
          · rw [upd_ne _ _ e] at hi ⊢
            exact hI.2.2 i hi
    have aux : ∀ (r : List Oper) (s : Nat), (∀ k, r[k]? = l[s + k]?) → AllOps (fun k o => ∀ D x W (b : Act), (T w0 W ∧ (∀ i, D i = true → Φ i (x i) W) ∧ ∀ i, D i = false → x i = (fun j => slotV a ((dstOf l.toArray).getD (j - 0) none)) i) → D k = false → (∀ j ∈ deps o, D j = true) → (∀ j, D j = true → ∀ q ∈ depsAt l.toArray j, D q = true) → (∀ t : Nat, b.tmps[t]?.getD undef = look (dstOf l.toArray) x a t) → (gOk l.toArray o b ∧ o.wp P b W (StepPost (fun D x w => T w0 w ∧ (∀ i, D i = true → Φ i (x i) w) ∧ ∀ i, D i = false → x i = (fun j => slotV a ((dstOf l.toArray).getD (j - 0) none)) i) D x k b o.dst) NoQ) ∨ (gNo l.toArray o b ∧ (T w0 W ∧ (∀ i, upd D k true i = true → Φ i (upd x k undef i) W) ∧ ∀ i, upd D k true i = false → upd x k undef i = (fun j => slotV a ((dstOf l.toArray).getD (j - 0) none)) i))) s r := by
      intro r
      induction r with
      | nil => intro s _; trivial
      | cons o r ih =>
        intro s hr
        refine ⟨key s o (by have := hr 0; simpa using this.symm), ih (s + 1) (fun k => ?_)⟩
        have := hr (k + 1)
        rw [List.getElem?_cons_succ] at this
        rw [this]; congr 1; omega
    exact aux l 0 (fun k => by rw [Nat.zero_add])
  · intro D x W hI hall
    exact hend x W hI.1 (fun i hi => hI.2.1 i (hall i hi))
variable {w : World} {T : World → World → Prop} {Φ : Nat → Value → World → Prop} {i : Nat} {b : Act} {o : Oper}
theorem phx_run (v : Value) (h : (execOp b.eval o).run P w = .ok (.value v) w) (hT : T w w) (hv : Φ i v w) : o.wp P b w (PhxPost T w Φ i b o.dst) NoQ := by
  unfold Oper.wp; rw [h]; exact ⟨v, rfl, hT, hv⟩
theorem phx_call {f : FuncId} {args : Array Value} (h : (execOp b.eval o).run P w = .ok (.enter f args) w) (hc : Calls P f args w fun e w' => ∃ v, e = .returned v ∧ T w w' ∧ Φ i v w') : o.wp P b w (PhxPost T w Φ i b o.dst) NoQ := by
  unfold Oper.wp; rw [h]
  simp only [Oper.upon]
  refine hc.mono ?_
  rintro e w' ⟨v, rfl, hb, hv⟩
  exact ⟨v, rfl, hb, hv⟩
end
end Go.Proofs.YteliflcbegcdlaaGreatDoor

namespace Go.Proofs.YteliflcbegcdlaaGreatDoor
open Go.RowKit
set_option linter.unusedVariables false
/-- where an entry of a translation comes from -/
theorem trl_from {X : List Int} {c j : Nat} (hc : c < X.length) (hj : j < X.length) : ∃ i, i < X.length ∧ j = (i + c) % X.length := by
  by_cases h : c ≤ j
  · exact ⟨j - c, by omega, by rw [mod_small (by omega) hc, if_pos (by omega)]; omega⟩
  · exact ⟨j + X.length - c, by omega, by rw [mod_small (by omega) hc, if_neg (by omega)]; omega⟩
theorem trl_pm {X : List Int} {c r : Nat} (h : Pm X) (hc : c < X.length) (hr : r < X.length) : Pm (trl c r X) := by
  refine Pm.mk_inj (fun x hx => ?_) fun i j hi hj e => ?_
  · obtain ⟨j, hj, rfl⟩ := List.getElem_of_mem hx
    rw [trl_length] at hj ⊢
    obtain ⟨i, hi, rfl⟩ := trl_from hc hj
    rw [← gt_get (by rw [trl_length]; exact hj), trl_vd_gt h hc hr hi]
    have := h.gt_rng hi
    split <;> omega
  · rw [trl_length] at hi hj
    obtain ⟨i', hi', ei⟩ := trl_from hc hi
    obtain ⟨j', hj', ej⟩ := trl_from hc hj
    rw [← gt_get (by rw [trl_length]; exact hi), ← gt_get (by rw [trl_length]; exact hj), ei, ej, trl_vd_gt h hc hr hi', trl_vd_gt h hc hr hj'] at e
    have a := h.gt_rng hi'
    have b := h.gt_rng hj'
    have e3 : gt X i' = gt X j' := by split at e <;> split at e <;> omega
    rw [gt_get hi', gt_get hj'] at e3
    rw [ei, ej, h.inj hi' hj' e3]
theorem trl_vd {X O : List Int} {c r : Nat} (h : Vd X O) (hc : c < X.length) (hr : r < X.length) : Vd (trl c r X) (trl c r O) := by
  have hl := h.len
  refine ⟨by rw [trl_length]; exact h.two, by rw [trl_length]; exact h.most, by rw [trl_length, trl_length]; exact hl, trl_pm h.pX hc hr, trl_pm h.pO (by omega) (by omega), fun k h1 h2 e => ?_⟩
  rw [trl_length] at h1
  obtain ⟨i, hi, ei⟩ := trl_from hc h1
  rw [← gt_get (by rw [trl_length]; exact h1), ← gt_get h2, ei, trl_vd_gt h.pX hc hr hi] at e
  have e2 := trl_vd_gt (X := O) (c := c) (r := r) (i := i) h.pO (by omega) (by omega) (by omega)
  rw [← hl] at e2
  rw [e2] at e
  have a := h.pX.gt_rng hi
  have b := h.pO.gt_rng (show i < O.length by omega)
  rw [← hl] at b
  have e3 : gt X i = gt O i := by split at e <;> split at e <;> omega
  rw [gt_get hi, gt_get (by omega)] at e3
  exact h.ne i hi (by omega) e3
theorem lst_cand (X O : List Int) : ∀ k, ∃ i, i ≤ k ∧ lstK X O k = cand X O i
  | 0 => ⟨0, by omega, rfl⟩
  | k + 1 => by
    obtain ⟨i, h1, h2⟩ := lst_cand X O k
    rw [lstK]
    split
    · exact ⟨k + 1, by omega, rfl⟩
    · exact ⟨i, by omega, h2⟩
theorem lstM_trl {g : Gd} (h : Vd g.1 g.2) : ∃ c r, c < g.1.length ∧ r < g.1.length ∧ lstM g = (trl c r g.1, trl c r g.2) := by
  have h2 := h.two
  obtain ⟨i, h1, e⟩ := lst_cand g.1 g.2 (g.1.length - 1)
  exact ⟨_, _, Nat.mod_lt _ (by omega), Nat.mod_lt _ (by omega), e⟩
theorem lstM_vd {g : Gd} (h : Vd g.1 g.2) : Vd (lstM g).1 (lstM g).2 := by
  obtain ⟨c, r, hc, hr, e⟩ := lstM_trl h
  rw [e]; exact trl_vd h hc hr
theorem lstM_len {g : Gd} (h : Vd g.1 g.2) : (lstM g).1.length = g.1.length := by
  obtain ⟨c, r, hc, hr, e⟩ := lstM_trl h
  rw [e]; exact trl_length _ _ _
end Go.Proofs.YteliflcbegcdlaaGreatDoor

namespace Go.Proofs.YteliflcbegcdlaaGreatDoor
open Go.RowKit
set_option linter.unusedVariables false
end Go.Proofs.YteliflcbegcdlaaGreatDoor

namespace Go.Proofs.YteliflcbegcdlaaGreatDoor
open Go.RowKit
set_option linter.unusedVariables false
theorem cat_g (x y : List UInt8) : (⟨x.toArray⟩ ++ ⟨y.toArray⟩ : ByteArray) = ⟨(x ++ y).toArray⟩ := ByteArray.mk_append_mk x y
set_option maxHeartbeats 4000000 in
set_option maxRecDepth 100000 in
theorem format_any (vx vo : Value) (X O : List Int) (w : World) (hX : Ints w vx X) (hO : Ints w vo O) (hv : Vd X O) (ht : Tb w) :
    Calls Tryz.prog 29 #[.agg #[vx, vo]] w fun e w' => e = .returned (.tuple #[.string ⟨(fmG (X, O)).toArray⟩, .int .i64 0]) ∧ Below w.heap.size w w' := by
  have h40 := hv.most
  have hle := hv.len
  have bX : ∀ x ∈ X, 0 ≤ x ∧ x ≤ 1000 := fun x hx => by have := hv.pX.1 x hx; omega
  have bO : ∀ x ∈ O, 0 ≤ x ∧ x ≤ 1000 := fun x hx => by have := hv.pO.1 x hx; omega
  have HLX := Lib.hid (fun W (hb : Below w.heap.size w W) => list_any vx X W (hX.below hb) (by omega) bX (ht.below hb))
  have HLO := Lib.hid (fun W (hb : Below w.heap.size w W) => list_any vo O W (hO.below hb) (by omega) bO (ht.below hb))
  have HVD := Lib.hid (fun W (hb : Below w.heap.size w W) => valid_any vx vo X O W (hX.below hb) (hO.below hb) (by omega) (by omega))
  rw [(validB_iff X O).2 hv] at HVD
  have lX := fmR_len bX X.length (Nat.le_refl _)
  have lO := fmR_len bO O.length (Nat.le_refl _)
  obtain ⟨A, c, rfl, -, -⟩ := hX
  obtain ⟨A', c', rfl, -, -⟩ := hO
  obtain ⟨tx, htx⟩ : ∃ t, t = fmR X X.length := ⟨_, rfl⟩
  obtain ⟨ty, hty⟩ : ∃ t, t = fmR O O.length := ⟨_, rfl⟩
  have HG := Lib.hid (show fmG (X, O) = tx ++ ([32, 47, 32] ++ ty) by unfold fmG; rw [htx, hty])
  rw [← htx] at HLX lX
  rw [← hty] at HLO lO
  have ltx : tx.length ≤ 2000 := by omega
  have lty : ty.length ≤ 2000 := by omega
  obtain ⟨n, hn⟩ : ∃ n, n = X.length := ⟨_, rfl⟩
  obtain ⟨m, hm⟩ : ∃ m, m = O.length := ⟨_, rfl⟩
  rw [← hn] at HLX HVD ⊢
  rw [← hm] at HLO HVD ⊢
  have hal := (Below.refl w.heap.size w).alloc (Nat.le_refl _) (.cells #[.slice A n c, .slice A' m c'] 24)
  have HB := Lib.hid hal
  have HQ := Lib.hid (show Arr (w.alloc (.cells #[.slice A n c, .slice A' m c'] 24)) w.heap.size 24 [.slice A n c, .slice A' m c'] from Arr.new w _ [_, _])
  clear hal htx hty hn hm bX bO ht hv h40 hle lX lO
  go_enter Tryz.func29, Tryz.ntmps29
  go_upto_region 1 with fail
  obtain ⟨w3, hw3⟩ : ∃ W', W' = w.alloc (.cells #[.slice A n c, .slice A' m c'] 24) := ⟨_, rfl⟩
  rw [← hw3] at HB HQ ⊢
  obtain ⟨gB, hgB⟩ : ∃ g, g = w.heap.size := ⟨_, rfl⟩
  rw [← hgB] at HQ ⊢
  clear hw3 hgB
  have y0 := HQ.out.cell 0
  have y1 := HQ.out.cell 1
  have HVE := Lib.hid (HVD.out w3 HB.out)
  go_upto_region 3 with (go_at_call 28; refine HVE.out.mono ?_; rintro e w4 ⟨rfl, hb4⟩)
  have HQ4 := Lib.hid (HQ.out.below hb4 HQ.out.lt)
  have HB4 := Lib.hid (HB.out.trans (hb4.mono HB.out.size))
  clear y0 y1 hb4 HVE HVD
  obtain ⟨t1, ht1⟩ : ∃ t, t = tx ++ [32, 47, 32] := ⟨_, rfl⟩
  obtain ⟨t2, ht2⟩ : ∃ t, t = t1 ++ ty := ⟨_, rfl⟩
  have C1 := Lib.hid (show (⟨tx.toArray⟩ ++ ⟨#[32, 47, 32]⟩ : ByteArray) = ⟨t1.toArray⟩ by rw [ht1]; exact cat_g tx [32, 47, 32])
  have C2 := Lib.hid (show (⟨t1.toArray⟩ ++ ⟨ty.toArray⟩ : ByteArray) = ⟨t2.toArray⟩ by rw [ht2]; exact cat_g t1 ty)
  have L1 := Lib.hid (show ¬ 9223372036854775807 < tx.length + 3 by omega)
  have L2 := Lib.hid (show ¬ 9223372036854775807 < t1.length + ty.length by rw [ht1, List.length_append]; simp; omega)
  have HG2 := Lib.hid (show fmG (X, O) = t2 by rw [HG.out, ht2, ht1, List.append_assoc])
  clear ht1 ht2 HG
  refine wp_region_phy (fun a b => Below a.heap.size a b) (fun h k => h.trans (k.mono h.size)) ((Below.refl _ _).drew) (by kernel_rfl) (by kernel_rfl) (by kernel_rfl) (by kernel_rfl) (phiT (fun i => ([some (.pointer (some ⟨gB, 0, none⟩)), some (.slice A n c), some (.string ⟨tx.toArray⟩), some (.string ⟨t1.toArray⟩), some (.pointer (some ⟨gB, 1, none⟩)), some ((.slice A' m c')), some (.string ⟨ty.toArray⟩), some (.string ⟨t2.toArray⟩), some (.string ⟨t2.toArray⟩), some (.int .i64 0)] : List (Option Value)).getD i none) (fun i v w => True)) (fun i v w w' h hb => ?_) ⟨?_, ?_, ?_, ?_, ?_, ?_, ?_, ?_, ?_, ?_, trivial⟩ ?_
  · unfold phiT at h ⊢
    split
    · next u hu => rw [hu] at h; exact h
    · next hu =>
      rw [hu] at h
      exact True.intro
  · intro x w1 bA hT hdep hold hb
    refine .inl ⟨trivial, ?_⟩
    have e1 : bA.tmps[1]?.getD undef = .pointer (some ⟨gB, 0, none⟩) := hb 1
    refine phx_run (.pointer (some ⟨gB, 0, none⟩)) ?_ (Below.refl _ _) rfl
    clear hb hdep hold
    go_simp
  · intro x w1 bA hT hdep hold hb
    refine .inl ⟨trivial, ?_⟩
    have e7 : bA.tmps[7]?.getD undef = .pointer (some ⟨gB, 0, none⟩) := (hb 7).trans (hdep 0 (by decide))
    have cc := HQ4.out.below hT HQ4.out.lt
    have cc0 := cc.cell 0
    have cc1 := cc.cell 1
    clear cc
    refine phx_run (.slice A n c) ?_ (Below.refl _ _) rfl
    clear hb hdep hold
    go_simp
  · intro x w1 bA hT hdep hold hb
    refine .inl ⟨trivial, ?_⟩
    have e8 : bA.tmps[8]?.getD undef = .slice A n c := (hb 8).trans (hdep 1 (by decide))
    refine phx_call ?_ ((HLX.out w1 (HB4.out.trans (hT.mono HB4.out.size))).mono fun e w' h => ⟨_, h.1, h.2, rfl⟩)
    clear hb hdep hold
    go_simp
  · intro x w1 bA hT hdep hold hb
    refine .inl ⟨trivial, ?_⟩
    have e9 : bA.tmps[9]?.getD undef = .string ⟨tx.toArray⟩ := (hb 9).trans (hdep 2 (by decide))
    have lz := L1.out
    have hc := C1.out
    refine phx_run (.string ⟨t1.toArray⟩) ?_ (Below.refl _ _) rfl
    clear hb hdep hold
    go_simp
  · intro x w1 bA hT hdep hold hb
    refine .inl ⟨trivial, ?_⟩
    have e1 : bA.tmps[1]?.getD undef = .pointer (some ⟨gB, 0, none⟩) := hb 1
    refine phx_run (.pointer (some ⟨gB, 1, none⟩)) ?_ (Below.refl _ _) rfl
    clear hb hdep hold
    go_simp
  · intro x w1 bA hT hdep hold hb
    refine .inl ⟨trivial, ?_⟩
    have e11 : bA.tmps[11]?.getD undef = .pointer (some ⟨gB, 1, none⟩) := (hb 11).trans (hdep 4 (by decide))
    have cc := HQ4.out.below hT HQ4.out.lt
    have cc0 := cc.cell 0
    have cc1 := cc.cell 1
    clear cc
    refine phx_run ((.slice A' m c')) ?_ (Below.refl _ _) rfl
    clear hb hdep hold
    go_simp
  · intro x w1 bA hT hdep hold hb
    refine .inl ⟨trivial, ?_⟩
    have e12 : bA.tmps[12]?.getD undef = (.slice A' m c') := (hb 12).trans (hdep 5 (by decide))
    refine phx_call ?_ ((HLO.out w1 (HB4.out.trans (hT.mono HB4.out.size))).mono fun e w' h => ⟨_, h.1, h.2, rfl⟩)
    clear hb hdep hold
    go_simp
  · intro x w1 bA hT hdep hold hb
    refine .inl ⟨trivial, ?_⟩
    have e10 : bA.tmps[10]?.getD undef = .string ⟨t1.toArray⟩ := (hb 10).trans (hdep 3 (by decide))
    have e13 : bA.tmps[13]?.getD undef = .string ⟨ty.toArray⟩ := (hb 13).trans (hdep 6 (by decide))
    have lz := L2.out
    have hc := C2.out
    refine phx_run (.string ⟨t2.toArray⟩) ?_ (Below.refl _ _) rfl
    clear hb hdep hold
    go_simp
  · intro x w1 bA hT hdep hold hb
    refine .inl ⟨trivial, ?_⟩
    have e14 : bA.tmps[14]?.getD undef = .string ⟨t2.toArray⟩ := (hb 14).trans (hdep 7 (by decide))
    refine phx_run (.string ⟨t2.toArray⟩) ?_ (Below.refl _ _) rfl
    clear hb hdep hold
    go_simp
  · intro x w1 bA hT hdep hold hb
    refine .inl ⟨trivial, ?_⟩
    refine phx_run (.int .i64 0) ?_ (Below.refl _ _) rfl
    clear hb hdep hold
    go_simp
  intro x w1 hT hall
  have x0e : x 0 = .pointer (some ⟨gB, 0, none⟩) := hall 0 (by decide)
  have x1e : x 1 = .slice A n c := hall 1 (by decide)
  have x2e : x 2 = .string ⟨tx.toArray⟩ := hall 2 (by decide)
  have x3e : x 3 = .string ⟨t1.toArray⟩ := hall 3 (by decide)
  have x4e : x 4 = .pointer (some ⟨gB, 1, none⟩) := hall 4 (by decide)
  have x5e : x 5 = (.slice A' m c') := hall 5 (by decide)
  have x6e : x 6 = .string ⟨ty.toArray⟩ := hall 6 (by decide)
  have x7e : x 7 = .string ⟨t2.toArray⟩ := hall 7 (by decide)
  have x8e : x 8 = .string ⟨t2.toArray⟩ := hall 8 (by decide)
  have x9e : x 9 = .int .i64 0 := hall 9 (by decide)
  simp only [putAll, dstOf, Act.put, List.map_cons, List.map_nil, List.setIfInBounds_toArray, List.set_cons_succ, List.set_cons_zero, Nat.reduceAdd, x0e, x1e, x2e, x3e, x4e, x5e, x6e, x7e, x8e, x9e]
  clear x0e x1e x2e x3e x4e x5e x6e x7e x8e x9e hall
  have HB5 := Lib.hid (HB4.out.trans (hT.mono HB4.out.size))
  clear hT
  go_wp2_with fail
  go_ret2
  exact ⟨by rw [HG2.out]; rfl, HB5.out⟩
/-- a grid in memory -/
def GdI (w : World) (v : Value) (g : Gd) : Prop := ∃ A n c B m d, v = .agg #[.slice A n c, .slice B m d] ∧ Ints w (.slice A n c) g.1 ∧ Ints w (.slice B m d) g.2
theorem GdI.below {w w' : World} {v : Value} {g : Gd} (h : GdI w v g) (hb : Below w.heap.size w w') : GdI w' v g := by
  obtain ⟨A, n, c, B, m, d, e, h1, h2⟩ := h
  exact ⟨A, n, c, B, m, d, e, h1.below hb, h2.below hb⟩
/-- a write to a block without integers -/
theorem Ints.away {w : World} {v : Value} {xs : List Int} {g i : Nat} {t : TypeId} {cs : List Value} (h : Ints w v xs) (hg : Arr w g t cs) (hn : ∀ (j : Nat) (x : Int), cs[j]? ≠ some (Value.int .i64 x)) (u : Value) : Ints (w.setCell ⟨g, i, none⟩ u) v xs := by
  obtain ⟨A, c, e, hc, hx⟩ := h
  refine ⟨A, c, e, hc, fun k x hk => ?_⟩
  obtain ⟨b, o, hA, hcell⟩ := hx k x hk
  refine ⟨b, o, hA, ?_⟩
  have hne : b ≠ g := fun eb => by
    subst eb
    have := hg.cell (o + k)
    rw [hcell] at this
    exact hn _ _ this.symm
  exact (World.cell?_of_block (Below.heap_setCell w ⟨g, i, none⟩ u b hne)).trans hcell
set_option maxHeartbeats 4000000 in
set_option maxRecDepth 100000 in
theorem class_any (v : Value) (g : Gd) (w : World) (h : GdI w v g) (hv : Vd g.1 g.2) (ht : Tb w) :
    Calls Tryz.prog 30 #[v] w fun e w' => ∃ u, e = .returned (.tuple #[u, .string ⟨(fmG (lstM g)).toArray⟩]) ∧ GdI w' u (lstM g) ∧ Below w.heap.size w w' := by
  obtain ⟨X, O⟩ := g
  obtain ⟨A, n, c, B, m, d, rfl, hX, hO⟩ := h
  have HLC := Lib.hid (fun W (hb : Below w.heap.size w W) => least_any (.slice A n c) (.slice B m d) X O W (hX.below hb) (hO.below hb) hv)
  have HT := Lib.hid (fun W (hb : Below w.heap.size w W) => ht.below hb)
  have HVD := Lib.hid (lstM_vd hv)
  have HLM := Lib.hid (fun p (h : IsL X O X.length p) => lstM_of (Nat.lt_of_lt_of_le (by decide) hv.two) h)
  have hal := ((Below.refl w.heap.size w).alloc (Nat.le_refl _) (.cells #[.slice A n c, .slice B m d] 24)).alloc (by simp) (.cells #[.slice none 0 0, .slice none 0 0] 24)
  have HB := Lib.hid hal
  have HQ := Lib.hid (show Arr ((w.alloc (.cells #[.slice A n c, .slice B m d] 24)).alloc (.cells #[.slice none 0 0, .slice none 0 0] 24)) w.heap.size 24 [.slice A n c, .slice B m d] from (Arr.new w _ [_, _]).alloc _)
  have HR := Lib.hid (show Arr ((w.alloc (.cells #[.slice A n c, .slice B m d] 24)).alloc (.cells #[.slice none 0 0, .slice none 0 0] 24)) (w.heap.size + 1) 24 [.slice none 0 0, .slice none 0 0] from Arr.newAt (w.alloc _) _ [_, _] _ (by simp))
  clear hX hO hv ht hal
  go_enter Tryz.func30, Tryz.ntmps30
  go_upto_region 1 with fail
  obtain ⟨w3, hw3⟩ : ∃ W', W' = (w.alloc (.cells #[.slice A n c, .slice B m d] 24)).alloc (.cells #[.slice none 0 0, .slice none 0 0] 24) := ⟨_, rfl⟩
  rw [← hw3] at HB HQ HR ⊢
  clear hw3
  have y0 := HQ.out.cell 0
  have y1 := HQ.out.cell 1
  have HLD := Lib.hid (HLC.out w3 HB.out)
  go_wp2_with fail
  refine HLD.out.mono ?_
  rintro e w4 ⟨p, A0, c0, A1, c1, rfl, hrd, hil, hb4⟩
  obtain ⟨r1, r2⟩ := hrd
  have hpe := HLM.out p hil
  subst hpe
  have HR4 := Lib.hid (HR.out.below hb4 HR.out.lt)
  have HB4 := Lib.hid (HB.out.trans (hb4.mono HB.out.size))
  have hal := (Below.refl w4.heap.size w4).alloc (Nat.le_refl _) (.cells #[.slice A0 X.length c0, .slice A1 X.length c1] 24)
  have HQ5 := Lib.hid (show Arr (w4.alloc (.cells #[.slice A0 X.length c0, .slice A1 X.length c1] 24)) w4.heap.size 24 [.slice A0 X.length c0, .slice A1 X.length c1] from Arr.new w4 _ [_, _])
  have HR5 := Lib.hid (HR4.out.below hal HR4.out.lt)
  have HB5 := Lib.hid (HB4.out.trans (hal.mono HB4.out.size))
  have HX5 := Lib.hid (r1.below hal)
  have HO5 := Lib.hid (r2.below hal)
  clear r1 r2 hil hb4 hal y0 y1 HLD HLC HLM
  go_upto_region 2 with fail
  obtain ⟨w5, hw5⟩ : ∃ W', W' = w4.alloc (.cells #[.slice A0 X.length c0, .slice A1 X.length c1] 24) := ⟨_, rfl⟩
  rw [← hw5] at HQ5 HR5 HB5 HX5 HO5 ⊢
  obtain ⟨gL, hgL⟩ : ∃ g, g = w4.heap.size := ⟨_, rfl⟩
  rw [← hgL] at HQ5 ⊢
  clear hw5 hgL
  have y0 := HQ5.out.cell 0
  have y1 := HQ5.out.cell 1
  have HFD := Lib.hid (format_any (.slice A0 X.length c0) (.slice A1 X.length c1) (lstM (X, O)).1 (lstM (X, O)).2 w5 HX5.out HO5.out HVD.out (HT.out w5 HB5.out))
  go_wp2_with fail
  refine HFD.out.mono ?_
  rintro e w6 ⟨rfl, hb6⟩
  have qL := HQ5.out.below hb6 HQ5.out.lt
  have qR := HR5.out.below hb6 HR5.out.lt
  have HX6 := Lib.hid (HX5.out.below hb6)
  have HO6 := Lib.hid (HO5.out.below hb6)
  have HB6 := Lib.hid (HB5.out.trans (hb6.mono HB5.out.size))
  clear y0 y1 HFD hb6
  have y0 := qL.cell 0
  have y1 := qL.cell 1
  have z0 := qR.cell 0
  have z1 := qR.cell 1
  have f0 := qR.frozen 0
  have f1 := qR.frozen 1
  have HRZ := Lib.hid ((qR.set 0 (.slice A0 X.length c0)).set 1 (.slice A1 X.length c1))
  have HXZ := Lib.hid qR
  clear qL qR
  go_wp2_with fail
  refine bodyPost_ret (v := .tuple #[.agg #[.slice A0 X.length c0, .slice A1 X.length c1], .string ⟨(fmG (lstM (X, O))).toArray⟩]) (results_ct Tryz.results30 _ _ (w.heap.size + 1) 24 _ _ rfl HRZ.out Tryz.underlying24 rfl info_grid) rfl ?_
  refine ⟨_, rfl, ⟨A0, X.length, c0, A1, X.length, c1, rfl, ?_, ?_⟩, bset2 HB6.out (by omega)⟩
  · exact (HX6.out.away HXZ.out (fun j x => by rcases j with _ | _ | j <;> simp) _).away (HXZ.out.set 0 _) (fun j x => by rcases j with _ | _ | j <;> simp) _
  · exact (HO6.out.away HXZ.out (fun j x => by rcases j with _ | _ | j <;> simp) _).away (HXZ.out.set 0 _) (fun j x => by rcases j with _ | _ | j <;> simp) _
end Go.Proofs.YteliflcbegcdlaaGreatDoor
