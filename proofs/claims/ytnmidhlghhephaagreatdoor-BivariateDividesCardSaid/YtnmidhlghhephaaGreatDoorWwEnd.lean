/- strings.Builder: copyCheck, WriteByte, WriteString (the shelf's do not lie over this dump). -/
/- A region that draws its order, whose operations leave what was there as it is (they may make memory and call): each operation is walked once; of each result a fact that later growth keeps. -/
/- A region that draws its order, with one store into memory that it has made, and operations that compute alone before or behind it. -/
/- Products of Laurent polynomials: plain. -/
/- A region that draws its order, whose operations leave what was there as it is (they may make memory and call), but for a store at its end: each operation is walked once. -/
/- Exact division of Laurent polynomials, whose divisor begins with 1: plain. -/
/- Division by the powers of t^-1 - t as partial sums: plain. -/
/- XPhi for a region with guards ('&&', '||') that are all met: each operation is walked once; of a guarded one it is shown that its guard holds. -/
/- A region that draws its order: each operation is walked once; a relation T between worlds tells what the operations keep; guards are met or not; with or without a store at its end. -/
/- A region that draws its order, reads, appends one element to an own slice and stores the slice back. -/
/- XPhl with late operations that take up what a property tells. -/
/- The end of a region that draws its order, where one slot alone is read afterwards. -/
import Derived.Test.YtnmidhlghhephaaGreatDoorWwShelf
import Derived.Test.YtnmidhlghhephaaGreatDoorWwPsu
import Derived.Shelf.Strings.Builder1
namespace Go.Proofs.YtnmidhlghhephaaGreatDoor
open Go.RowKit
set_option linter.unusedVariables false
abbrev IsB (B b : Nat) (bs : List Value) (w : World) : Prop := Lib.IsBuilder 80 5 B b bs w
set_option maxHeartbeats 1000000 in
set_option maxRecDepth 100000 in
theorem bld_used (b : Nat) (w : World) (h0 : w.cell? ⟨b, 0, none⟩ = some (.pointer (some ⟨b, 0, none⟩))) :
    Calls Tryz.prog 67 #[.pointer (some ⟨b, 0, none⟩)] w fun e w' => e = .returned (.tuple #[]) ∧ w' = w := by
  obtain ⟨j, hj, _⟩ := Option.map_eq_some_iff.1 Tryz.Builder_Extra_169.sizeBuilder
  go_enter Tryz.func67, Tryz.ntmps67
  go_wp2_with fail
  rw [Lib.run_neq_ptr_same w _ Tryz.underlying77 hj]
  go_wp2_with fail
  go_end0
  exact ⟨rfl, rfl⟩
set_option maxHeartbeats 1000000 in
set_option maxRecDepth 100000 in
theorem bld_fresh (b : Nat) (w : World) (h0 : w.cell? ⟨b, 0, none⟩ = some (.pointer none)) (hsh : w.shape? b = some (80, 2)) (hfz : w.frozen? ⟨b, 0, none⟩ = false) :
    Calls Tryz.prog 67 #[.pointer (some ⟨b, 0, none⟩)] w fun e w' => e = .returned (.tuple #[]) ∧ w' = w.setCell ⟨b, 0, none⟩ (.pointer (some ⟨b, 0, none⟩)) := by
  obtain ⟨j, hj, hjs⟩ := Option.map_eq_some_iff.1 Tryz.Builder_Extra_169.sizeBuilder
  go_enter Tryz.func67, Tryz.ntmps67
  go_wp2_with fail
  rw [Lib.run_to_unsafe w ⟨b, 0, none⟩ Tryz.underlying77 Tryz.underlying120 hj (by rw [hjs]; decide) hsh (Nat.zero_lt_succ 1)]
  simp only [Result.andThen]
  rw [Oper.upon_value]
  go_wp2_with fail
  rw [run_callFunc_extern Tryz.func81 (by kernel_rfl) (by kernel_rfl) (by kernel_rfl) (e := Extern.AbiNoEscape.same) (by kernel_rfl)]
  rw [Lib.run_noEscape]
  simp only [Result.andThen]
  rw [Oper.upon_value]
  go_wp2_with fail
  rw [Lib.run_from_unsafe w ⟨b, 0, none⟩ Tryz.underlying120 Tryz.underlying77 hj hsh Tryz.Builder_Extra_169.liesBuilder]
  simp only [Result.andThen]
  rw [Oper.upon_value]
  go_wp2_with fail
  go_end0
  exact ⟨rfl, rfl⟩
/-- blocks of other types than bytes are kept, but for the builder's own -/
def KeepB (b : Nat) (w w' : World) : Prop := ∀ g t cs, Arr w g t cs → t ≠ 5 → g ≠ b → Arr w' g t cs
theorem KeepB.refl (b : Nat) (w : World) : KeepB b w w := fun _ _ _ h _ _ => h
theorem KeepB.set {b : Nat} {w w' : World} (h : KeepB b w w') (i : Nat) (v : Value) : KeepB b w (w'.setCell ⟨b, i, none⟩ v) := fun g t cs ha ht hg => (Below.heap_setCell w' ⟨b, i, none⟩ v g hg).trans (h g t cs ha ht hg)
theorem KeepB.trans {b : Nat} {w1 w2 w3 : World} (h : KeepB b w1 w2) (k : KeepB b w2 w3) : KeepB b w1 w3 := fun g t cs ha ht hg => k g t cs (h g t cs ha ht hg) ht hg
theorem KeepB.below {b : Nat} {w1 w2 w3 : World} (h : KeepB b w1 w2) (k : Below w2.heap.size w2 w3) : KeepB b w1 w3 := fun g t cs ha ht hg => (h g t cs ha ht hg).below k (h g t cs ha ht hg).lt
theorem bld_apart {base n g : Nat} {w : World} {v : Value} {xs cs : List Value} {t : TypeId} (h : w.ownsRow base 5 1 v n xs) (hg : Arr w g t cs) (hne : t ≠ 5) : v.ownBlock ≠ some g := by
  intro hk
  rcases h.2 with ⟨rfl, h0⟩ | ⟨k, cap, cur, rfl, _, hh, r⟩
  · simp [Value.ownBlock] at hk
  · simp [Value.ownBlock] at hk
    subst hk
    unfold Arr at hg
    rw [hg] at hh
    injection hh with hh
    injection hh with _ h2 _
    exact hne h2
theorem KeepB.grown {b base n : Nat} {w w' w'' : World} {v : Value} {xs : List Value} (h : KeepB b w w') (ho : w'.ownsRow base 5 1 v n xs) (hg : w'.grownBy w'' v.ownBlock) : KeepB b w w'' := fun g t cs ha ht hgb =>
  (hg.block g (h g t cs ha ht hgb).lt (fun e => bld_apart ho (h g t cs ha ht hgb) ht e.symm)).trans (h g t cs ha ht hgb)
theorem bld_check (B b : Nat) (bs : List Value) (w : World) (h : IsB B b bs w) :
    Calls Tryz.prog 67 #[.pointer (some ⟨b, 0, none⟩)] w fun e w' => e = .returned (.tuple #[]) ∧ (Lib.BuilderAt 80 5 B b (.pointer (some ⟨b, 0, none⟩)) bs w' ∧ Below B w w' ∧ KeepB b w w') := by
  rcases h with h | h
  · refine (bld_fresh b w h.cell0 h.shape h.frozen0).mono ?_
    rintro e w' ⟨rfl, rfl⟩
    exact ⟨rfl, h.used _, (Below.refl B w).setCell (p := ⟨b, 0, none⟩) h.1 _, (KeepB.refl b w).set 0 _⟩
  · refine (bld_used b w h.cell0).mono ?_
    rintro e w' ⟨rfl, rfl⟩
    exact ⟨rfl, h, Below.refl B _, KeepB.refl b _⟩
theorem bld_slice {base : Nat} {w : World} {v : Value} {n : Nat} {xs : List Value} (h : w.ownsRow base 5 1 v n xs) : ∃ A n' c, v = .slice A n' c := by
  rcases h.2 with ⟨hv, _⟩ | ⟨g, cap, cur, hv, _⟩
  · exact ⟨_, _, _, hv⟩
  · exact ⟨_, _, _, hv⟩
theorem bld_lt {w : World} {b : Nat} {o : Obj} (h : w.heap[b]? = some o) : b < w.heap.size := by
  rcases Nat.lt_or_ge b w.heap.size with q | q
  · exact q
  · rw [Array.getElem?_eq_none q] at h; cases h
theorem bld_c0 {w : World} {b : Nat} {p v : Value} (h : w.heap[b]? = some (.cells #[p, v] 80 (0, 0))) : w.cell? ⟨b, 0, none⟩ = some p ∧ w.cell? ⟨b, 1, none⟩ = some v ∧ w.frozen? ⟨b, 1, none⟩ = false :=
  ⟨by rw [Lib.cell_of_heap h]; rfl, by rw [Lib.cell_of_heap h]; rfl, Lib.frozen_of_heap h 1⟩
set_option maxHeartbeats 2000000 in
set_option maxRecDepth 100000 in
theorem bld_string (B b : Nat) (bs : List Value) (s : ByteArray) (w : World) (h : IsB B b bs w) (hlen : bs.length + s.size ≤ 100000000000) (hBw : B ≤ w.heap.size) :
    Calls Tryz.prog 41 #[.pointer (some ⟨b, 0, none⟩), .string s] w fun e w' => e = .returned (.tuple #[.int .i64 s.size, .nilIface]) ∧ IsB B b (bs ++ Lib.strCells s) w' ∧ Below B w w' ∧ KeepB b w w' := by
  have HC := Lib.hid (bld_check B b bs w h)
  obtain ⟨i0, hi, hz0, hz1, hz2⟩ := info_parts Tryz.Builder_Extra_169.infoByte
  clear h
  go_enter Tryz.func41, Tryz.ntmps41
  go_wp2_with fail
  refine HC.out.mono ?_
  rintro e w1 ⟨rfl, ⟨hB, v, hbk, hown, hne⟩, hb1, hk1⟩
  obtain ⟨c0, c1, _⟩ := bld_c0 hbk
  have hs1 := hb1.size
  go_wp2_with (at_builtin; refine Lib.wpList_append_own_string _ rfl _ _ 78 9 rfl B 5 i0 Tryz.underlying78 Tryz.underlying9 hi hz0 hz1 hz2 _ _ _ rfl hown s rfl (by unfold maxLen; omega) (by omega) (by omega) ?_)
  intro v' w2 hown' hgrow _
  have hb2 : w2.heap[b]? = some (.cells #[.pointer (some ⟨b, 0, none⟩), v] 80 (0, 0)) := (hgrow.block b (bld_lt hbk) (fun e => hne e.symm)).trans hbk
  obtain ⟨d0, d1, f1⟩ := bld_c0 hb2
  have HK := Lib.hid ((hk1.grown hown hgrow).set 1 v')
  have HO := Lib.hid (And.intro hown' (And.intro hb2 ((hb1.grown hgrow (by omega) (fun k hk => (hown.lt k hk).1)).setCell (p := ⟨b, 1, none⟩) hB v')))
  obtain ⟨A', n', c', rfl⟩ := bld_slice hown'
  clear hown hown' hgrow hbk hb2 c0 c1 hb1 hk1
  go_wp2_with fail
  go_ret2
  exact ⟨rfl, .inr (Lib.BuilderAt.put (T := 80) (e := 5) hB HO.out.2.1 (bs' := bs ++ Lib.strCells s) (by simpa [Lib.strCells_length] using HO.out.1) (by decide)), HO.out.2.2, HK.out⟩
set_option maxHeartbeats 2000000 in
set_option maxRecDepth 100000 in
theorem bld_byte (B b : Nat) (bs : List Value) (x : Int) (w : World) (h : IsB B b bs w) (hlen : bs.length ≤ 100000000000) (hBw : B ≤ w.heap.size) :
    Calls Tryz.prog 42 #[.pointer (some ⟨b, 0, none⟩), .int .u8 x] w fun e w' => e = .returned .nilIface ∧ IsB B b (bs ++ [.int .u8 x]) w' ∧ Below B w w' ∧ KeepB b w w' := by
  have HC := Lib.hid (bld_check B b bs w h)
  obtain ⟨i0, hi, hz0, hz1, hz2⟩ := info_parts Tryz.Builder_Extra_169.infoByte
  clear h
  go_enter Tryz.func42, Tryz.ntmps42
  go_wp2_with fail
  refine HC.out.mono ?_
  rintro e w1 ⟨rfl, ⟨hB, v, hbk, hown, hne⟩, hb1, hk1⟩
  obtain ⟨c0, c1, _⟩ := bld_c0 hbk
  have hs1 := hb1.size
  have hlb := bld_lt hbk
  go_wp2_with (at_builtin; refine wpList_append_own _ rfl _ _ 78 rfl B 5 i0 (.int .u8 0) 1 1 Tryz.underlying78 hi hz0 hz1 hz2 rfl (by decide) _ _ _ rfl (hown.alloc _) ⟨w1.heap.size, 0, none⟩ 1 1 [.int .u8 x] rfl rfl ?c1 ?c2 ?c3 ?c4 ?c5 ?_)
  case c1 =>
    intro j u hj
    match j, hj with
    | 0, hj => simp at hj; subst hj; simp [Addr.add]
  case c2 => intro u hu; simp at hu; subst hu; rfl
  case c3 => unfold maxLen; omega
  case c4 => omega
  case c5 => simp; omega
  intro v' w2 hown' hgrow _
  have hb2 : w2.heap[b]? = some (.cells #[.pointer (some ⟨b, 0, none⟩), v] 80 (0, 0)) := ((hgrow.block b (by simp; omega) (fun e => hne e.symm)).trans (Lib.alloc_old w1 _ b hlb)).trans hbk
  obtain ⟨d0, d1, f1⟩ := bld_c0 hb2
  have HK := Lib.hid (((hk1.below ((Below.refl _ _).alloc (Nat.le_refl _) _)).grown (hown.alloc _) hgrow).set 1 v')
  have HO := Lib.hid (And.intro hown' (And.intro hb2 (((hb1.alloc (by omega) _).grown hgrow (by simp; omega) (fun k hk => (hown.lt k hk).1)).setCell (p := ⟨b, 1, none⟩) hB v')))
  obtain ⟨A', n', c', rfl⟩ := bld_slice hown'
  clear hown hown' hgrow hbk hb2 c0 c1 hb1 hk1
  go_wp2_with fail
  go_ret
  exact ⟨rfl, .inr (Lib.BuilderAt.put (T := 80) (e := 5) hB HO.out.2.1 (bs' := bs ++ [.int .u8 x]) (by simpa using HO.out.1) (by decide)), HO.out.2.2, HK.out⟩
end Go.Proofs.YtnmidhlghhephaaGreatDoor

namespace Go.Proofs.YtnmidhlghhephaaGreatDoor
open Go.RowKit
set_option linter.unusedVariables false
section
variable {P : Program} {ops : Array Oper} {Q : Exit → Act → World → Prop}
/-- The region by facts. 'x i' is the value of operation i, 'D i' says that it has come up. -/
theorem wp_region_facts2 {id : Nat} {a : Act} {w : World} (hm : P.follows .mixedOrders = true) (hd : apartD (dstOf ops) = true) (hb : backD ops = true)
    (I : (Nat → Bool) → (Nat → Value) → World → Prop)
    (h0 : I (fun _ => false) (fun j => slotV a ((dstOf ops).getD (j - 0) none)) w.drew)
    (hstep : ∀ i o, ops[i]? = some o → ∀ D x w, I D x w → D i = false → (∀ j ∈ deps o, D j = true) → (∀ j, D j = true → ∀ k ∈ depsAt ops j, D k = true) → wpOp P ops Q i (fun a' w' => ∃ v, a' = (putAll (dstOf ops) 0 x a).put o.dst v ∧ I (upd D i true) (upd x i v) w') (putAll (dstOf ops) 0 x a) w)
    (hend : ∀ D x w, I D x w → (∀ i, i < ops.size → D i = true) → Q .normal (putAll (dstOf ops) 0 x a) w) : (Code.region id ops true).wp P Q a w := by
  refine wp_region_any hm (wpAny_inv hb (fun l a' w' => ∃ x, a' = putAll (dstOf ops) 0 x a ∧ (∀ j, l.getD j false = true → ∀ k ∈ depsAt ops j, l.getD k false = true) ∧ I (fun j => l.getD j false) x w') ?_ ?_ _ _ _ _ (by simp) ?_ ?_)
  · rintro l a' w' i hs ⟨x, rfl, hcl, hI⟩ hi
    obtain ⟨hun, o, ho, hdep⟩ := mem_ready.1 hi
    have hlt : i < ops.size := (Array.getElem?_eq_some_iff.1 ho).1
    have hdi : (dstOf ops).getD i none = o.dst := by
      have : ops[i] = o := by simpa [hlt] using ho
      simp [dstOf, hlt, this]
    have hdp : ∀ j ∈ deps o, l.getD j false = true := by
      intro j hj
      simp only [deps, List.mem_map, List.mem_filter] at hj
      obtain ⟨e, ⟨he, hbe⟩, rfl⟩ := hj
      exact hdep e (by simpa using he) hbe
    refine wpOp_mono ?_ (hstep i o ho (fun j => l.getD j false) x w' hI (by have h' : i < l.size := by omega
                                                                            simpa [Array.getD, h'] using hun) hdp hcl)
    · rintro a'' w'' ⟨v, rfl, hI'⟩
      refine ⟨upd x i v, ?_, ?_, ?_⟩
      · rw [← hdi, putAll_upd _ _ _ _ _ _ hd (by simpa [dstOf] using hlt), Nat.zero_add]
      · intro j hj k hk
        by_cases e : k = i
        · subst e
          have h' : k < l.size := by omega
          simp [Array.getD, h']
        rw [getD_set_ne _ (Ne.symm e)]
        by_cases ej : j = i
        · subst ej
          simp only [depsAt, ho] at hk
          exact hdp k hk
        · rw [getD_set_ne _ (Ne.symm ej)] at hj
          exact hcl j hj k hk
      · have : (fun j => (l.setIfInBounds i true).getD j false) = upd (fun j => l.getD j false) i true := by
          funext j
          by_cases e : j = i
          · subst e
            have h' : j < l.size := by omega
            simp [upd, Array.getD, h']
          · rw [upd_ne _ _ e, getD_set_ne _ (Ne.symm e)]
        rw [this]
        exact hI'
  · rintro l a' w' hs ⟨x, rfl, _, hI⟩ hall
    refine hend _ x w' hI (fun i hi => ?_)
    have := hall i hi
    cases hl : l.getD i false with
    | true => rfl
    | false => 
      rcases Nat.lt_or_ge i l.size with h' | h'
      · simp [Array.getD, h'] at this hl; rw [this] at hl; cases hl
      · omega
  · exact Nat.le_trans List.countP_le_length (by simp)
  · refine ⟨_, (putAll_start _ 0 a hd).symm, fun j hj => ?_, ?_⟩
    · by_cases h : j < ops.size <;> simp [Array.getD, h] at hj
    have : (fun j => (Array.replicate ops.size false).getD j false) = fun _ => false := by
      funext j
      by_cases h : j < ops.size <;> simp [Array.getD, h]
    rw [this]
    exact h0
/-- the region by facts, no operation guarded -/
theorem wp_region_facts2U {id : Nat} {l : List Oper} {a : Act} {w : World} (hm : P.follows .mixedOrders = true) (hd : apartD (dstOf l.toArray) = true) (hb : backD l.toArray = true) (hg : l.all (fun o => o.guard.isNone) = true) (hn : inD a.tmps.size (dstOf l.toArray) = true)
    (I : (Nat → Bool) → (Nat → Value) → World → Prop)
    (h0 : I (fun _ => false) (fun j => slotV a ((dstOf l.toArray).getD (j - 0) none)) w.drew)
    (hstep : AllOps (fun i o => ∀ D x w (b : Act), I D x w → D i = false → (∀ j ∈ deps o, D j = true) → (∀ j, D j = true → ∀ k ∈ depsAt l.toArray j, D k = true) → (∀ t : Nat, b.tmps[t]?.getD undef = look (dstOf l.toArray) x a t) → o.wp P b w (StepPost I D x i b o.dst) NoQ) 0 l)
    (hend : ∀ D x w, I D x w → (∀ i, i < l.length → D i = true) → Q .normal (putAll (dstOf l.toArray) 0 x a) w) : (Code.region id l.toArray true).wp P Q a w := by
  refine wp_region_facts2 hm hd hb I h0 (fun i o ho D x w hI hD hdep hcl => ?_) (fun D x w hI h => hend D x w hI (by simpa using h))
  have ho' : l[i]? = some o := by simpa using ho
  refine wpOp_plain ho ?_ ?_
  · have := List.all_eq_true.1 hg o (List.mem_of_getElem? ho')
    simpa using this
  · have := hstep.get _ _ i o ho' D x w (putAll (dstOf l.toArray) 0 x a)
    rw [Nat.zero_add] at this
    refine wp_noQ (this hI hD hdep hcl (fun t => ?_))
    rw [← Array.getD_eq_getD_getElem?, putAll_look _ _ _ _ _ hd hn]
    unfold look
    simp only [Nat.zero_add]
end
section
variable {P : Program} {Q : Exit → Act → World → Prop}
/-- behind one operation -/
def PhiPost (w : World) (Φ : Nat → Value → World → Prop) (i : Nat) (b : Act) (d : Option Tmp) (a' : Act) (w' : World) : Prop := ∃ v, a' = b.put d v ∧ Below w.heap.size w w' ∧ Φ i v w'
def PhiI (w0 : World) (Φ : Nat → Value → World → Prop) (x0 : Nat → Value) (D : Nat → Bool) (x : Nat → Value) (w : World) : Prop := Below w0.heap.size w0 w ∧ (∀ i, D i = true → Φ i (x i) w) ∧ ∀ i, D i = false → x i = x0 i
theorem wp_region_phi {id : Nat} {l : List Oper} {a : Act} {w0 : World} (hm : P.follows .mixedOrders = true) (hd : apartD (dstOf l.toArray) = true) (hb : backD l.toArray = true) (hg : l.all (fun o => o.guard.isNone) = true) (hn : inD a.tmps.size (dstOf l.toArray) = true)
    (Φ : Nat → Value → World → Prop) (hΦ : ∀ i v w w', Φ i v w → Below w.heap.size w w' → Φ i v w')
    (hstep : AllOps (fun i o => ∀ (x : Nat → Value) w (b : Act), Below w0.heap.size w0 w → (∀ j ∈ deps o, Φ j (x j) w) → (∀ j, i ∈ depsAt l.toArray j → x j = slotV a ((dstOf l.toArray).getD (j - 0) none)) → (∀ t : Nat, b.tmps[t]?.getD undef = look (dstOf l.toArray) x a t) → o.wp P b w (PhiPost w Φ i b o.dst) NoQ) 0 l)
    (hend : ∀ (x : Nat → Value) w, Below w0.heap.size w0 w → (∀ i, i < l.length → Φ i (x i) w) → Q .normal (putAll (dstOf l.toArray) 0 x a) w) : (Code.region id l.toArray true).wp P Q a w0 := by
  refine wp_region_facts2U hm hd hb hg hn (PhiI w0 Φ (fun j => slotV a ((dstOf l.toArray).getD (j - 0) none))) ⟨(Below.refl _ _).drew, fun i h => Bool.noConfusion h, fun _ _ => rfl⟩ ?_ ?_
  · have key : ∀ k o, l[k]? = some o → ∀ D x W (b : Act), PhiI w0 Φ (fun j => slotV a ((dstOf l.toArray).getD (j - 0) none)) D x W → D k = false → (∀ j ∈ deps o, D j = true) → (∀ j, D j = true → ∀ q ∈ depsAt l.toArray j, D q = true) → (∀ t : Nat, b.tmps[t]?.getD undef = look (dstOf l.toArray) x a t) → o.wp P b W (StepPost (PhiI w0 Φ (fun j => slotV a ((dstOf l.toArray).getD (j - 0) none))) D x k b o.dst) NoQ := by
      intro k o ho D x W b hI hD hdep hcl hbt
      have hs := hstep.get _ _ k o ho x W b hI.1 (fun j hj => hI.2.1 j (hdep j hj)) (fun j hj => hI.2.2 j (by
        cases h : D j with
        | false => rfl
        | true =>
          rw [Nat.zero_add] at hj
          have := hcl j h k hj
          rw [hD] at this; cases this)) hbt
      rw [Nat.zero_add] at hs
      refine Oper.wp_mono ?_ hs
      rintro a' w' ⟨v, rfl, hb', hv⟩
      refine ⟨v, rfl, hI.1.trans (hb'.mono hI.1.size), fun i hi => ?_, fun i hi => ?_⟩
      · by_cases e : i = k
        · subst e; rw [upd_same]; exact hv
        · rw [upd_ne _ _ e] at hi ⊢
          exact hΦ i (x i) W w' (hI.2.1 i hi) hb'
      · by_cases e : i = k
        · subst e; rw [upd_same] at hi; cases hi
        · rw [upd_ne _ _ e] at hi ⊢
          exact hI.2.2 i hi
    have aux : ∀ (r : List Oper) (s : Nat), (∀ k, r[k]? = l[s + k]?) → AllOps (fun i o => ∀ D x W (b : Act), PhiI w0 Φ (fun j => slotV a ((dstOf l.toArray).getD (j - 0) none)) D x W → D i = false → (∀ j ∈ deps o, D j = true) → (∀ j, D j = true → ∀ q ∈ depsAt l.toArray j, D q = true) → (∀ t : Nat, b.tmps[t]?.getD undef = look (dstOf l.toArray) x a t) → o.wp P b W (StepPost (PhiI w0 Φ (fun j => slotV a ((dstOf l.toArray).getD (j - 0) none))) D x i b o.dst) NoQ) s r := by
      intro r
      induction r with
      | nil => intro s _; trivial
      | cons o r ih =>
        intro s hr
        refine ⟨key s o (by have := hr 0; simpa using this.symm), ih (s + 1) (fun k => ?_)⟩
        have := hr (k + 1)
        rw [List.getElem?_cons_succ] at this
        rw [this]; congr 1; omega
    exact aux l 0 (fun k => by rw [Nat.zero_add])
  · intro D x W hI hall
    exact hend x W hI.1 (fun i hi => hI.2.1 i (hall i hi))
variable {w : World} {Φ : Nat → Value → World → Prop} {i : Nat} {b : Act} {o : Oper}
theorem phi_run (v : Value) (h : (execOp b.eval o).run P w = .ok (.value v) w) (hv : Φ i v w) : o.wp P b w (PhiPost w Φ i b o.dst) NoQ := by
  unfold Oper.wp; rw [h]; exact ⟨v, rfl, Below.refl _ _, hv⟩
theorem phi_make (v : Value) (w' : World) (h : (execOp b.eval o).run P w = .ok (.value v) w') (hb : Below w.heap.size w w') (hv : Φ i v w') : o.wp P b w (PhiPost w Φ i b o.dst) NoQ := by
  unfold Oper.wp; rw [h]; exact ⟨v, rfl, hb, hv⟩
theorem phi_call {f : FuncId} {args : Array Value} (h : (execOp b.eval o).run P w = .ok (.enter f args) w) (hc : Calls P f args w fun e w' => ∃ v, e = .returned v ∧ Below w.heap.size w w' ∧ Φ i v w') : o.wp P b w (PhiPost w Φ i b o.dst) NoQ := by
  unfold Oper.wp; rw [h]
  simp only [Oper.upon]
  refine hc.mono ?_
  rintro e w' ⟨v, rfl, hb, hv⟩
  exact ⟨v, rfl, hb, hv⟩
/-- the facts of a table: a value for each operation, but for those with a property of their own -/
def phiT (ev : Nat → Option Value) (Ψ : Nat → Value → World → Prop) (i : Nat) (v : Value) (w : World) : Prop := match ev i with | some u => v = u | none => Ψ i v w
end
end Go.Proofs.YtnmidhlghhephaaGreatDoor

namespace Go.Proofs.YtnmidhlghhephaaGreatDoor
open Go.RowKit
set_option linter.unusedVariables false
/-- every operation but the late ones is needed by the store -/
def needL (ops : Array Oper) (n : Nat) (late : Nat → Bool) : Bool := (List.range ops.size).all fun i => decide (i = n) || late i || (List.range ops.size).any fun j => (decide (j = n) || (!late j && decide (i < j))) && (depsAt ops j).contains i
theorem needL_all {ops : Array Oper} {n : Nat} {late : Nat → Bool} (h : needL ops n late = true) {D : Nat → Bool} (hcl : ∀ j, D j = true → ∀ k ∈ depsAt ops j, D k = true) (hn : D n = true) : ∀ q i, i < ops.size → ops.size - i ≤ q → late i = false → D i = true := by
  intro q
  induction q with
  | zero => intro i h1 h2; omega
  | succ q ih =>
    intro i h1 h2 hl
    by_cases e : i = n
    · rw [e]; exact hn
    · have h3 := List.all_eq_true.1 h i (by simpa using h1)
      simp only [Bool.or_eq_true, decide_eq_true_eq, e, hl, false_or, Bool.false_eq_true] at h3
      obtain ⟨j, hj, h4⟩ := List.any_eq_true.1 h3
      simp only [Bool.and_eq_true, Bool.or_eq_true, decide_eq_true_eq, List.contains_iff_mem, Bool.not_eq_true'] at h4
      simp only [List.mem_range] at hj
      rcases h4.1 with e2 | e2
      · subst e2; exact hcl j hn i h4.2
      · exact hcl j (ih j hj (by omega) e2.1) i h4.2
section
variable {P : Program} {Q : Exit → Act → World → Prop}
structure PhlI (w0 : World) (n : Nat) (e : Nat → Option Value) (Φ : Nat → Value → World → Prop) (R : (Nat → Value) → World → Prop) (x0 : Nat → Value) (D : Nat → Bool) (x : Nat → Value) (w : World) : Prop where
  val : ∀ i v, D i = true → e i = some v → x i = v
  old : ∀ i, D i = false → x i = x0 i
  st : if D n = true then R x w else Below w0.heap.size w0 w ∧ ∀ i, D i = true → Φ i (x i) w
theorem wp_region_phil {id : Nat} {l : List Oper} {a : Act} {w0 : World} (n : Nat) (late : Nat → Bool) (hm : P.follows .mixedOrders = true) (hd : apartD (dstOf l.toArray) = true) (hb : backD l.toArray = true) (hg : l.all (fun o => o.guard.isNone) = true) (hn : inD a.tmps.size (dstOf l.toArray) = true)
    (hlt : late n = false) (hnl2 : n < l.length) (hneed : needL l.toArray n late = true)
    (e : Nat → Option Value) (Φ : Nat → Value → World → Prop) (hΦ : ∀ i v w w', Φ i v w → Below w.heap.size w w' → Φ i v w') (hv : ∀ i u v w, Φ i u w → e i = some v → u = v) (R : (Nat → Value) → World → Prop) (hRl : ∀ x w i v, late i = true → R x w → R (upd x i v) w)
    (hstep : AllOps (fun i o => ∀ (x : Nat → Value) w (b : Act), (∀ j, i ∈ depsAt l.toArray j → x j = slotV a ((dstOf l.toArray).getD (j - 0) none)) → (∀ t : Nat, b.tmps[t]?.getD undef = look (dstOf l.toArray) x a t) →
      (late i = false → i ≠ n → Below w0.heap.size w0 w → (∀ j ∈ deps o, Φ j (x j) w) → o.wp P b w (PhiPost w Φ i b o.dst) NoQ) ∧
      (i = n → Below w0.heap.size w0 w → (∀ j ∈ deps o, Φ j (x j) w) → o.wp P b w (fun a' w' => ∃ v, a' = b.put o.dst v ∧ R (upd x n v) w' ∧ ∀ u, e n = some u → v = u) NoQ) ∧
      (late i = true → (∀ j ∈ deps o, ∀ v, e j = some v → x j = v) → ∃ v, e i = some v ∧ (execOp b.eval o).run P w = .ok (.value v) w ∧ Φ i v w)) 0 l)
    (hend : ∀ (x : Nat → Value) w, R x w → (∀ i v, i < l.length → e i = some v → x i = v) → Q .normal (putAll (dstOf l.toArray) 0 x a) w) : (Code.region id l.toArray true).wp P Q a w0 := by
  refine wp_region_facts2U hm hd hb hg hn (PhlI w0 n e Φ R (fun j => slotV a ((dstOf l.toArray).getD (j - 0) none))) ⟨fun i v h => Bool.noConfusion h, fun _ _ => rfl, by rw [if_neg (by simp)]; exact ⟨(Below.refl _ _).drew, fun i h => Bool.noConfusion h⟩⟩ ?_ ?_
  · have key : ∀ k o, l[k]? = some o → ∀ D x W (b : Act), PhlI w0 n e Φ R (fun j => slotV a ((dstOf l.toArray).getD (j - 0) none)) D x W → D k = false → (∀ j ∈ deps o, D j = true) → (∀ j, D j = true → ∀ q ∈ depsAt l.toArray j, D q = true) → (∀ t : Nat, b.tmps[t]?.getD undef = look (dstOf l.toArray) x a t) → o.wp P b W (StepPost (PhlI w0 n e Φ R (fun j => slotV a ((dstOf l.toArray).getD (j - 0) none))) D x k b o.dst) NoQ := by
      intro k o ho D x W b hI hD hdep hcl hbt
      have hklt : k < l.length := (List.getElem?_eq_some_iff.1 ho).1
      have hs := hstep.get _ _ k o ho x W b (fun j hj => hI.old j (by
        cases h : D j with
        | false => rfl
        | true =>
          rw [Nat.zero_add] at hj
          have := hcl j h k hj
          rw [hD] at this; cases this)) hbt
      rw [Nat.zero_add] at hs
      obtain ⟨s1, s2, s3⟩ := hs
      have hold : ∀ v, ∀ i, upd D k true i = false → upd x k v i = slotV a ((dstOf l.toArray).getD (i - 0) none) := fun v i hi => by
        by_cases q : i = k
        · subst q; rw [upd_same] at hi; cases hi
        · rw [upd_ne _ _ q] at hi ⊢; exact hI.old i hi
      have hval : ∀ v, (∀ u, e k = some u → v = u) → ∀ i u, upd D k true i = true → e i = some u → upd x k v i = u := fun v hvk i u hi hu => by
        by_cases q : i = k
        · subst q; rw [upd_same]; exact hvk u hu
        · rw [upd_ne _ _ q] at hi ⊢; exact hI.val i u hi hu
      have hst := hI.st
      by_cases hkn : k = n
      · subst hkn
        rw [hD, if_neg (by simp)] at hst
        refine Oper.wp_mono ?_ (s2 rfl hst.1 (fun j hj => hst.2 j (hdep j hj)))
        rintro a' w' ⟨v, rfl, hR, hvk⟩
        exact ⟨v, rfl, hval v hvk, hold v, by rw [upd_same, if_pos rfl]; exact hR⟩
      · cases hl : late k with
        | true =>
          obtain ⟨v, hev, hrun, hΦv⟩ := s3 hl (fun j hj u hu => hI.val j u (hdep j hj) hu)
          unfold Oper.wp
          rw [hrun]
          refine ⟨v, rfl, hval v (fun u hu => by rw [hev] at hu; injection hu), hold v, ?_⟩
          rw [upd_ne _ _ (Ne.symm hkn)]
          by_cases hDn : D n = true
          · rw [if_pos hDn] at hst ⊢; exact hRl _ _ _ _ hl hst
          · rw [if_neg hDn] at hst ⊢
            refine ⟨hst.1, fun i hi => ?_⟩
            by_cases q : i = k
            · subst q; rw [upd_same]; exact hΦv
            · rw [upd_ne _ _ q] at hi ⊢; exact hst.2 i hi
        | false =>
          have hDn : ¬ D n = true := fun hDn => by
            have := needL_all hneed hcl hDn _ k (by simpa using hklt) (Nat.le_refl _) hl
            rw [hD] at this; cases this
          rw [if_neg hDn] at hst
          refine Oper.wp_mono ?_ (s1 hl hkn hst.1 (fun j hj => hst.2 j (hdep j hj)))
          rintro a' w' ⟨v, rfl, hb', hv'⟩
          refine ⟨v, rfl, hval v (fun u hu => hv _ _ _ _ hv' hu), hold v, ?_⟩
          rw [upd_ne _ _ (Ne.symm hkn), if_neg hDn]
          refine ⟨hst.1.trans (hb'.mono hst.1.size), fun i hi => ?_⟩
          by_cases q : i = k
          · subst q; rw [upd_same]; exact hv'
          · rw [upd_ne _ _ q] at hi ⊢
            exact hΦ i (x i) W w' (hst.2 i hi) hb'
    have aux : ∀ (r : List Oper) (s : Nat), (∀ k, r[k]? = l[s + k]?) → AllOps (fun i o => ∀ D x W (b : Act), PhlI w0 n e Φ R (fun j => slotV a ((dstOf l.toArray).getD (j - 0) none)) D x W → D i = false → (∀ j ∈ deps o, D j = true) → (∀ j, D j = true → ∀ q ∈ depsAt l.toArray j, D q = true) → (∀ t : Nat, b.tmps[t]?.getD undef = look (dstOf l.toArray) x a t) → o.wp P b W (StepPost (PhlI w0 n e Φ R (fun j => slotV a ((dstOf l.toArray).getD (j - 0) none))) D x i b o.dst) NoQ) s r := by
      intro r
      induction r with
      | nil => intro s _; trivial
      | cons o r ih =>
        intro s hr
        refine ⟨key s o (by have := hr 0; simpa using this.symm), ih (s + 1) (fun k => ?_)⟩
        have := hr (k + 1)
        rw [List.getElem?_cons_succ] at this
        rw [this]; congr 1; omega
    exact aux l 0 (fun k => by rw [Nat.zero_add])
  · intro D x W hI hall
    have hst := hI.st
    have hnl : n < l.length ∨ ¬ n < l.length := by omega
    by_cases hDn : D n = true
    · rw [if_pos hDn] at hst
      exact hend x W hst (fun i v hi hv2 => hI.val i v (hall i hi) hv2)
    · rcases hnl with h | h
      · exact absurd (hall n h) hDn
      · exact absurd hnl2 h
theorem phiT_val {ev : Nat → Option Value} {Ψ : Nat → Value → World → Prop} {i : Nat} {v u : Value} {w : World} (h : phiT ev Ψ i v w) (he : ev i = some u) : v = u := by
  unfold phiT at h; rw [he] at h; exact h
theorem phl_st {R : (Nat → Value) → World → Prop} {x : Nat → Value} {n : Nat} {o : Oper} {b : Act} {w : World} (W : World) (h : (execOp b.eval o).run P w = .ok .skip W) (ho : o.dst = none) (hR : ∀ v, R (upd x n v) W) {e : Option Value} (he : e = none) : o.wp P b w (fun a' w' => ∃ v, a' = b.put o.dst v ∧ R (upd x n v) w' ∧ ∀ u, e = some u → v = u) NoQ := by
  unfold Oper.wp; rw [h]; exact ⟨undef, by rw [ho], hR _, fun u hu => by rw [he] at hu; cases hu⟩
end
end Go.Proofs.YtnmidhlghhephaaGreatDoor

namespace Go.Proofs.YtnmidhlghhephaaGreatDoor
set_option linter.unusedVariables false
/-- the coefficients of the product of a function and a list of terms -/
def cvF (F : Int → Int) : List (Int × Int) → Int → Int
  | [], _ => 0
  | t :: q, e => t.2 * F (e - t.1) + cvF F q e
/-- the coefficients of the product of two lists of terms -/
def cv (p q : List (Int × Int)) (e : Int) : Int := cvF (cf p) q e
/-- the products of the terms, in order -/
def prs : List (Int × Int) → List (Int × Int) → List (Int × Int)
  | [], _ => []
  | s :: p, q => (q.map fun t => (s.1 + t.1, s.2 * t.2)) ++ prs p q
theorem cvF_add (F G : Int → Int) (q : List (Int × Int)) (e : Int) : cvF (fun x => F x + G x) q e = cvF F q e + cvF G q e := by
  induction q with
  | nil => rfl
  | cons t q ih => simp only [cvF]; rw [ih, Int.mul_add]; omega
theorem cvF_zero (q : List (Int × Int)) (e : Int) : cvF (fun _ => 0) q e = 0 := by
  induction q with
  | nil => rfl
  | cons t q ih => simp only [cvF]; rw [ih]; simp
theorem cvF_congr {F G : Int → Int} (h : ∀ x, F x = G x) (q : List (Int × Int)) (e : Int) : cvF F q e = cvF G q e := by rw [show F = G from funext h]
theorem cvF_single (s : Int × Int) (q : List (Int × Int)) (e : Int) : cvF (fun x => if s.1 = x then s.2 else 0) q e = s.2 * cf q (e - s.1) := by
  induction q with
  | nil => simp [cvF, cf]
  | cons t q ih =>
    simp only [cvF]
    rw [ih, cf_cons, Int.mul_add]
    by_cases h : s.1 = e - t.1
    · rw [if_pos h, if_pos (by omega), Int.mul_comm]
    · rw [if_neg h, if_neg (by omega), Int.mul_zero, Int.mul_zero]
theorem cv_nil (q : List (Int × Int)) (e : Int) : cv [] q e = 0 := cvF_zero q e
theorem cv_cons (s : Int × Int) (p q : List (Int × Int)) (e : Int) : cv (s :: p) q e = s.2 * cf q (e - s.1) + cv p q e := by
  unfold cv
  rw [show cf (s :: p) = fun x => (if s.1 = x then s.2 else 0) + cf p x from rfl, cvF_add, cvF_single]
theorem cv_comm (p q : List (Int × Int)) (e : Int) : cv p q e = cv q p e := by
  induction p with
  | nil => rw [cv_nil]; rfl
  | cons s p ih => rw [cv_cons, ih]; rfl
theorem cv_congr {p p' q q' : List (Int × Int)} (h : ∀ x, cf p x = cf p' x) (k : ∀ x, cf q x = cf q' x) (e : Int) : cv p q e = cv p' q' e := by
  unfold cv
  rw [cvF_congr h]
  show cv p' q e = cv p' q' e
  rw [cv_comm, cv_comm p']
  exact cvF_congr k p' e
theorem cf_mulmap (s : Int × Int) (q : List (Int × Int)) (e : Int) : cf (q.map fun t => (s.1 + t.1, s.2 * t.2)) e = s.2 * cf q (e - s.1) := by
  induction q with
  | nil => simp [cf]
  | cons t q ih =>
    rw [List.map_cons, cf_cons, cf_cons, ih, Int.mul_add]
    by_cases h : t.1 = e - s.1
    · rw [if_pos h, if_pos (by show s.1 + t.1 = e; omega)]
    · rw [if_neg h, if_neg (by show ¬ s.1 + t.1 = e; omega), Int.mul_zero]
theorem cf_prs (p q : List (Int × Int)) (e : Int) : cf (prs p q) e = cv p q e := by
  induction p with
  | nil => rw [cv_nil]; rfl
  | cons s p ih => rw [prs, cf_append, cf_mulmap, ih, cv_cons]
theorem prs_append (p p' q : List (Int × Int)) : prs (p ++ p') q = prs p q ++ prs p' q := by
  induction p with
  | nil => rfl
  | cons s p ih => rw [List.cons_append, prs, prs, ih, List.append_assoc]
theorem prs_mem {p q : List (Int × Int)} {u : Int × Int} (h : u ∈ prs p q) : ∃ s ∈ p, ∃ t ∈ q, u = (s.1 + t.1, s.2 * t.2) := by
  induction p with
  | nil => cases h
  | cons s p ih =>
    rw [prs] at h
    rcases List.mem_append.1 h with h | h
    · obtain ⟨t, ht, rfl⟩ := List.mem_map.1 h
      exact ⟨s, List.mem_cons_self .., t, ht, rfl⟩
    · obtain ⟨s', hs, t, ht, e⟩ := ih h
      exact ⟨s', List.mem_cons_of_mem _ hs, t, ht, e⟩
theorem prs_len (p q : List (Int × Int)) : (prs p q).length = p.length * q.length := by
  induction p with
  | nil => simp [prs]
  | cons s p ih => rw [prs, List.length_append, List.length_map, ih, List.length_cons, Nat.succ_mul, Nat.add_comm]
theorem cvF_bd {F : Int → Int} {q : List (Int × Int)} {B C : Nat} (hF : ∀ x, (F x).natAbs ≤ B) (hq : ∀ t ∈ q, t.2.natAbs ≤ C) : ∀ e, (cvF F q e).natAbs ≤ C * B * q.length := by
  intro e
  induction q with
  | nil => simp [cvF]
  | cons t q ih =>
    have h1 := hq t (List.mem_cons_self ..)
    have h2 := ih (fun s hs => hq s (List.mem_cons_of_mem _ hs))
    have h3 : (t.2 * F (e - t.1)).natAbs ≤ C * B := by rw [Int.natAbs_mul]; exact Nat.mul_le_mul h1 (hF _)
    simp only [cvF]
    rw [List.length_cons, Nat.mul_succ]
    omega
theorem Lim.na {l : List (Int × Int)} (h : Lim l) : ∀ t ∈ l, t.2.natAbs ≤ 1125899906842624 := fun t ht => by have := h.co t ht; omega
/-- partial sums of products stay within 127 bits -/
theorem Lim.cvbd {p q : List (Int × Int)} (hp : Lim p) (kp : Can p) (hq : Lim q) (kq : Can q) (e : Int) : (cv p q e).natAbs ≤ 5316911983139663491615228241121378304 := by
  have h1 : ∀ x, (Go.Proofs.YtnmidhlghhephaaGreatDoor.cf p x).natAbs ≤ 1125899906842624 := fun x => by have := hp.cf kp x; omega
  have h2 := cvF_bd h1 hq.na e
  have h3 := hq.len kq
  have h4 : 1125899906842624 * 1125899906842624 * q.length ≤ 1125899906842624 * 1125899906842624 * 2097153 := Nat.mul_le_mul_left _ h3
  unfold cv
  omega
/-- the list of the coefficients other than 0 from an exponent on -/
def dense (F : Int → Int) (low : Int) : Nat → List (Int × Int)
  | 0 => []
  | k + 1 => dense F low k ++ (if F (low + (k : Int)) = 0 then [] else [(low + (k : Int), F (low + (k : Int)))])
theorem dense_mem {F : Int → Int} {low : Int} : ∀ {k : Nat} {t : Int × Int}, t ∈ dense F low k → low ≤ t.1 ∧ t.1 < low + k ∧ t.2 = F t.1 ∧ t.2 ≠ 0
  | 0, t, h => by cases h
  | k + 1, t, h => by
    rw [dense] at h
    rcases List.mem_append.1 h with h | h
    · have := dense_mem h
      exact ⟨this.1, by omega, this.2.2⟩
    · split at h
      · cases h
      · next h0 =>
        rw [List.mem_singleton.1 h]
        exact ⟨by show low ≤ low + (k : Int); omega, by show low + (k : Int) < _; omega, rfl, h0⟩
theorem dense_can (F : Int → Int) (low : Int) : ∀ k, Can (dense F low k)
  | 0 => Can.nil
  | k + 1 => by
    rw [dense]
    split
    · rw [List.append_nil]; exact dense_can F low k
    · next h0 => exact (dense_can F low k).snoc (fun s hs => by have := dense_mem hs; show s.1 < low + (k : Int); omega) h0
theorem dense_len (F : Int → Int) (low : Int) : ∀ k, (dense F low k).length ≤ k
  | 0 => Nat.le_refl _
  | k + 1 => by
    have := dense_len F low k
    rw [dense, List.length_append]
    split <;> simp <;> omega
theorem dense_cf (F : Int → Int) (low : Int) : ∀ (k : Nat) (e : Int), cf (dense F low k) e = if low ≤ e ∧ e < low + k then F e else 0
  | 0, e => by rw [if_neg (by omega)]; rfl
  | k + 1, e => by
    rw [dense, cf_append, dense_cf F low k]
    by_cases he : low + (k : Int) = e
    · rw [if_neg (show ¬ (low ≤ e ∧ e < low + (k : Int)) by omega), if_pos (show low ≤ e ∧ e < low + ((k + 1 : Nat) : Int) by omega), Int.zero_add]
      by_cases h0 : F (low + (k : Int)) = 0
      · rw [if_pos h0, ← he, h0]; rfl
      · rw [if_neg h0, cf_one, if_pos he, he]
    · have h1 : cf (if F (low + (k : Int)) = 0 then [] else [(low + (k : Int), F (low + (k : Int)))]) e = 0 := by
        split
        · rfl
        · rw [cf_one, if_neg he]
      rw [h1, Int.add_zero]
      by_cases h2 : low ≤ e ∧ e < low + k
      · rw [if_pos h2, if_pos (by omega)]
      · rw [if_neg h2, if_neg (by omega)]
/-- the product of polynomials -/
def MulP : Pol → Pol → Pol → Prop
  | some p, some q, r => (∃ l, r = some l ∧ Can l ∧ Lim l ∧ ∀ e, cf l e = cv p q e) ∨ (r = none ∧ ((∃ e, ¬ (-1125899906842624 ≤ cv p q e ∧ cv p q e ≤ 1125899906842624)) ∨ ∃ s ∈ p, ∃ t ∈ q, s.1 + t.1 < -1048576 ∨ 1048576 < s.1 + t.1))
  | _, _, r => r = none
theorem MulP.some {p q : List (Int × Int)} {r : Pol} (h : MulP (some p) (some q) r) (h1 : ∀ e, -1125899906842624 ≤ cv p q e ∧ cv p q e ≤ 1125899906842624) (h2 : ∀ s ∈ p, ∀ t ∈ q, -1048576 ≤ s.1 + t.1 ∧ s.1 + t.1 ≤ 1048576) : ∃ l, r = Option.some l ∧ Can l ∧ Lim l ∧ ∀ e, cf l e = cv p q e := by
  rcases h with h | ⟨_, ⟨e, he⟩ | ⟨s, hs, t, ht, hh⟩⟩
  · exact h
  · exact absurd (h1 e) he
  · have := h2 s hs t ht; omega
theorem CombP.some {f : Int → Int → Int} {p q : List (Int × Int)} {r : Pol} (h : CombP f (some p) (some q) r) (h1 : ∀ e, -1125899906842624 ≤ f (cf p e) (cf q e) ∧ f (cf p e) (cf q e) ≤ 1125899906842624) : ∃ l, r = Option.some l ∧ Can l ∧ Lim l ∧ ∀ e, cf l e = f (cf p e) (cf q e) := by
  rcases h with h | ⟨_, e, he⟩
  · exact h
  · exact absurd (h1 e) he
/-- a coefficient other than 0 of the product comes from a term of each -/
theorem cv_ne {p q : List (Int × Int)} {e : Int} (h : cv p q e ≠ 0) : ∃ s ∈ p, ∃ t ∈ q, s.1 + t.1 = e := by
  rw [← cf_prs] at h
  obtain ⟨u, hu, he⟩ := cf_ne h
  obtain ⟨s, hs, t, ht, rfl⟩ := prs_mem hu
  exact ⟨s, hs, t, ht, he⟩
/-- the end of the dense product -/
theorem mul_end {p q : List (Int × Int)} {low : Int} {n : Nat} (hl : -1048576 ≤ low) (hh : low + n ≤ 1048577) (hx : ∀ s ∈ p, ∀ t ∈ q, low ≤ s.1 + t.1 ∧ s.1 + t.1 < low + n) (hb : ∀ i : Nat, i < n → -1125899906842624 ≤ cv p q (low + i) ∧ cv p q (low + i) ≤ 1125899906842624) : MulP (some p) (some q) (some (dense (cv p q) low n)) := by
  refine .inl ⟨_, rfl, dense_can _ _ _, ⟨fun t ht => ?_, fun t ht => ?_⟩, fun e => ?_⟩
  · have h1 := dense_mem ht
    have h2 := hb (t.1 - low).toNat (by omega)
    rw [show low + ((t.1 - low).toNat : Int) = t.1 by omega] at h2
    rw [h1.2.2.1]; exact h2
  · have h1 := dense_mem ht
    omega
  · rw [dense_cf]
    by_cases h : low ≤ e ∧ e < low + n
    · rw [if_pos h]
    · rw [if_neg h]
      refine (Classical.byContradiction fun hn => ?_)
      obtain ⟨s, hs, t, ht, he⟩ := cv_ne (fun k => hn k.symm)
      have := hx s hs t ht
      omega
theorem mul_bad {p q : List (Int × Int)} {e : Int} (h : ¬ (-1125899906842624 ≤ cv p q e ∧ cv p q e ≤ 1125899906842624)) : MulP (some p) (some q) none := .inr ⟨rfl, .inl ⟨e, h⟩⟩
end Go.Proofs.YtnmidhlghhephaaGreatDoor

namespace Go.Proofs.YtnmidhlghhephaaGreatDoor
open Go.RowKit
set_option linter.unusedVariables false
section
variable {P : Program} {Q : Exit → Act → World → Prop}
/-- behind one operation: what it makes (fr) lies in new memory -/
def PhfPost (w : World) (Φ : Nat → Value → World → Prop) (fr : Nat → Bool) (i : Nat) (b : Act) (d : Option Tmp) (a' : Act) (w' : World) : Prop := ∃ v, a' = b.put d v ∧ Below w.heap.size w w' ∧ Φ i v w' ∧ (fr i = true → ∀ k, v.ownBlock = some k → w.heap.size ≤ k)
/-- what is made by two operations lies apart -/
def ApF (fr : Nat → Bool) (D : Nat → Bool) (x : Nat → Value) : Prop := ∀ i j, i ≠ j → D i = true → D j = true → fr i = true → fr j = true → ∀ k, (x i).ownBlock = some k → (x j).ownBlock ≠ some k
def PhfI (w0 : World) (Φ : Nat → Value → World → Prop) (fr : Nat → Bool) (x0 : Nat → Value) (D : Nat → Bool) (x : Nat → Value) (w : World) : Prop := PhiI w0 Φ x0 D x w ∧ ApF fr D x
def PhsI (w0 : World) (n : Nat) (Φ : Nat → Value → World → Prop) (fr : Nat → Bool) (R : (Nat → Value) → World → Prop) (x0 : Nat → Value) (D : Nat → Bool) (x : Nat → Value) (w : World) : Prop := if D n = true then R x w else PhfI w0 Φ fr x0 D x w
theorem wp_region_phis {id : Nat} {l : List Oper} {a : Act} {w0 : World} (n : Nat) (hm : P.follows .mixedOrders = true) (hd : apartD (dstOf l.toArray) = true) (hb : backD l.toArray = true) (hg : l.all (fun o => o.guard.isNone) = true) (hn : inD a.tmps.size (dstOf l.toArray) = true)
    (hlen : l.length = n + 1) (hneed : needB l.toArray n = true)
    (Φ : Nat → Value → World → Prop) (hΦ : ∀ i v w w', Φ i v w → Below w.heap.size w w' → Φ i v w') (fr : Nat → Bool) (hfr : ∀ i v w, fr i = true → Φ i v w → ∀ k, v.ownBlock = some k → k < w.heap.size) (R : (Nat → Value) → World → Prop)
    (hstep : AllOps (fun i o => ∀ (x : Nat → Value) w (b : Act), Below w0.heap.size w0 w → (∀ j ∈ deps o, Φ j (x j) w) → (∀ j1 ∈ deps o, ∀ j2 ∈ deps o, j1 ≠ j2 → fr j1 = true → fr j2 = true → ∀ k, (x j1).ownBlock = some k → (x j2).ownBlock ≠ some k) → (∀ j, i ∈ depsAt l.toArray j → x j = slotV a ((dstOf l.toArray).getD (j - 0) none)) → (∀ t : Nat, b.tmps[t]?.getD undef = look (dstOf l.toArray) x a t) →
      (i < n → o.wp P b w (PhfPost w Φ fr i b o.dst) NoQ) ∧ (i = n → (∀ j, j < n → Φ j (x j) w) → o.wp P b w (fun a' w' => ∃ v, a' = b.put o.dst v ∧ R (upd x n v) w') NoQ)) 0 l)
    (hend : ∀ (x : Nat → Value) w, R x w → Q .normal (putAll (dstOf l.toArray) 0 x a) w) : (Code.region id l.toArray true).wp P Q a w0 := by
  refine wp_region_facts2U hm hd hb hg hn (PhsI w0 n Φ fr R (fun j => slotV a ((dstOf l.toArray).getD (j - 0) none))) ?_ ?_ ?_
  · unfold PhsI
    rw [if_neg (by simp)]
    exact ⟨⟨(Below.refl _ _).drew, fun i h => Bool.noConfusion h, fun _ _ => rfl⟩, fun i j _ h => Bool.noConfusion h⟩
  · have key : ∀ k o, l[k]? = some o → ∀ D x W (b : Act), PhsI w0 n Φ fr R (fun j => slotV a ((dstOf l.toArray).getD (j - 0) none)) D x W → D k = false → (∀ j ∈ deps o, D j = true) → (∀ j, D j = true → ∀ q ∈ depsAt l.toArray j, D q = true) → (∀ t : Nat, b.tmps[t]?.getD undef = look (dstOf l.toArray) x a t) → o.wp P b W (StepPost (PhsI w0 n Φ fr R (fun j => slotV a ((dstOf l.toArray).getD (j - 0) none))) D x k b o.dst) NoQ := by
      intro k o ho D x W b hI hD hdep hcl hbt
      have hk : k ≤ n := by have := (List.getElem?_eq_some_iff.1 ho).1; omega
      have hDn : D n = false := by
        cases h : D n with
        | false => rfl
        | true => have := need_all hneed hcl h _ k hk (Nat.le_refl _); rw [this] at hD; cases hD
      unfold PhsI at hI
      rw [hDn, if_neg (by simp)] at hI
      obtain ⟨hI, hAp⟩ := hI
      have hs := hstep.get _ _ k o ho x W b hI.1 (fun j hj => hI.2.1 j (hdep j hj)) (fun j1 h1 j2 h2 hne f1 f2 => hAp j1 j2 hne (hdep j1 h1) (hdep j2 h2) f1 f2) (fun j hj => hI.2.2 j (by
        cases h : D j with
        | false => rfl
        | true =>
          rw [Nat.zero_add] at hj
          have := hcl j h k hj
          rw [hD] at this; cases this)) hbt
      rw [Nat.zero_add] at hs
      by_cases hkn : k = n
      · subst hkn
        have hDall : ∀ j, j < k → D j = true := by
          intro j hj
          have hcl' : ∀ j, upd D k true j = true → ∀ q ∈ depsAt l.toArray j, upd D k true q = true := by
            intro j hj q hq
            by_cases eq : q = k
            · subst eq; rw [upd_same]
            rw [upd_ne _ _ eq]
            by_cases ej : j = k
            · subst ej
              have : depsAt l.toArray j = deps o := by
                have h1 : l.toArray[j]? = some o := by simpa using ho
                simp [depsAt, h1]
              rw [this] at hq
              exact hdep q hq
            · rw [upd_ne _ _ ej] at hj
              exact hcl j hj q hq
          have := need_all hneed hcl' (upd_same _ _ _) _ j (by omega) (Nat.le_refl _)
          rwa [upd_ne _ _ (show j ≠ k by omega)] at this
        refine Oper.wp_mono ?_ (hs.2 rfl (fun j hj => hI.2.1 j (hDall j hj)))
        rintro a' w' ⟨v, rfl, hR⟩
        refine ⟨v, rfl, ?_⟩
        unfold PhsI
        rw [if_pos (upd_same _ _ _)]
        exact hR
      · refine Oper.wp_mono ?_ (hs.1 (by omega))
        rintro a' w' ⟨v, rfl, hb', hv, hfv⟩
        refine ⟨v, rfl, ?_⟩
        unfold PhsI
        rw [upd_ne _ _ (show n ≠ k from fun e => hkn e.symm), hDn, if_neg (by simp)]
        refine ⟨⟨hI.1.trans (hb'.mono hI.1.size), fun i hi => ?_, fun i hi => ?_⟩, fun i j hij hi hj fi fj => ?_⟩
        · by_cases e : i = k
          · subst e; rw [upd_same]; exact hv
          · rw [upd_ne _ _ e] at hi ⊢
            exact hΦ i (x i) W w' (hI.2.1 i hi) hb'
        · by_cases e : i = k
          · subst e; rw [upd_same] at hi; cases hi
          · rw [upd_ne _ _ e] at hi ⊢
            exact hI.2.2 i hi
        · intro q hq
          by_cases ei : i = k
          · subst ei
            have ej : j ≠ i := fun e => hij e.symm
            rw [upd_same] at hq
            rw [upd_ne _ _ ej] at hj ⊢
            intro h2
            have h3 := hfr j (x j) W fj (hI.2.1 j hj) q h2
            have h4 := hfv fi q hq
            omega
          · rw [upd_ne _ _ ei] at hi hq
            by_cases ej : j = k
            · subst ej
              rw [upd_same]
              intro h2
              have h3 := hfr i (x i) W fi (hI.2.1 i hi) q hq
              have h4 := hfv fj q h2
              omega
            · rw [upd_ne _ _ ej] at hj ⊢
              exact hAp i j hij hi hj fi fj q hq
    have aux : ∀ (r : List Oper) (s : Nat), (∀ k, r[k]? = l[s + k]?) → AllOps (fun i o => ∀ D x W (b : Act), PhsI w0 n Φ fr R (fun j => slotV a ((dstOf l.toArray).getD (j - 0) none)) D x W → D i = false → (∀ j ∈ deps o, D j = true) → (∀ j, D j = true → ∀ q ∈ depsAt l.toArray j, D q = true) → (∀ t : Nat, b.tmps[t]?.getD undef = look (dstOf l.toArray) x a t) → o.wp P b W (StepPost (PhsI w0 n Φ fr R (fun j => slotV a ((dstOf l.toArray).getD (j - 0) none))) D x i b o.dst) NoQ) s r := by
      intro r
      induction r with
      | nil => intro s _; trivial
      | cons o r ih =>
        intro s hr
        refine ⟨key s o (by have := hr 0; simpa using this.symm), ih (s + 1) (fun k => ?_)⟩
        have := hr (k + 1)
        rw [List.getElem?_cons_succ] at this
        rw [this]; congr 1; omega
    exact aux l 0 (fun k => by rw [Nat.zero_add])
  · intro D x W hI hall
    have hDn := hall n (by omega)
    unfold PhsI at hI
    rw [if_pos hDn] at hI
    exact hend x W hI
variable {w : World} {Φ : Nat → Value → World → Prop} {fr : Nat → Bool} {i : Nat} {b : Act} {o : Oper}
theorem phf_run (v : Value) (hf : fr i = false) (h : (execOp b.eval o).run P w = .ok (.value v) w) (hv : Φ i v w) : o.wp P b w (PhfPost w Φ fr i b o.dst) NoQ := by
  unfold Oper.wp; rw [h]; exact ⟨v, rfl, Below.refl _ _, hv, fun e => by rw [hf] at e; cases e⟩
theorem phf_call {f : FuncId} {args : Array Value} (h : (execOp b.eval o).run P w = .ok (.enter f args) w) (hc : Calls P f args w fun e w' => ∃ v, e = .returned v ∧ Below w.heap.size w w' ∧ Φ i v w' ∧ (fr i = true → ∀ k, v.ownBlock = some k → w.heap.size ≤ k)) : o.wp P b w (PhfPost w Φ fr i b o.dst) NoQ := by
  unfold Oper.wp; rw [h]
  simp only [Oper.upon]
  refine hc.mono ?_
  rintro e w' ⟨v, rfl, hb, hv⟩
  exact ⟨v, rfl, hb, hv⟩
end
end Go.Proofs.YtnmidhlghhephaaGreatDoor

namespace Go.Proofs.YtnmidhlghhephaaGreatDoor
set_option linter.unusedVariables false
/-! ### products of functions and lists -/
theorem cvF_append (F : Int → Int) (p q : List (Int × Int)) (e : Int) : cvF F (p ++ q) e = cvF F p e + cvF F q e := by
  induction p with
  | nil => simp [cvF]
  | cons t p ih => simp only [List.cons_append, cvF]; rw [ih]; omega
theorem cvF_map (F : Int → Int) (s : Int × Int) (q : List (Int × Int)) (e : Int) : cvF F (q.map fun t => (s.1 + t.1, s.2 * t.2)) e = s.2 * cvF F q (e - s.1) := by
  induction q with
  | nil => simp [cvF]
  | cons t q ih =>
    simp only [List.map_cons, cvF]
    rw [ih, Int.mul_add, Int.mul_assoc, show e - (s.1 + t.1) = e - s.1 - t.1 by omega]
theorem cvF_prs (F : Int → Int) (p q : List (Int × Int)) (e : Int) : cvF F (prs p q) e = cvF (cvF F q) p e := by
  induction p with
  | nil => rfl
  | cons s p ih => rw [prs, cvF_append, ih, cvF_map]; rfl
/-- q begins with the power a, with the coefficient 1 -/
def Beg (q : List (Int × Int)) (a : Int) : Prop := ∃ q', q = (a, 1) :: q' ∧ ∀ t ∈ q', a < t.1
/-- q ends with the power b -/
def Fin (q : List (Int × Int)) (b : Int) : Prop := ∃ q' c, q = q' ++ [(b, c)] ∧ c ≠ 0 ∧ ∀ t ∈ q', t.1 < b
theorem cvF_zero_of {F : Int → Int} {q : List (Int × Int)} {e : Int} (h : ∀ t ∈ q, F (e - t.1) = 0) : cvF F q e = 0 := by
  induction q with
  | nil => rfl
  | cons t q ih => simp only [cvF]; rw [h t (List.mem_cons_self ..), ih fun s hs => h s (List.mem_cons_of_mem _ hs)]; simp
/-- a function that vanishes far down, and whose product vanishes up to E -/
theorem cvF_low {F : Int → Int} {q : List (Int × Int)} {a lo E : Int} (hq : Beg q a) (h0 : ∀ e, e < lo → F e = 0) (hz : ∀ e, e ≤ E → cvF F q e = 0) : ∀ e, e + a ≤ E → F e = 0 := by
  obtain ⟨q', rfl, hq⟩ := hq
  have key : ∀ (n : Nat) (e : Int), e - lo < n → e + a ≤ E → F e = 0 := by
    intro n
    induction n with
    | zero => intro e h _; exact h0 e (by omega)
    | succ n ih =>
      intro e h1 h2
      have h := hz (e + a) h2
      simp only [cvF] at h
      rw [cvF_zero_of fun t ht => ih _ (by have := hq t ht; omega) (by have := hq t ht; omega)] at h
      rw [show e + a - a = e by omega] at h
      omega
  exact fun e he => key ((e - lo).toNat + 1) e (by omega) he
theorem cvF_inj {F : Int → Int} {q : List (Int × Int)} {a lo : Int} (hq : Beg q a) (h0 : ∀ e, e < lo → F e = 0) (hz : ∀ e, cvF F q e = 0) (e : Int) : F e = 0 := cvF_low (E := e + a) hq h0 (fun x _ => hz x) e (Int.le_refl _)
/-- a function that vanishes far up, and whose product vanishes above H -/
theorem cvF_high {F : Int → Int} {q : List (Int × Int)} {b hi H : Int} (hq : Fin q b) (h0 : ∀ e, hi < e → F e = 0) (hz : ∀ e, H < e → cvF F q e = 0) : ∀ e, H < e + b → F e = 0 := by
  obtain ⟨q', c, rfl, hc, hq⟩ := hq
  have key : ∀ (n : Nat) (e : Int), hi - e < n → H < e + b → F e = 0 := by
    intro n
    induction n with
    | zero => intro e h _; exact h0 e (by omega)
    | succ n ih =>
      intro e h1 h2
      have h := hz (e + b) h2
      rw [cvF_append, cvF_zero_of fun t ht => ih _ (by have := hq t ht; omega) (by have := hq t ht; omega)] at h
      simp only [cvF] at h
      rw [show e + b - b = e by omega] at h
      have h3 : c * F e = 0 := by omega
      rcases Int.mul_eq_zero.1 h3 with h4 | h4
      · exact absurd h4 hc
      · exact h4
  exact fun e he => key ((hi - e).toNat + 1) e (by omega) he
theorem cvF_sub (F G : Int → Int) (q : List (Int × Int)) (e : Int) : cvF (fun x => F x - G x) q e = cvF F q e - cvF G q e := by
  induction q with
  | nil => rfl
  | cons t q ih => simp only [cvF]; rw [ih, Int.mul_sub]; omega
theorem Beg.cf {q : List (Int × Int)} {a : Int} (h : Beg q a) : cf q a = 1 ∧ ∀ e, e < a → Go.Proofs.YtnmidhlghhephaaGreatDoor.cf q e = 0 := by
  obtain ⟨q', rfl, hq⟩ := h
  refine ⟨?_, fun e he => ?_⟩
  · rw [cf_cons, if_pos rfl, cf_out (fun t ht => by have := hq t ht; omega)]; rfl
  · rw [cf_cons, if_neg (by show ¬ a = e; omega), cf_out (fun t ht => by have := hq t ht; omega)]; rfl
theorem Fin.cf {q : List (Int × Int)} {b : Int} (h : Fin q b) : ∀ e, b < e → Go.Proofs.YtnmidhlghhephaaGreatDoor.cf q e = 0 := by
  obtain ⟨q', c, rfl, hc, hq⟩ := h
  intro e he
  rw [cf_append, cf_out (fun t ht => by have := hq t ht; omega), cf_out (fun t ht => by rw [List.mem_singleton.1 ht]; show b ≠ e; omega)]; rfl
/-! ### the division -/
/-- what is left of P before step i -/
def RS (P : Int → Int) (lp lq : Int) (q : List (Int × Int)) : Nat → Int → Int
  | 0, e => P e
  | i + 1, e => RS P lp lq q i e - RS P lp lq q i (lp + i) * cf q (e - (lp + i) + lq)
/-- the terms that were found before step n -/
def rL (P : Int → Int) (lp lq : Int) (q : List (Int × Int)) : Nat → List (Int × Int)
  | 0 => []
  | n + 1 => if RS P lp lq q n (lp + n) = 0 then rL P lp lq q n else rL P lp lq q n ++ [(lp - lq + n, RS P lp lq q n (lp + n))]
section
variable {P : Int → Int} {lp lq : Int} {q : List (Int × Int)}
theorem cf_rL (n : Nat) (e : Int) : cf (rL P lp lq q (n + 1)) e = cf (rL P lp lq q n) e + if lp - lq + n = e then RS P lp lq q n (lp + n) else 0 := by
  rw [rL]
  split
  · next h => rw [h]; split <;> omega
  · rw [cf_append, cf_one]
theorem rL_mem : ∀ (n : Nat), ∀ t ∈ rL P lp lq q n, lp - lq ≤ t.1 ∧ t.1 < lp - lq + n ∧ ∃ i : Nat, i < n ∧ t = (lp - lq + i, RS P lp lq q i (lp + i))
  | 0, t, h => by cases h
  | n + 1, t, h => by
    rw [rL] at h
    have old : t ∈ rL P lp lq q n → lp - lq ≤ t.1 ∧ t.1 < lp - lq + (n + 1 : Nat) ∧ ∃ i : Nat, i < n + 1 ∧ t = (lp - lq + i, RS P lp lq q i (lp + i)) := fun h => by
      obtain ⟨h1, h2, i, hi, h3⟩ := rL_mem n t h
      exact ⟨h1, by omega, i, by omega, h3⟩
    split at h
    · exact old h
    · rcases List.mem_append.1 h with h | h
      · exact old h
      · rw [List.mem_singleton.1 h]
        exact ⟨by show lp - lq ≤ lp - lq + n; omega, by show lp - lq + (n : Int) < lp - lq + (n + 1 : Nat); omega, n, by omega, rfl⟩
theorem rL_can : ∀ (n : Nat), Can (rL P lp lq q n)
  | 0 => Can.nil
  | n + 1 => by
    rw [rL]
    split
    · exact rL_can n
    · next h => exact (rL_can n).snoc (fun s hs => (rL_mem n s hs).2.1) h
theorem rL_len : ∀ (n : Nat), (rL P lp lq q n).length ≤ n
  | 0 => by simp [rL]
  | n + 1 => by
    rw [rL]
    have := rL_len n
    split
    · omega
    · simp; omega
theorem RS_eq (n : Nat) (e : Int) : RS P lp lq q n e = P e - cvF (cf (rL P lp lq q n)) q e := by
  induction n generalizing e with
  | zero =>
    rw [RS, rL, show cf [] = fun _ => (0 : Int) from rfl, cvF_zero]; omega
  | succ n ih =>
    rw [RS, cvF_congr (cf_rL n), cvF_add, ih e]
    have h := cvF_single (lp - lq + n, RS P lp lq q n (lp + n)) q e
    simp only at h
    rw [h, show e - (lp - lq + n) = e - (lp + n) + lq by omega]
    omega
theorem RS_done (hq : Beg q lq) : ∀ (n j : Nat), j < n → RS P lp lq q n (lp + j) = 0
  | 0, j, h => by omega
  | n + 1, j, h => by
    rw [RS]
    by_cases e : j = n
    · subst e
      rw [show lp + (j : Int) - (lp + j) + lq = lq by omega, hq.cf.1]; omega
    · rw [RS_done hq n j (by omega), hq.cf.2 _ (by omega)]; simp
theorem RS_low (hq : Beg q lq) (h0 : ∀ e, e < lp → P e = 0) : ∀ (n : Nat) (e : Int), e < lp → RS P lp lq q n e = 0
  | 0, e, h => h0 e h
  | n + 1, e, h => by rw [RS, RS_low hq h0 n e h, hq.cf.2 _ (by omega)]; simp
theorem RS_high {hp hq' : Int} (hF : Fin q hq') (h0 : ∀ e, hp < e → P e = 0) : ∀ (n : Nat) (e : Int), (n : Int) ≤ hp - lp - (hq' - lq) + 1 → hp < e → RS P lp lq q n e = 0
  | 0, e, _, h => h0 e h
  | n + 1, e, hn, h => by rw [RS, RS_high hF h0 n e (by omega) h, hF.cf _ (by omega)]; simp
/-- where nothing is left, the division is exact -/
theorem div_yes {hp hq' : Int} {s : Nat} (hq : Beg q lq) (hF : Fin q hq') (h0 : ∀ e, e < lp → P e = 0) (h1 : ∀ e, hp < e → P e = 0) (hs : (s : Int) = hp - lp - (hq' - lq)) (hz : ∀ j : Nat, s < j → (j : Int) ≤ hp - lp → RS P lp lq q (s + 1) (lp + j) = 0) (e : Int) : cvF (cf (rL P lp lq q (s + 1))) q e = P e := by
  have h : RS P lp lq q (s + 1) e = 0 := by
    rcases Int.lt_or_le e lp with h | h
    · exact RS_low hq h0 _ e h
    · rcases Int.lt_or_le hp e with h2 | h2
      · exact RS_high hF h1 _ e (by omega) h2
      · obtain ⟨j, rfl⟩ : ∃ j : Nat, e = lp + j := ⟨(e - lp).toNat, by omega⟩
        by_cases hj : j < s + 1
        · exact RS_done hq _ _ hj
        · exact hz j (by omega) (by omega)
  have h2 := RS_eq (P := P) (lp := lp) (lq := lq) (q := q) (s + 1) e
  omega
/-- where there is a quotient, nothing is left -/
theorem div_all {F : Int → Int} {hp hq' lo hi : Int} {s : Nat} (hq : Beg q lq) (hF : Fin q hq') (h1 : ∀ e, hp < e → P e = 0) (f0 : ∀ e, e < lo → F e = 0) (f1 : ∀ e, hi < e → F e = 0) (hP : ∀ e, cvF F q e = P e) (h0 : ∀ e, e < lp → P e = 0) (hs : (s : Int) = hp - lp - (hq' - lq)) : (∀ e, F e = cf (rL P lp lq q (s + 1)) e) ∧ ∀ e, RS P lp lq q (s + 1) e = 0 := by
  have top : ∀ e, hp < e + hq' → F e = 0 := cvF_high hF f1 (fun e he => by rw [hP]; exact h1 e he)
  have top2 : ∀ e, hp < e + hq' → cf (rL P lp lq q (s + 1)) e = 0 := fun e he => cf_out fun t ht => by
    have := (rL_mem _ t ht).2.1
    omega
  have hd : ∀ e, cvF (fun x => F x - cf (rL P lp lq q (s + 1)) x) q e = RS P lp lq q (s + 1) e := fun e => by
    rw [cvF_sub, hP, RS_eq]
  have low : ∀ e, e + lq ≤ lp + s → F e - cf (rL P lp lq q (s + 1)) e = 0 := by
    refine cvF_low (F := fun x => F x - cf (rL P lp lq q (s + 1)) x) (lo := min lo (lp - lq)) hq (fun e he => ?_) (fun e he => ?_)
    · show F e - _ = 0
      rw [f0 e (by omega), cf_out fun t ht => by have := (rL_mem _ t ht).1; omega]; rfl
    · rw [hd]
      rcases Int.lt_or_le e lp with h | h
      · exact RS_low hq h0 _ e h
      · obtain ⟨j, rfl⟩ : ∃ j : Nat, e = lp + j := ⟨(e - lp).toNat, by omega⟩
        exact RS_done hq _ _ (by omega)
  have all : ∀ e, F e - cf (rL P lp lq q (s + 1)) e = 0 := fun e => by
    rcases Int.lt_or_le hp (e + hq') with h | h
    · rw [top e h, top2 e h]; rfl
    · exact low e (by omega)
  refine ⟨fun e => by have := all e; omega, fun e => ?_⟩
  rw [← hd]
  exact cvF_zero_of fun t _ => all _
/-- a divisor that is too long -/
theorem div_short {F : Int → Int} {hp hq' lo hi : Int} (hq : Beg q lq) (hF : Fin q hq') (h1 : ∀ e, hp < e → P e = 0) (f0 : ∀ e, e < lo → F e = 0) (f1 : ∀ e, hi < e → F e = 0) (hP : ∀ e, cvF F q e = P e) (h0 : ∀ e, e < lp → P e = 0) (hs : hp - lp - (hq' - lq) < 0) : ∀ e, F e = 0 := by
  have top : ∀ e, hp < e + hq' → F e = 0 := cvF_high hF f1 (fun e he => by rw [hP]; exact h1 e he)
  have low : ∀ e, e + lq ≤ lp - 1 → F e = 0 := cvF_low hq f0 (fun e he => by rw [hP]; exact h0 e (by omega))
  intro e
  rcases Int.lt_or_le hp (e + hq') with h | h
  · exact top e h
  · exact low e (by omega)
/-- the quotient as a series: the terms that are found are those of any series whose product with q is P -/
theorem RS_series {F : Int → Int} {lo : Int} (hq : Beg q lq) (f0 : ∀ e, e < lo → F e = 0) (hP : ∀ e, cvF F q e = P e) (h0 : ∀ e, e < lp → P e = 0) : ∀ (n : Nat), (∀ i : Nat, i < n → RS P lp lq q i (lp + i) = F (lp - lq + i)) := by
  have low : ∀ e, e + lq ≤ lp - 1 → F e = 0 := cvF_low hq f0 (fun e he => by rw [hP]; exact h0 e (by omega))
  intro n
  induction n with
  | zero => intro i h; omega
  | succ n ih =>
    intro i hi
    by_cases hn : i < n
    · exact ih i hn
    · obtain rfl : i = n := by omega
      have hcf : ∀ e, e < lp - lq + i → cf (rL P lp lq q i) e = F e := fun e he => by
        rcases Int.lt_or_le e (lp - lq) with h | h
        · rw [cf_out fun t ht => by have := (rL_mem _ t ht).1; omega, low e (by omega)]
        · obtain ⟨j, rfl⟩ : ∃ j : Nat, e = lp - lq + j := ⟨(e - (lp - lq)).toNat, by omega⟩
          have hj : j < i := by omega
          have key : ∀ m : Nat, m ≤ i → cf (rL P lp lq q m) (lp - lq + j) = if j < m then F (lp - lq + j) else 0 := by
            intro m
            induction m with
            | zero => intro _; rfl
            | succ m ihm =>
              intro hm
              rw [cf_rL, ihm (by omega)]
              by_cases e1 : m = j
              · subst e1
                rw [if_neg (show ¬ m < m by omega), if_pos rfl, if_pos (show m < m + 1 by omega), ih m (by omega)]; omega
              · by_cases e2 : j < m
                · rw [if_pos e2, if_neg (show ¬ lp - lq + (m : Int) = lp - lq + j by omega), if_pos (show j < m + 1 by omega)]; omega
                · rw [if_neg e2, if_neg (show ¬ lp - lq + (m : Int) = lp - lq + j by omega), if_neg (show ¬ j < m + 1 by omega)]; rfl
          rw [key i (Nat.le_refl _), if_pos hj]
      rw [RS_eq, ← hP]
      have hd := cvF_sub F (cf (rL P lp lq q i)) q (lp + i)
      have h9 : cf (rL P lp lq q i) (lp - lq + i) = 0 := cf_out fun t ht => by have := (rL_mem _ t ht).2.1; omega
      rw [← hd]
      generalize cf (rL P lp lq q i) = G at *
      obtain ⟨q', rfl, hq'⟩ := hq
      simp only [cvF]
      rw [cvF_zero_of fun t ht => by
        have := hq' t ht
        rw [hcf _ (by omega)]; omega]
      rw [show lp + (i : Int) - lq = lp - lq + i by omega, h9]
      omega
end
end Go.Proofs.YtnmidhlghhephaaGreatDoor

namespace Go.Proofs.YtnmidhlghhephaaGreatDoor
set_option linter.unusedVariables false
/-- the powers of t^-1 - t -/
def zk : Nat → List (Int × Int)
  | 0 => [(0, 1)]
  | 1 => [(-1, 1), (1, -1)]
  | 2 => [(-2, 1), (0, -2), (2, 1)]
  | _ => [(-3, 1), (-1, -3), (1, 3), (3, -1)]
theorem zk_beg {k : Nat} (h : k ≤ 3) : Beg (zk k) (-(k : Int)) := by
  rcases (show k = 0 ∨ k = 1 ∨ k = 2 ∨ k = 3 by omega) with rfl | rfl | rfl | rfl
  · exact ⟨[], rfl, fun t ht => by cases ht⟩
  · exact ⟨_, rfl, fun t ht => by simp at ht; subst ht; decide⟩
  · exact ⟨_, rfl, fun t ht => by simp at ht; rcases ht with rfl | rfl <;> decide⟩
  · exact ⟨_, rfl, fun t ht => by simp at ht; rcases ht with rfl | rfl | rfl <;> decide⟩
theorem zk_fin {k : Nat} (h : k ≤ 3) : Fin (zk k) (k : Int) := by
  rcases (show k = 0 ∨ k = 1 ∨ k = 2 ∨ k = 3 by omega) with rfl | rfl | rfl | rfl
  · exact ⟨[], 1, rfl, by decide, fun t ht => by cases ht⟩
  · exact ⟨[(-1, 1)], -1, rfl, by decide, fun t ht => by simp at ht; subst ht; decide⟩
  · exact ⟨[(-2, 1), (0, -2)], 1, rfl, by decide, fun t ht => by simp at ht; rcases ht with rfl | rfl <;> decide⟩
  · exact ⟨[(-3, 1), (-1, -3), (1, 3)], -1, rfl, by decide, fun t ht => by simp at ht; rcases ht with rfl | rfl | rfl <;> decide⟩
theorem zk_can {k : Nat} (h : k ≤ 3) : Can (zk k) := by
  rcases (show k = 0 ∨ k = 1 ∨ k = 2 ∨ k = 3 by omega) with rfl | rfl | rfl | rfl
  all_goals exact ⟨by unfold Srt zk; decide, by unfold zk; decide⟩
theorem zk_lim {k : Nat} (h : k ≤ 3) : Lim (zk k) := by
  rcases (show k = 0 ∨ k = 1 ∨ k = 2 ∨ k = 3 by omega) with rfl | rfl | rfl | rfl
  all_goals exact ⟨by unfold zk; decide, by unfold zk; decide⟩
theorem cvF_one (F : Int → Int) (e : Int) : cvF F (zk 0) e = F e := by
  simp only [zk, cvF]
  rw [Int.sub_zero]; omega
theorem cvF_z (F : Int → Int) (e : Int) : cvF F (zk 1) e = F (e + 1) - F (e - 1) := by
  simp only [zk, cvF]
  rw [show e - -1 = e + 1 by omega]; omega
theorem zk_succ {k : Nat} (h : k ≤ 2) (F : Int → Int) (e : Int) : cvF F (zk (k + 1)) e = cvF (cvF F (zk 1)) (zk k) e := by
  rcases (show k = 0 ∨ k = 1 ∨ k = 2 by omega) with rfl | rfl | rfl
  · rw [cvF_one]
  · rw [cvF_z, cvF_z, cvF_z]
    simp only [zk, cvF]
    rw [show e - -2 = e + 1 + 1 by omega, show e - 0 = e + 1 - 1 by omega, show e - 2 = e - 1 - 1 by omega, show e - 1 + 1 = e + 1 - 1 by omega]; omega
  · simp only [zk, cvF]
    rw [show e - -3 = e - -2 - -1 by omega, show e - -2 - 1 = e - 0 - -1 by omega, show e - -1 = e - 0 - -1 by omega, show e - 2 - -1 = e - 0 - 1 by omega, show e - 1 = e - 0 - 1 by omega, show e - 3 = e - 2 - 1 by omega]; omega
/-- F multiplied by z^m, then by z^k -/
theorem zk_add : ∀ (m k : Nat), m + k ≤ 3 → ∀ (F : Int → Int) (e : Int), cvF F (zk (m + k)) e = cvF (cvF F (zk k)) (zk m) e
  | m, 0, _, F, e => by rw [show (cvF F (zk 0)) = F from funext (cvF_one F)]; rfl
  | m, k + 1, h, F, e => by
    rw [show m + (k + 1) = m + k + 1 by omega, zk_succ (by omega), zk_add m k (by omega)]
    congr 1
    funext x
    rw [zk_succ (by omega)]
/-- the partial sums -/
def hzs (G : Int → Int) : Nat → Int → Int
  | 0, _ => 0
  | n + 1, e => G (e - 1) + hzs G n (e - 2)
theorem hzs_out {G : Int → Int} {lo : Int} (h0 : ∀ e, e < lo → G e = 0) : ∀ (n : Nat) (e : Int), e ≤ lo → hzs G n e = 0
  | 0, _, _ => rfl
  | n + 1, e, h => by rw [hzs, h0 _ (by omega), hzs_out h0 n _ (by omega)]; rfl
theorem hzs_same {G : Int → Int} {lo : Int} (h0 : ∀ e, e < lo → G e = 0) : ∀ (n m : Nat) (e : Int), e - lo ≤ n → e - lo ≤ m → hzs G n e = hzs G m e
  | 0, m, e, h, _ => by rw [hzs_out h0 m e (by omega)]; rfl
  | n + 1, 0, e, _, h => by rw [hzs_out h0 (n + 1) e (by omega)]; rfl
  | n + 1, m + 1, e, h1, h2 => by rw [hzs, hzs, hzs_same h0 n m _ (by omega) (by omega)]
def dz (lo : Int) (G : Int → Int) (e : Int) : Int := hzs G (e - lo).toNat e
theorem dz_z {G : Int → Int} {lo : Int} (h0 : ∀ e, e < lo → G e = 0) (e : Int) : cvF (dz lo G) (zk 1) e = G e := by
  rw [cvF_z]
  unfold dz
  rcases Int.lt_or_le e lo with h | h
  · rw [hzs_out h0 _ _ (by omega), hzs_out h0 _ _ (by omega), h0 e h]; rfl
  · have e1 : (e + 1 - lo).toNat = (e - lo).toNat + 1 := by omega
    rw [e1, hzs, show e + 1 - 1 = e by omega, show e + 1 - 2 = e - 1 by omega, hzs_same h0 (e - lo).toNat (e - 1 - lo).toNat (e - 1) (by omega) (by omega)]
    omega
theorem dz_low {G : Int → Int} {lo : Int} (h0 : ∀ e, e < lo → G e = 0) (e : Int) (h : e < lo) : dz lo G e = 0 := hzs_out h0 _ _ (by omega)
theorem hzs_bd {G : Int → Int} {M E : Int} (hM : ∀ e, e < E → -M ≤ G e ∧ G e ≤ M) : ∀ (n : Nat) (e : Int), e ≤ E → -(n * M) ≤ hzs G n e ∧ hzs G n e ≤ n * M
  | 0, e, _ => by simp [hzs]
  | n + 1, e, h => by
    have h1 := hM (e - 1) (by omega)
    have h2 := hzs_bd hM n (e - 2) (by omega)
    rw [hzs, show ((n + 1 : Nat) : Int) * M = n * M + M by rw [Int.natCast_add, Int.add_mul]; simp]
    omega
theorem dz_bd {G : Int → Int} {M E lo : Int} {D : Nat} (hM0 : 0 ≤ M) (hM : ∀ e, e < E → -M ≤ G e ∧ G e ≤ M) (hD : E - lo ≤ D) (e : Int) (he : e < E) : -(D * M) ≤ dz lo G e ∧ dz lo G e ≤ D * M := by
  have h := hzs_bd hM (e - lo).toNat e (by omega)
  have h2 : (((e - lo).toNat : Nat) : Int) * M ≤ D * M := Int.mul_le_mul_of_nonneg_right (by omega) hM0
  unfold dz
  omega
/-- the series whose product with z^k is P -/
def dzk (lo : Int) (P : Int → Int) : Nat → Int → Int
  | 0 => P
  | k + 1 => dz lo (dzk lo P k)
theorem dzk_low {P : Int → Int} {lo : Int} (h0 : ∀ e, e < lo → P e = 0) : ∀ (k : Nat) (e : Int), e < lo → dzk lo P k e = 0
  | 0, e, h => h0 e h
  | k + 1, e, h => dz_low (dzk_low h0 k) e h
theorem dzk_z {P : Int → Int} {lo : Int} (h0 : ∀ e, e < lo → P e = 0) : ∀ (k : Nat), k ≤ 3 → ∀ e, cvF (dzk lo P k) (zk k) e = P e
  | 0, _, e => cvF_one _ e
  | k + 1, hk, e => by
    rw [zk_succ (by omega), show cvF (dzk lo P (k + 1)) (zk 1) = dzk lo P k from funext (dz_z (dzk_low h0 k))]
    exact dzk_z h0 k (by omega) e
theorem dzk_bd {P : Int → Int} {M E lo : Int} {D : Nat} (hM0 : 0 ≤ M) (hM : ∀ e, e < E → -M ≤ P e ∧ P e ≤ M) (hD : E - lo ≤ D) : ∀ (k : Nat) (e : Int), e < E → -((D : Int) ^ k * M) ≤ dzk lo P k e ∧ dzk lo P k e ≤ (D : Int) ^ k * M
  | 0, e, h => by rw [Int.pow_zero, Int.one_mul]; exact hM e h
  | k + 1, e, h => by
    have h1 : 0 ≤ (D : Int) ^ k * M := Int.mul_nonneg (Int.pow_nonneg (by omega)) hM0
    have h2 := dz_bd h1 (dzk_bd hM0 hM hD k) hD e h
    rw [show (D : Int) ^ (k + 1) * M = D * ((D : Int) ^ k * M) by rw [Int.pow_succ, Int.mul_comm ((D : Int) ^ k) D, Int.mul_assoc]]
    exact h2
/-- what the division finds stays small -/
theorem RS_small {P : Int → Int} {M lp E : Int} {D k : Nat} (hk : k ≤ 3) (h0 : ∀ e, e < lp → P e = 0) (hM0 : 0 ≤ M) (hM : ∀ e, e < E → -M ≤ P e ∧ P e ≤ M) (hD : E - lp ≤ D) (n : Nat) (hn : lp + k + n ≤ E) (i : Nat) (hi : i < n) :
    -((D : Int) ^ k * M) ≤ RS P lp (-(k : Int)) (zk k) i (lp + i) ∧ RS P lp (-(k : Int)) (zk k) i (lp + i) ≤ (D : Int) ^ k * M := by
  rw [RS_series (F := dzk lp P k) (zk_beg hk) (dzk_low h0 k) (dzk_z h0 k hk) h0 n i hi]
  exact dzk_bd hM0 hM hD k _ (by omega)
end Go.Proofs.YtnmidhlghhephaaGreatDoor

namespace Go.Proofs.YtnmidhlghhephaaGreatDoor
open Go.RowKit
set_option linter.unusedVariables false
section
variable {P : Program} {ops : Array Oper} {Q : Exit → Act → World → Prop}
/-- the guard of an operation is met -/
def gOk (ops : Array Oper) (o : Oper) (b : Act) : Prop := match o.guard with
  | none => True
  | some (j, want) => ∃ d : Nat, (ops[j]?.bind (·.dst)) = some d ∧ b.tmps[d]?.getD undef = .bool want
theorem gOk.wanted {o : Oper} {b : Act} (h : gOk ops o b) : Region.wanted o (yielded ops b.tmps) = true := by
  unfold gOk at h
  unfold Region.wanted
  cases hg : o.guard with
  | none => rfl
  | some p =>
    obtain ⟨j, want⟩ := p
    rw [hg] at h
    obtain ⟨d, hd, hv⟩ := h
    have hv2 : b.tmps[d]? = some (.bool want) := by
      cases ht : b.tmps[d]? with
      | none => rw [ht] at hv; simp [undef] at hv
      | some u => rw [ht] at hv; simp at hv; rw [hv]
    show (yielded ops b.tmps j == some want) = true
    unfold yielded
    rw [hd, Option.bind_some, hv2]
    simp
theorem wpOp_met {i : Nat} {o : Oper} {a : Act} {w : World} {K : Act → World → Prop} (h : ops[i]? = some o) (hg : Region.wanted o (yielded ops a.tmps) = true) (hw : o.wp P a w K Q) : wpOp P ops Q i K a w := by
  unfold wpOp
  simp only [h, hg, if_true]
  exact .inl hw
end
section
variable {P : Program} {Q : Exit → Act → World → Prop}
end
end Go.Proofs.YtnmidhlghhephaaGreatDoor

namespace Go.Proofs.YtnmidhlghhephaaGreatDoor
open Go.RowKit
set_option linter.unusedVariables false
section
variable {P : Program} {ops : Array Oper} {Q : Exit → Act → World → Prop}
/-- the guard of an operation is not met (it is the other truth value, or it was not asked itself) -/
def gNo (ops : Array Oper) (o : Oper) (b : Act) : Prop := match o.guard with
  | none => False
  | some (j, want) => ∃ d : Nat, (ops[j]?.bind (·.dst)) = some d ∧ (b.tmps[d]?.getD undef = .bool (!want) ∨ b.tmps[d]?.getD undef = undef)
theorem gNo.wanted {o : Oper} {b : Act} (h : gNo ops o b) : Region.wanted o (yielded ops b.tmps) = false := by
  unfold gNo at h
  unfold Region.wanted
  cases hg : o.guard with
  | none => rw [hg] at h; exact absurd h id
  | some p =>
    obtain ⟨j, want⟩ := p
    rw [hg] at h
    obtain ⟨d, hd, hv⟩ := h
    show (yielded ops b.tmps j == some want) = false
    unfold yielded
    rw [hd, Option.bind_some]
    rcases hv with hv | hv
    · cases ht : b.tmps[d]? with
      | none => simp
      | some u =>
        rw [ht] at hv
        simp only [Option.getD_some] at hv
        rw [hv]
        cases want <;> simp
    · cases ht : b.tmps[d]? with
      | none => simp
      | some u =>
        rw [ht] at hv
        simp only [Option.getD_some] at hv
        rw [hv]
        simp [undef]
theorem wpOp_skip {i : Nat} {o : Oper} {a : Act} {w : World} {K : Act → World → Prop} (h : ops[i]? = some o) (hg : Region.wanted o (yielded ops a.tmps) = false) (hw : K (a.put o.dst undef) w) : wpOp P ops Q i K a w := by
  unfold wpOp
  simp only [h, hg]
  exact hw
/-- the region by facts, guards met or not -/
theorem wp_region_facts2X {id : Nat} {l : List Oper} {a : Act} {w : World} (hm : P.follows .mixedOrders = true) (hd : apartD (dstOf l.toArray) = true) (hb : backD l.toArray = true) (hn : inD a.tmps.size (dstOf l.toArray) = true)
    (I : (Nat → Bool) → (Nat → Value) → World → Prop)
    (h0 : I (fun _ => false) (fun j => slotV a ((dstOf l.toArray).getD (j - 0) none)) w.drew)
    (hstep : AllOps (fun i o => ∀ D x w (b : Act), I D x w → D i = false → (∀ j ∈ deps o, D j = true) → (∀ j, D j = true → ∀ k ∈ depsAt l.toArray j, D k = true) → (∀ t : Nat, b.tmps[t]?.getD undef = look (dstOf l.toArray) x a t) → (gOk l.toArray o b ∧ o.wp P b w (StepPost I D x i b o.dst) NoQ) ∨ (gNo l.toArray o b ∧ I (upd D i true) (upd x i undef) w)) 0 l)
    (hend : ∀ D x w, I D x w → (∀ i, i < l.length → D i = true) → Q .normal (putAll (dstOf l.toArray) 0 x a) w) : (Code.region id l.toArray true).wp P Q a w := by
  refine wp_region_facts2 hm hd hb I h0 (fun i o ho D x w hI hD hdep hcl => ?_) (fun D x w hI h => hend D x w hI (by simpa using h))
  have ho' : l[i]? = some o := by simpa using ho
  have := hstep.get _ _ i o ho' D x w (putAll (dstOf l.toArray) 0 x a)
  rw [Nat.zero_add] at this
  have h2 := this hI hD hdep hcl (fun t => by
    rw [← Array.getD_eq_getD_getElem?, putAll_look _ _ _ _ _ hd hn]
    unfold look
    simp only [Nat.zero_add])
  rcases h2 with ⟨h2, h3⟩ | ⟨h2, h3⟩
  · exact wpOp_met ho h2.wanted (wp_noQ h3)
  · exact wpOp_skip ho h2.wanted ⟨undef, rfl, h3⟩
end
section
variable {P : Program} {Q : Exit → Act → World → Prop}
/-- behind one operation -/
def PhxPost (T : World → World → Prop) (w : World) (Φ : Nat → Value → World → Prop) (i : Nat) (b : Act) (d : Option Tmp) (a' : Act) (w' : World) : Prop := ∃ v, a' = b.put d v ∧ T w w' ∧ Φ i v w'
def PhxI (T : World → World → Prop) (w0 : World) (n : Nat) (Φ : Nat → Value → World → Prop) (R : (Nat → Value) → World → Prop) (x0 : Nat → Value) (D : Nat → Bool) (x : Nat → Value) (w : World) : Prop := if D n = true then R x w else T w0 w ∧ (∀ i, D i = true → Φ i (x i) w) ∧ ∀ i, D i = false → x i = x0 i
/-- n: the store at the end (n = the number of operations: there is none) -/
theorem wp_region_phx {id : Nat} {l : List Oper} {a : Act} {w0 : World} (T : World → World → Prop) (Tr : ∀ {a b c}, T a b → T b c → T a c) (T0 : T w0 w0.drew) (n : Nat) (hm : P.follows .mixedOrders = true) (hd : apartD (dstOf l.toArray) = true) (hb : backD l.toArray = true) (hn : inD a.tmps.size (dstOf l.toArray) = true)
    (hlen : l.length = n + 1) (hneed : needB l.toArray n = true)
    (Φ : Nat → Value → World → Prop) (hΦ : ∀ i v w w', Φ i v w → T w w' → Φ i v w') (R : (Nat → Value) → World → Prop)
    (hstep : AllOps (fun i o => ∀ (x : Nat → Value) w (b : Act), T w0 w → (∀ j ∈ deps o, Φ j (x j) w) → (∀ j, i ∈ depsAt l.toArray j → x j = slotV a ((dstOf l.toArray).getD (j - 0) none)) → (∀ t : Nat, b.tmps[t]?.getD undef = look (dstOf l.toArray) x a t) →
      (i < n → (gOk l.toArray o b ∧ o.wp P b w (PhxPost T w Φ i b o.dst) NoQ) ∨ (gNo l.toArray o b ∧ Φ i undef w)) ∧ (i = n → (∀ j, j < n → Φ j (x j) w) → gOk l.toArray o b ∧ o.wp P b w (fun a' w' => ∃ v, a' = b.put o.dst v ∧ R (upd x n v) w') NoQ)) 0 l)
    (hend : ∀ (x : Nat → Value) w, R x w → Q .normal (putAll (dstOf l.toArray) 0 x a) w) : (Code.region id l.toArray true).wp P Q a w0 := by
  refine wp_region_facts2X hm hd hb hn (PhxI T w0 n Φ R (fun j => slotV a ((dstOf l.toArray).getD (j - 0) none))) ?_ ?_ ?_
  · unfold PhxI
    rw [if_neg (by simp)]
    exact ⟨T0, fun i h => Bool.noConfusion h, fun _ _ => rfl⟩
  · have key : ∀ k o, l[k]? = some o → ∀ D x W (b : Act), PhxI T w0 n Φ R (fun j => slotV a ((dstOf l.toArray).getD (j - 0) none)) D x W → D k = false → (∀ j ∈ deps o, D j = true) → (∀ j, D j = true → ∀ q ∈ depsAt l.toArray j, D q = true) → (∀ t : Nat, b.tmps[t]?.getD undef = look (dstOf l.toArray) x a t) → (gOk l.toArray o b ∧ o.wp P b W (StepPost (PhxI T w0 n Φ R (fun j => slotV a ((dstOf l.toArray).getD (j - 0) none))) D x k b o.dst) NoQ) ∨ (gNo l.toArray o b ∧ PhxI T w0 n Φ R (fun j => slotV a ((dstOf l.toArray).getD (j - 0) none)) (upd D k true) (upd x k undef) W) := by
      intro k o ho D x W b hI hD hdep hcl hbt
      have hk : k ≤ n := by have := (List.getElem?_eq_some_iff.1 ho).1; omega
      have hDn : D n = false := by
        cases h : D n with
        | false => rfl
        | true => have := need_all hneed hcl h _ k hk (Nat.le_refl _); rw [this] at hD; cases hD
      unfold PhxI at hI
      rw [hDn, if_neg (by simp)] at hI
      have hs := hstep.get _ _ k o ho x W b hI.1 (fun j hj => hI.2.1 j (hdep j hj)) (fun j hj => hI.2.2 j (by
        cases h : D j with
        | false => rfl
        | true =>
          rw [Nat.zero_add] at hj
          have := hcl j h k hj
          rw [hD] at this; cases this)) hbt
      rw [Nat.zero_add] at hs
      have hnext : ∀ v w', T W w' → Φ k v w' → k ≠ n → PhxI T w0 n Φ R (fun j => slotV a ((dstOf l.toArray).getD (j - 0) none)) (upd D k true) (upd x k v) w' := by
        intro v w' hb' hv hkn
        unfold PhxI
        rw [upd_ne _ _ (show n ≠ k from fun e => hkn e.symm), hDn, if_neg (by simp)]
        refine ⟨Tr hI.1 hb', fun i hi => ?_, fun i hi => ?_⟩
        · by_cases e : i = k
          · subst e; rw [upd_same]; exact hv
          · rw [upd_ne _ _ e] at hi ⊢
            exact hΦ i (x i) W w' (hI.2.1 i hi) hb'
        · by_cases e : i = k
          · subst e; rw [upd_same] at hi; cases hi
          · rw [upd_ne _ _ e] at hi ⊢
            exact hI.2.2 i hi
      by_cases hkn : k = n
      · subst hkn
        have hDall : ∀ j, j < k → D j = true := by
          intro j hj
          have hcl' : ∀ j, upd D k true j = true → ∀ q ∈ depsAt l.toArray j, upd D k true q = true := by
            intro j hj q hq
            by_cases eq : q = k
            · subst eq; rw [upd_same]
            rw [upd_ne _ _ eq]
            by_cases ej : j = k
            · subst ej
              have : depsAt l.toArray j = deps o := by
                have h1 : l.toArray[j]? = some o := by simpa using ho
                simp [depsAt, h1]
              rw [this] at hq
              exact hdep q hq
            · rw [upd_ne _ _ ej] at hj
              exact hcl j hj q hq
          have := need_all hneed hcl' (upd_same _ _ _) _ j (by omega) (Nat.le_refl _)
          rwa [upd_ne _ _ (show j ≠ k by omega)] at this
        obtain ⟨g1, g2⟩ := hs.2 rfl (fun j hj => hI.2.1 j (hDall j hj))
        refine .inl ⟨g1, Oper.wp_mono ?_ g2⟩
        rintro a' w' ⟨v, rfl, hR⟩
        refine ⟨v, rfl, ?_⟩
        unfold PhxI
        rw [if_pos (upd_same _ _ _)]
        exact hR
      · rcases hs.1 (by omega) with ⟨g1, g2⟩ | ⟨g1, g2⟩
        · refine .inl ⟨g1, Oper.wp_mono ?_ g2⟩
          rintro a' w' ⟨v, rfl, hb', hv⟩
          exact ⟨v, rfl, hnext v w' hb' hv hkn⟩
        · refine .inr ⟨g1, ?_⟩
          unfold PhxI
          rw [upd_ne _ _ (show n ≠ k from fun e => hkn e.symm), hDn, if_neg (by simp)]
          refine ⟨hI.1, fun i hi => ?_, fun i hi => ?_⟩
          · by_cases e : i = k
            · subst e; rw [upd_same]; exact g2
            · rw [upd_ne _ _ e] at hi ⊢
              exact hI.2.1 i hi
          · by_cases e : i = k
            · subst e; rw [upd_same] at hi; cases hi
            · rw [upd_ne _ _ e] at hi ⊢
              exact hI.2.2 i hi
    have aux : ∀ (r : List Oper) (s : Nat), (∀ k, r[k]? = l[s + k]?) → AllOps (fun i o => ∀ D x W (b : Act), PhxI T w0 n Φ R (fun j => slotV a ((dstOf l.toArray).getD (j - 0) none)) D x W → D i = false → (∀ j ∈ deps o, D j = true) → (∀ j, D j = true → ∀ q ∈ depsAt l.toArray j, D q = true) → (∀ t : Nat, b.tmps[t]?.getD undef = look (dstOf l.toArray) x a t) → (gOk l.toArray o b ∧ o.wp P b W (StepPost (PhxI T w0 n Φ R (fun j => slotV a ((dstOf l.toArray).getD (j - 0) none))) D x i b o.dst) NoQ) ∨ (gNo l.toArray o b ∧ PhxI T w0 n Φ R (fun j => slotV a ((dstOf l.toArray).getD (j - 0) none)) (upd D i true) (upd x i undef) W)) s r := by
      intro r
      induction r with
      | nil => intro s _; trivial
      | cons o r ih =>
        intro s hr
        refine ⟨key s o (by have := hr 0; simpa using this.symm), ih (s + 1) (fun k => ?_)⟩
        have := hr (k + 1)
        rw [List.getElem?_cons_succ] at this
        rw [this]; congr 1; omega
    exact aux l 0 (fun k => by rw [Nat.zero_add])
  · intro D x W hI hall
    have hDn := hall n (by omega)
    unfold PhxI at hI
    rw [if_pos hDn] at hI
    exact hend x W hI
/-- the same without a store at the end -/
theorem wp_region_phy {id : Nat} {l : List Oper} {a : Act} {w0 : World} (T : World → World → Prop) (Tr : ∀ {a b c}, T a b → T b c → T a c) (T0 : T w0 w0.drew) (hm : P.follows .mixedOrders = true) (hd : apartD (dstOf l.toArray) = true) (hb : backD l.toArray = true) (hn : inD a.tmps.size (dstOf l.toArray) = true)
    (Φ : Nat → Value → World → Prop) (hΦ : ∀ i v w w', Φ i v w → T w w' → Φ i v w')
    (hstep : AllOps (fun i o => ∀ (x : Nat → Value) w (b : Act), T w0 w → (∀ j ∈ deps o, Φ j (x j) w) → (∀ j, i ∈ depsAt l.toArray j → x j = slotV a ((dstOf l.toArray).getD (j - 0) none)) → (∀ t : Nat, b.tmps[t]?.getD undef = look (dstOf l.toArray) x a t) →
      (gOk l.toArray o b ∧ o.wp P b w (PhxPost T w Φ i b o.dst) NoQ) ∨ (gNo l.toArray o b ∧ Φ i undef w)) 0 l)
    (hend : ∀ (x : Nat → Value) w, T w0 w → (∀ i, i < l.length → Φ i (x i) w) → Q .normal (putAll (dstOf l.toArray) 0 x a) w) : (Code.region id l.toArray true).wp P Q a w0 := by
  refine wp_region_facts2X hm hd hb hn (fun D x w => T w0 w ∧ (∀ i, D i = true → Φ i (x i) w) ∧ ∀ i, D i = false → x i = (fun j => slotV a ((dstOf l.toArray).getD (j - 0) none)) i) ⟨T0, fun i h => Bool.noConfusion h, fun _ _ => rfl⟩ ?_ ?_
  · have key : ∀ k o, l[k]? = some o → ∀ D x W (b : Act), (T w0 W ∧ (∀ i, D i = true → Φ i (x i) W) ∧ ∀ i, D i = false → x i = (fun j => slotV a ((dstOf l.toArray).getD (j - 0) none)) i) → D k = false → (∀ j ∈ deps o, D j = true) → (∀ j, D j = true → ∀ q ∈ depsAt l.toArray j, D q = true) → (∀ t : Nat, b.tmps[t]?.getD undef = look (dstOf l.toArray) x a t) → (gOk l.toArray o b ∧ o.wp P b W (StepPost (fun D x w => T w0 w ∧ (∀ i, D i = true → Φ i (x i) w) ∧ ∀ i, D i = false → x i = (fun j => slotV a ((dstOf l.toArray).getD (j - 0) none)) i) D x k b o.dst) NoQ) ∨ (gNo l.toArray o b ∧ (T w0 W ∧ (∀ i, upd D k true i = true → Φ i (upd x k undef i) W) ∧ ∀ i, upd D k true i = false → upd x k undef i = (fun j => slotV a ((dstOf l.toArray).getD (j - 0) none)) i)) := by
      intro k o ho D x W b hI hD hdep hcl hbt
      have hs := hstep.get _ _ k o ho x W b hI.1 (fun j hj => hI.2.1 j (hdep j hj)) (fun j hj => hI.2.2 j (by
        cases h : D j with
        | false => rfl
        | true =>
          rw [Nat.zero_add] at hj
          have := hcl j h k hj
          rw [hD] at this; cases this)) hbt
      rw [Nat.zero_add] at hs
      rcases hs with ⟨g1, g2⟩ | ⟨g1, g2⟩
      · refine .inl ⟨g1, Oper.wp_mono ?_ g2⟩
        rintro a' w' ⟨v, rfl, hb', hv⟩
        refine ⟨v, rfl, Tr hI.1 hb', fun i hi => ?_, fun i hi => ?_⟩
        · by_cases e : i = k
          · subst e; rw [upd_same]; exact hv
          · rw [upd_ne _ _ e] at hi ⊢
            exact hΦ i (x i) W w' (hI.2.1 i hi) hb'
        · by_cases e : i = k
          · subst e; rw [upd_same] at hi; cases hi
          · rw [upd_ne _ _ e] at hi ⊢
            exact hI.2.2 i hi
      · refine .inr ⟨g1, hI.1, fun i hi => ?_, fun i hi => ?_⟩
        · by_cases e : i = k
          · subst e; rw [upd_same]; exact g2
          · rw [upd_ne _ _ e] at hi ⊢
            exact hI.2.1 i hi
        · by_cases e : i = k
          · subst e; rw [upd_same] at hi; cases hi
          · rw [upd_ne _ _ e] at hi ⊢
            exact hI.2.2 i hi
    have aux : ∀ (r : List Oper) (s : Nat), (∀ k, r[k]? = l[s + k]?) → AllOps (fun k o => ∀ D x W (b : Act), (T w0 W ∧ (∀ i, D i = true → Φ i (x i) W) ∧ ∀ i, D i = false → x i = (fun j => slotV a ((dstOf l.toArray).getD (j - 0) none)) i) → D k = false → (∀ j ∈ deps o, D j = true) → (∀ j, D j = true → ∀ q ∈ depsAt l.toArray j, D q = true) → (∀ t : Nat, b.tmps[t]?.getD undef = look (dstOf l.toArray) x a t) → (gOk l.toArray o b ∧ o.wp P b W (StepPost (fun D x w => T w0 w ∧ (∀ i, D i = true → Φ i (x i) w) ∧ ∀ i, D i = false → x i = (fun j => slotV a ((dstOf l.toArray).getD (j - 0) none)) i) D x k b o.dst) NoQ) ∨ (gNo l.toArray o b ∧ (T w0 W ∧ (∀ i, upd D k true i = true → Φ i (upd x k undef i) W) ∧ ∀ i, upd D k true i = false → upd x k undef i = (fun j => slotV a ((dstOf l.toArray).getD (j - 0) none)) i))) s r := by
      intro r
      induction r with
      | nil => intro s _; trivial
      | cons o r ih =>
        intro s hr
        refine ⟨key s o (by have := hr 0; simpa using this.symm), ih (s + 1) (fun k => ?_)⟩
        have := hr (k + 1)
        rw [List.getElem?_cons_succ] at this
        rw [this]; congr 1; omega
    exact aux l 0 (fun k => by rw [Nat.zero_add])
  · intro D x W hI hall
    exact hend x W hI.1 (fun i hi => hI.2.1 i (hall i hi))
variable {w : World} {T : World → World → Prop} {Φ : Nat → Value → World → Prop} {i : Nat} {b : Act} {o : Oper}
theorem phx_run (v : Value) (h : (execOp b.eval o).run P w = .ok (.value v) w) (hT : T w w) (hv : Φ i v w) : o.wp P b w (PhxPost T w Φ i b o.dst) NoQ := by
  unfold Oper.wp; rw [h]; exact ⟨v, rfl, hT, hv⟩
theorem phx_make (v : Value) (w' : World) (h : (execOp b.eval o).run P w = .ok (.value v) w') (hb : T w w') (hv : Φ i v w') : o.wp P b w (PhxPost T w Φ i b o.dst) NoQ := by
  unfold Oper.wp; rw [h]; exact ⟨v, rfl, hb, hv⟩
theorem phx_call {f : FuncId} {args : Array Value} (h : (execOp b.eval o).run P w = .ok (.enter f args) w) (hc : Calls P f args w fun e w' => ∃ v, e = .returned v ∧ T w w' ∧ Φ i v w') : o.wp P b w (PhxPost T w Φ i b o.dst) NoQ := by
  unfold Oper.wp; rw [h]
  simp only [Oper.upon]
  refine hc.mono ?_
  rintro e w' ⟨v, rfl, hb, hv⟩
  exact ⟨v, rfl, hb, hv⟩
theorem phx_st {R : World → Prop} (W : World) (h : (execOp b.eval o).run P w = .ok .skip W) (ho : o.dst = none) (hR : R W) : o.wp P b w (fun a' w' => ∃ v, a' = b.put o.dst v ∧ R w') NoQ := by
  unfold Oper.wp; rw [h]; exact ⟨undef, by rw [ho], hR⟩
end
end Go.Proofs.YtnmidhlghhephaaGreatDoor

namespace Go.Proofs.YtnmidhlghhephaaGreatDoor
open Go.RowKit
set_option linter.unusedVariables false
/-- what an append to v0 has left as it was; v: the slice that came -/
structure Kpt (B : Nat) (w0 w : World) (v0 v : Value) : Prop where
  bel : Below B w0 w
  keep : ∀ k, k < w0.heap.size → v0.ownBlock ≠ some k → w.heap[k]? = w0.heap[k]?
  blk : ∀ k, v.ownBlock = some k → v0.ownBlock = some k ∨ w0.heap.size ≤ k
section
variable {α : Type}
/-- c: the literal; a: the append; f: the store at p -/
structure ApS (e : TypeId) (sz : Nat) (enc : α → List Value) (B : Nat) (w0 : World) (ev : Nat → Option Value) (c a f : Nat) (v0 : Value) (p : Addr) (L LIT : List α) (D : Nat → Bool) (x : Nat → Value) (w : World) : Prop where
  kn : ∀ i v, ev i = some v → D i = true → x i = v
  pre : D a = false → D f = false → Below w0.heap.size w0 w
  lit : D c = true → D a = false → D f = false → OwnA e sz enc w0.heap.size w (x c) LIT
  mid : D a = true → D f = false → OwnA e sz enc B w (x a) (L ++ LIT) ∧ Kpt B w0 w v0 (x a)
  fin : D f = true → ∃ W v, w = W.setCell p v ∧ OwnA e sz enc B W v (L ++ LIT) ∧ Kpt B w0 W v0 v
variable {e : TypeId} {sz : Nat} {enc : α → List Value} {B : Nat} {w0 w w' : World} {ev : Nat → Option Value} {c a f : Nat} {v0 : Value} {p : Addr} {L LIT : List α} {D : Nat → Bool} {x : Nat → Value}
theorem ApS.start : ApS e sz enc B w0 ev c a f v0 p L LIT (fun _ => false) x w0.drew :=
  ⟨fun i v _ h => Bool.noConfusion h, fun _ _ => (Below.refl _ _).drew, fun h => Bool.noConfusion h, fun h => Bool.noConfusion h, fun h => Bool.noConfusion h⟩
theorem ApS.val (h : ApS e sz enc B w0 ev c a f v0 p L LIT D x w) {i : Nat} {v : Value} (hv : ev i = some v) (h1 : i ≠ c) (h2 : i ≠ a) (h3 : i ≠ f) : ApS e sz enc B w0 ev c a f v0 p L LIT (upd D i true) (upd x i v) w := by
  refine ⟨fun j u hu hd => ?_, fun d1 d2 => ?_, fun d1 d2 d3 => ?_, fun d1 d2 => ?_, fun d => ?_⟩
  · by_cases e : j = i
    · subst e; rw [upd_same]; rw [hv] at hu; injection hu
    · rw [upd_ne _ _ e] at hd ⊢; exact h.kn j u hu hd
  · rw [upd_ne _ _ (Ne.symm h2)] at d1; rw [upd_ne _ _ (Ne.symm h3)] at d2; exact h.pre d1 d2
  · rw [upd_ne _ _ (Ne.symm h1)] at d1 ⊢; rw [upd_ne _ _ (Ne.symm h2)] at d2; rw [upd_ne _ _ (Ne.symm h3)] at d3; exact h.lit d1 d2 d3
  · rw [upd_ne _ _ (Ne.symm h2)] at d1 ⊢; rw [upd_ne _ _ (Ne.symm h3)] at d2; exact h.mid d1 d2
  · rw [upd_ne _ _ (Ne.symm h3)] at d; exact h.fin d
theorem ApS.call (h : ApS e sz enc B w0 ev c a f v0 p L LIT D x w) {v : Value} (hev : ev c = none) (h1 : c ≠ a) (h2 : c ≠ f) (ha : D a = false) (hf : D f = false) (hb : Below w.heap.size w w') (ho : OwnA e sz enc w.heap.size w' v LIT) : ApS e sz enc B w0 ev c a f v0 p L LIT (upd D c true) (upd x c v) w' := by
  have hp := h.pre ha hf
  refine ⟨fun j u hu hd => ?_, fun d1 d2 => hp.trans (hb.mono hp.size), fun d1 d2 d3 => by rw [upd_same]; exact ho.low hp.size, fun d1 d2 => ?_, fun d => ?_⟩
  · have e : j ≠ c := fun e => (by rw [e, hev] at hu; cases hu)
    rw [upd_ne _ _ e] at hd ⊢; exact h.kn j u hu hd
  · rw [upd_ne _ _ (Ne.symm h1), ha] at d1; cases d1
  · rw [upd_ne _ _ (Ne.symm h2), hf] at d; cases d
theorem ApS.app {P : Program} (E : ElA P e sz enc) (h : ApS e sz enc B w0 ev c a f v0 p L LIT D x w) {o : Oper} {b : Act} (sx ux : Operand) (t t2 : TypeId) (ho : o.op = .call { callee := .builtin .append, args := #[sx, ux], argTypes := #[t, t2] })
    (ht : P.underlying t = some (.slice e)) (ht2 : P.underlying t2 = some (.slice e)) (hev : ev a = none) (hca : c ≠ a) (haf : a ≠ f) (hc : D c = true) (ha : D a = false) (hf : D f = false)
    (he1 : b.eval sx = v0) (he2 : b.eval ux = x c) (hv0 : OwnA e sz enc B w0 v0 L) (hB : B ≤ w0.heap.size) (hlen : L.length + LIT.length ≤ 100000000) : o.wp P b w (StepPost (ApS e sz enc B w0 ev c a f v0 p L LIT) D x a b o.dst) NoQ := by
  have hp := h.pre ha hf
  have hl := h.lit hc ha hf
  refine wp_appA (P := P) (base := B) E sx ux t t2 ho ht ht2 he1 (hv0.below hp) he2 hl.sl (by omega) (Nat.le_trans hB hp.size) ?_
  intro v' w' h1 h2 h3 h4
  refine ⟨v', rfl, fun j u hu hd => ?_, fun d1 d2 => ?_, fun d1 d2 d3 => ?_, fun d1 d2 => ?_, fun d => ?_⟩
  · have e : j ≠ a := fun e => (by rw [e, hev] at hu; cases hu)
    rw [upd_ne _ _ e] at hd ⊢; exact h.kn j u hu hd
  · rw [upd_same] at d1; cases d1
  · rw [upd_same] at d2; cases d2
  · rw [upd_same]
    refine ⟨h1, (hp.mono hB).trans h2, fun k hk hne => (h3 k (Nat.lt_of_lt_of_le hk hp.size) hne).trans (hp.block k hk), fun k hk => ?_⟩
    rcases h4 with q | q
    · rw [q] at hk; exact .inl hk
    · rw [q] at hk
      injection hk with hk
      subst hk
      exact .inr hp.size
  · rw [upd_ne _ _ (Ne.symm haf), hf] at d; cases d
theorem ApS.store (h : ApS e sz enc B w0 ev c a f v0 p L LIT D x w) (hev : ev f = none) (ha : D a = true) (hf : D f = false) (v : Value) : ApS e sz enc B w0 ev c a f v0 p L LIT (upd D f true) (upd x f v) (w.setCell p (x a)) := by
  obtain ⟨m1, m2⟩ := h.mid ha hf
  refine ⟨fun j u hu hd => ?_, fun d1 d2 => ?_, fun d1 d2 d3 => ?_, fun d1 d2 => ?_, fun d => ⟨w, x a, rfl, m1, m2⟩⟩
  · have e : j ≠ f := fun e => (by rw [e, hev] at hu; cases hu)
    rw [upd_ne _ _ e] at hd ⊢; exact h.kn j u hu hd
  · rw [upd_same] at d2; cases d2
  · rw [upd_same] at d3; cases d3
  · rw [upd_same] at d2; cases d2
theorem Kpt.arr {g : Nat} {t : TypeId} {cs : List Value} {v : Value} (h : Kpt B w0 w v0 v) (hg : Arr w0 g t cs) (hne : v0.ownBlock ≠ some g) : Arr w g t cs := (h.keep g hg.lt hne).trans hg
end
end Go.Proofs.YtnmidhlghhephaaGreatDoor

namespace Go.Proofs.YtnmidhlghhephaaGreatDoor
open Go.RowKit
set_option linter.unusedVariables false
section
variable {P : Program} {Q : Exit → Act → World → Prop}
theorem wp_region_phim {id : Nat} {l : List Oper} {a : Act} {w0 : World} (n : Nat) (late : Nat → Bool) (hm : P.follows .mixedOrders = true) (hd : apartD (dstOf l.toArray) = true) (hb : backD l.toArray = true) (hg : l.all (fun o => o.guard.isNone) = true) (hn : inD a.tmps.size (dstOf l.toArray) = true)
    (hlt : late n = false) (hnl2 : n < l.length) (hneed : needL l.toArray n late = true)
    (e : Nat → Option Value) (Φ : Nat → Value → World → Prop) (hΦ : ∀ i v w w', Φ i v w → Below w.heap.size w w' → Φ i v w') (hv : ∀ i u v w, Φ i u w → e i = some v → u = v) (R : (Nat → Value) → World → Prop) (hRl : ∀ x w i v, late i = true → R x w → R (upd x i v) w)
    (hstep : AllOps (fun i o => ∀ (x : Nat → Value) w (b : Act), (∀ j, i ∈ depsAt l.toArray j → x j = slotV a ((dstOf l.toArray).getD (j - 0) none)) → (∀ t : Nat, b.tmps[t]?.getD undef = look (dstOf l.toArray) x a t) →
      (late i = false → i ≠ n → Below w0.heap.size w0 w → (∀ j ∈ deps o, Φ j (x j) w) → o.wp P b w (PhiPost w Φ i b o.dst) NoQ) ∧
      (i = n → Below w0.heap.size w0 w → (∀ j ∈ deps o, Φ j (x j) w) → (∀ j, j < l.length → late j = false → j ≠ n → Φ j (x j) w) → o.wp P b w (fun a' w' => ∃ v, a' = b.put o.dst v ∧ R (upd x n v) w' ∧ ∀ u, e n = some u → v = u) NoQ) ∧
      (late i = true → (∀ j ∈ deps o, ∀ v, e j = some v → x j = v) → (R x w ∨ (Below w0.heap.size w0 w ∧ ∀ j ∈ deps o, Φ j (x j) w)) → ∃ v, e i = some v ∧ (execOp b.eval o).run P w = .ok (.value v) w ∧ Φ i v w)) 0 l)
    (hend : ∀ (x : Nat → Value) w, R x w → (∀ i v, i < l.length → e i = some v → x i = v) → Q .normal (putAll (dstOf l.toArray) 0 x a) w) : (Code.region id l.toArray true).wp P Q a w0 := by
  refine wp_region_facts2U hm hd hb hg hn (PhlI w0 n e Φ R (fun j => slotV a ((dstOf l.toArray).getD (j - 0) none))) ⟨fun i v h => Bool.noConfusion h, fun _ _ => rfl, by rw [if_neg (by simp)]; exact ⟨(Below.refl _ _).drew, fun i h => Bool.noConfusion h⟩⟩ ?_ ?_
  · have key : ∀ k o, l[k]? = some o → ∀ D x W (b : Act), PhlI w0 n e Φ R (fun j => slotV a ((dstOf l.toArray).getD (j - 0) none)) D x W → D k = false → (∀ j ∈ deps o, D j = true) → (∀ j, D j = true → ∀ q ∈ depsAt l.toArray j, D q = true) → (∀ t : Nat, b.tmps[t]?.getD undef = look (dstOf l.toArray) x a t) → o.wp P b W (StepPost (PhlI w0 n e Φ R (fun j => slotV a ((dstOf l.toArray).getD (j - 0) none))) D x k b o.dst) NoQ := by
      intro k o ho D x W b hI hD hdep hcl hbt
      have hklt : k < l.length := (List.getElem?_eq_some_iff.1 ho).1
      have hs := hstep.get _ _ k o ho x W b (fun j hj => hI.old j (by
        cases h : D j with
        | false => rfl
        | true =>
          rw [Nat.zero_add] at hj
          have := hcl j h k hj
          rw [hD] at this; cases this)) hbt
      rw [Nat.zero_add] at hs
      obtain ⟨s1, s2, s3⟩ := hs
      have hold : ∀ v, ∀ i, upd D k true i = false → upd x k v i = slotV a ((dstOf l.toArray).getD (i - 0) none) := fun v i hi => by
        by_cases q : i = k
        · subst q; rw [upd_same] at hi; cases hi
        · rw [upd_ne _ _ q] at hi ⊢; exact hI.old i hi
      have hval : ∀ v, (∀ u, e k = some u → v = u) → ∀ i u, upd D k true i = true → e i = some u → upd x k v i = u := fun v hvk i u hi hu => by
        by_cases q : i = k
        · subst q; rw [upd_same]; exact hvk u hu
        · rw [upd_ne _ _ q] at hi ⊢; exact hI.val i u hi hu
      have hst := hI.st
      by_cases hkn : k = n
      · subst hkn
        rw [hD, if_neg (by simp)] at hst
        have hall : ∀ j, j < l.length → late j = false → j ≠ k → D j = true := by
          intro j hj hlj hjk
          have hcl' : ∀ j, upd D k true j = true → ∀ q ∈ depsAt l.toArray j, upd D k true q = true := by
            intro j hj q hq
            by_cases eq : q = k
            · subst eq; rw [upd_same]
            rw [upd_ne _ _ eq]
            by_cases ej : j = k
            · subst ej
              have : depsAt l.toArray j = deps o := by
                have h1 : l.toArray[j]? = some o := by simpa using ho
                simp [depsAt, h1]
              rw [this] at hq
              exact hdep q hq
            · rw [upd_ne _ _ ej] at hj
              exact hcl j hj q hq
          have := needL_all hneed hcl' (upd_same _ _ _) _ j (by simpa using hj) (Nat.le_refl _) hlj
          rwa [upd_ne _ _ hjk] at this
        refine Oper.wp_mono ?_ (s2 rfl hst.1 (fun j hj => hst.2 j (hdep j hj)) (fun j h1 h2 h3 => hst.2 j (hall j h1 h2 h3)))
        rintro a' w' ⟨v, rfl, hR, hvk⟩
        exact ⟨v, rfl, hval v hvk, hold v, by rw [upd_same, if_pos rfl]; exact hR⟩
      · cases hl : late k with
        | true =>
          obtain ⟨v, hev, hrun, hΦv⟩ := s3 hl (fun j hj u hu => hI.val j u (hdep j hj) hu) (by
            by_cases hDn : D n = true
            · rw [if_pos hDn] at hst; exact .inl hst
            · rw [if_neg hDn] at hst; exact .inr ⟨hst.1, fun j hj => hst.2 j (hdep j hj)⟩)
          unfold Oper.wp
          rw [hrun]
          refine ⟨v, rfl, hval v (fun u hu => by rw [hev] at hu; injection hu), hold v, ?_⟩
          rw [upd_ne _ _ (Ne.symm hkn)]
          by_cases hDn : D n = true
          · rw [if_pos hDn] at hst ⊢; exact hRl _ _ _ _ hl hst
          · rw [if_neg hDn] at hst ⊢
            refine ⟨hst.1, fun i hi => ?_⟩
            by_cases q : i = k
            · subst q; rw [upd_same]; exact hΦv
            · rw [upd_ne _ _ q] at hi ⊢; exact hst.2 i hi
        | false =>
          have hDn : ¬ D n = true := fun hDn => by
            have := needL_all hneed hcl hDn _ k (by simpa using hklt) (Nat.le_refl _) hl
            rw [hD] at this; cases this
          rw [if_neg hDn] at hst
          refine Oper.wp_mono ?_ (s1 hl hkn hst.1 (fun j hj => hst.2 j (hdep j hj)))
          rintro a' w' ⟨v, rfl, hb', hv'⟩
          refine ⟨v, rfl, hval v (fun u hu => hv _ _ _ _ hv' hu), hold v, ?_⟩
          rw [upd_ne _ _ (Ne.symm hkn), if_neg hDn]
          refine ⟨hst.1.trans (hb'.mono hst.1.size), fun i hi => ?_⟩
          by_cases q : i = k
          · subst q; rw [upd_same]; exact hv'
          · rw [upd_ne _ _ q] at hi ⊢
            exact hΦ i (x i) W w' (hst.2 i hi) hb'
    have aux : ∀ (r : List Oper) (s : Nat), (∀ k, r[k]? = l[s + k]?) → AllOps (fun i o => ∀ D x W (b : Act), PhlI w0 n e Φ R (fun j => slotV a ((dstOf l.toArray).getD (j - 0) none)) D x W → D i = false → (∀ j ∈ deps o, D j = true) → (∀ j, D j = true → ∀ q ∈ depsAt l.toArray j, D q = true) → (∀ t : Nat, b.tmps[t]?.getD undef = look (dstOf l.toArray) x a t) → o.wp P b W (StepPost (PhlI w0 n e Φ R (fun j => slotV a ((dstOf l.toArray).getD (j - 0) none))) D x i b o.dst) NoQ) s r := by
      intro r
      induction r with
      | nil => intro s _; trivial
      | cons o r ih =>
        intro s hr
        refine ⟨key s o (by have := hr 0; simpa using this.symm), ih (s + 1) (fun k => ?_)⟩
        have := hr (k + 1)
        rw [List.getElem?_cons_succ] at this
        rw [this]; congr 1; omega
    exact aux l 0 (fun k => by rw [Nat.zero_add])
  · intro D x W hI hall
    have hst := hI.st
    have hnl : n < l.length ∨ ¬ n < l.length := by omega
    by_cases hDn : D n = true
    · rw [if_pos hDn] at hst
      exact hend x W hst (fun i v hi hv2 => hI.val i v (hall i hi) hv2)
    · rcases hnl with h | h
      · exact absurd (hall n h) hDn
      · exact absurd hnl2 h
end
end Go.Proofs.YtnmidhlghhephaaGreatDoor

namespace Go.Proofs.YtnmidhlghhephaaGreatDoor
open Go.RowKit
set_option linter.unusedVariables false
end Go.Proofs.YtnmidhlghhephaaGreatDoor
