/- The number of components is kept by the moves. -/
/- gridmove.Play. -/
/- Queues of elements of some cells: a slice of the call's own that is cut at its head and appended to; a region that draws its order, appends to it and stores it back. -/
/- Maps with string keys, told by a list of their entries: look-up, and a new entry in two steps (mapEntry, entryStore). -/
/- The reference's mod and Shift (layer 42). -/
/- The reference's Ints (layer 1) and Same (layer 42). -/
/- The reference's small functions: In, IsPerm, Valid, Column, lower, split. -/
/- Determinants: expansion along the first column; rows are functions (plain). -/
/- Determinants: bounds, triangles, combinations of rows (plain). -/
/- The determinant of the transpose (plain). -/
import Derived.Test.YteliflcbegcdlaaGreatDoorZCyc
import Derived.Test.YteliflcbegcdlaaGreatDoorZAps
import Derived.Test.YteliflcbegcdlaaGreatDoorZDsm
import Derived.Deep.DeepAppendWide
import Derived.MapKept
import Derived.Below
import Derived.Outline
namespace Go.Proofs.YteliflcbegcdlaaGreatDoor
set_option linter.unusedVariables false
open Go.RowKit
def gt (l : List Int) (i : Nat) : Int := l.getD i 0
theorem gt_get {l : List Int} {i : Nat} (h : i < l.length) : gt l i = l[i] := by simp [gt, List.getD_eq_getElem?_getD, h]
theorem gt_of {l : List Int} {i : Nat} {x : Int} (h : l[i]? = some x) : gt l i = x := by simp [gt, List.getD_eq_getElem?_getD, h]
theorem gt_of_eq {l m : List Int} {i j : Nat} (h : l[i]? = m[j]?) : gt l i = gt m j := by simp [gt, List.getD_eq_getElem?_getD, h]
/-- the column whose X stands in the row of the O of column i -/
def fC (X O : List Int) (i : Nat) : Nat := X.idxOf (gt O i)
theorem Pm.gt_inj {l : List Int} (h : Pm l) {i j : Nat} (hi : i < l.length) (hj : j < l.length) (e : gt l i = gt l j) : i = j := by
  rw [gt_get hi, gt_get hj] at e; exact h.inj hi hj e
theorem Pm.gt_rng {l : List Int} (h : Pm l) {i : Nat} (hi : i < l.length) : 0 ≤ gt l i ∧ gt l i < l.length := by rw [gt_get hi]; exact h.get hi
theorem Pm.gt_surj {l : List Int} (h : Pm l) {x : Int} (h0 : 0 ≤ x) (h1 : x < l.length) : ∃ k, k < l.length ∧ gt l k = x := by
  obtain ⟨k, hk, e⟩ := h.surj (j := x.toNat) (by omega)
  exact ⟨k, hk, by rw [gt_get hk, e]; omega⟩
section
variable {X O : List Int}
theorem Vd.oX (h : Vd X O) {i : Nat} (hi : i < X.length) : 0 ≤ gt O i ∧ gt O i < X.length := by have := h.pO.gt_rng (i := i) (by have := h.len; omega); have := h.len; omega
theorem fC_uniq (h : Vd X O) {i j : Nat} (hj : j < X.length) (e : gt X j = gt O i) : fC X O i = j := by
  unfold fC
  rw [← e, gt_get hj]
  exact h.pX.2.idxOf_getElem j hj
theorem fC_spec (h : Vd X O) {i : Nat} (hi : i < X.length) : fC X O i < X.length ∧ gt X (fC X O i) = gt O i := by
  obtain ⟨k, hk, e⟩ := h.pX.gt_surj (h.oX hi).1 (h.oX hi).2
  rw [fC_uniq h hk e]
  exact ⟨hk, e⟩
theorem fC_perm (h : Vd X O) : PermF X.length (fC X O) := by
  refine ⟨fun i hi => (fC_spec h hi).1, fun i j hi hj e => ?_⟩
  have h1 := (fC_spec h hi).2
  have h2 := (fC_spec h hj).2
  rw [e] at h1
  exact h.pO.gt_inj (by have := h.len; omega) (by have := h.len; omega) (h1.symm.trans h2)
theorem fC_ne (h : Vd X O) {i : Nat} (hi : i < X.length) : fC X O i ≠ i := by
  intro e
  have := (fC_spec h hi).2
  rw [e, gt_get hi, gt_get (by have := h.len; omega)] at this
  exact h.ne i hi _ this
end
/-- the number of components -/
def comp (X O : List Int) : Nat := cls (fC X O) X.length
theorem cyc_back {n i : Nat} (hi : i < n) : ((i + n - 1) % n + 1) % n = i := by
  rw [Nat.mod_add_mod, show i + n - 1 + 1 = i + n from by omega, Nat.add_mod_right, Nat.mod_eq_of_lt hi]
theorem cyc_fwd {n i : Nat} (hi : i < n) : ((i + 1) % n + n - 1) % n = i := by
  by_cases h : i + 1 = n
  · rw [h, Nat.mod_self, Nat.zero_add, Nat.mod_eq_of_lt (by omega)]; omega
  · rw [Nat.mod_eq_of_lt (show i + 1 < n by omega), show i + 1 + n - 1 = i + n from by omega, Nat.add_mod_right, Nat.mod_eq_of_lt hi]
theorem gt_rot (X : List Int) {j : Nat} (hj : j < X.length) : gt (rotL X) j = gt X ((j + 1) % X.length) := gt_of_eq (rotL_get X j hj)
theorem comp_rot {X O : List Int} (h : Vd X O) : comp (rotL X) (rotL O) = comp X O := by
  have h1 := rotL_vd h
  have hn := h.two
  have hl := h.len
  have hp : ∀ i, (i + X.length - 1) % X.length < X.length := fun i => Nat.mod_lt _ (by omega)
  have hq : ∀ i, (i + 1) % X.length < X.length := fun i => Nat.mod_lt _ (by omega)
  have gO : ∀ j, j < X.length → gt (rotL O) j = gt O ((j + 1) % X.length) := fun j hj => by rw [gt_rot O (by omega), hl]
  have hb := fC_perm h1
  rw [rotL_length] at hb
  unfold comp
  rw [rotL_length]
  refine (cls_eq (fC_perm h) hb (fun i => (i + X.length - 1) % X.length) (fun j => (j + 1) % X.length) (fun i _ => hp i) (fun j _ => hq j) (fun i hi => ?_) (fun j hj => ?_) (fun i hi => ?_) (fun j hj => ?_)).symm
  · refine ⟨1, ?_⟩
    have hf := fC_spec h hi
    refine fC_uniq h1 (by rw [rotL_length]; exact hp _) ?_
    simp only [itr]
    rw [gt_rot X (hp _), gO _ (hp _), cyc_back hf.1, cyc_back hi]
    exact hf.2
  · refine ⟨1, ?_⟩
    have hf := fC_spec h1 (i := j) (by rw [rotL_length]; exact hj)
    rw [rotL_length] at hf
    refine fC_uniq h (hq _) ?_
    simp only [itr]
    rw [← gt_rot X hf.1, ← gO _ hj]
    exact hf.2
  · show Rl _ (((i + X.length - 1) % X.length + 1) % X.length) i
    rw [cyc_back hi]
    exact Rl.refl _ _
  · show Rl _ (((j + 1) % X.length + X.length - 1) % X.length) j
    rw [cyc_fwd hj]
    exact Rl.refl _ _
def sw (a i : Nat) : Nat := if i = a then a + 1 else if i = a + 1 then a else i
theorem sw_sw (a i : Nat) : sw a (sw a i) = i := by unfold sw; repeat' split <;> try omega
theorem sw_lt {a n i : Nat} (ha : a + 1 < n) (hi : i < n) : sw a i < n := by unfold sw; repeat' split <;> try omega
theorem gt_swap (X : List Int) {a : Nat} (ha : a + 1 < X.length) (j : Nat) : gt (swapL X a) j = gt X (sw a j) := gt_of_eq (swapL_get X a j ha)
theorem comp_swap {X O : List Int} {a : Nat} (h : Vd X O) (ha : a + 1 < X.length) : comp (swapL X a) (swapL O a) = comp X O := by
  have h1 := swapL_vd h ha
  have hl := h.len
  have hb := fC_perm h1
  rw [swapL_length] at hb
  unfold comp
  rw [swapL_length]
  refine (cls_eq (fC_perm h) hb (sw a) (sw a) (fun i hi => sw_lt ha hi) (fun j hj => sw_lt ha hj) (fun i hi => ?_) (fun j hj => ?_) (fun i hi => ?_) (fun j hj => ?_)).symm
  · refine ⟨1, ?_⟩
    have hf := fC_spec h hi
    refine fC_uniq h1 (by rw [swapL_length]; exact sw_lt ha hf.1) ?_
    simp only [itr]
    rw [gt_swap X ha, gt_swap O (by omega), sw_sw, sw_sw]
    exact hf.2
  · refine ⟨1, ?_⟩
    have hf := fC_spec h1 (i := j) (by rw [swapL_length]; exact hj)
    rw [swapL_length] at hf
    refine fC_uniq h (sw_lt ha hf.1) ?_
    simp only [itr]
    rw [← gt_swap X ha, ← gt_swap O (a := a) (by omega)]
    exact hf.2
  · rw [sw_sw]; exact Rl.refl _ _
  · rw [sw_sw]; exact Rl.refl _ _
theorem gt_del (X : List Int) {a j : Nat} (r : Int) (ha : a < X.length) (hj : (if j < a then j else j + 1) < X.length) : gt (delL X a r) j = lowr r (gt X (if j < a then j else j + 1)) := by
  have := delL_get X a j r ha
  rw [List.getElem?_eq_getElem hj, Option.map_some] at this
  rw [gt_of this, gt_get hj]
def skq (a j : Nat) : Nat := if j < a then j else j + 1
def drp (a i : Nat) : Nat := if i < a then i else i - 1
theorem drp_skq (a j : Nat) : drp a (skq a j) = j := by
  unfold drp skq
  by_cases h : j < a
  · rw [if_pos h, if_pos h]
  · rw [if_neg h, if_neg (by omega)]; omega
theorem skq_drp {a i : Nat} (h : i ≠ a) : skq a (drp a i) = i := by
  unfold drp skq
  by_cases h1 : i < a
  · rw [if_pos h1, if_pos h1]
  · rw [if_neg h1, if_neg (by omega)]; omega
theorem skq_ne (a j : Nat) : skq a j ≠ a := by unfold skq; split <;> omega
theorem comp_del {X O : List Int} {a : Nat} (h : Vd X O) (ha : a < X.length) (hd : desOk X O a (gt X a) (gt O a) = true) :
    comp (delL X a (minG (gt X a) (gt O a))) (delL O a (minG (gt X a) (gt O a))) = comp X O := by
  have h1 : Vd (delL X a (minG (gt X a) (gt O a))) (delL O a (minG (gt X a) (gt O a))) := delL_vd h ha hd
  have hl := h.len
  have hao : a < O.length := by omega
  have hmm : maxG (gt X a) (gt O a) = minG (gt X a) (gt O a) + 1 := by
    simp only [desOk, Bool.and_eq_true, decide_eq_true_eq] at hd
    exact hd.1.2
  generalize hr : minG (gt X a) (gt O a) = r at *
  have hlen1 : (delL X a r).length = X.length - 1 := delL_length X a r ha
  have lx : lowr r (gt X a) = r := by unfold minG at hr; unfold maxG at hmm; unfold lowr; split at hr <;> split at hmm <;> split <;> omega
  have lo : lowr r (gt O a) = r := by unfold minG at hr; unfold maxG at hmm; unfold lowr; split at hr <;> split at hmm <;> split <;> omega
  have gX : ∀ i, i < X.length → i ≠ a → gt (delL X a r) (drp a i) = lowr r (gt X i) := fun i hi hne => by
    have e : (if drp a i < a then drp a i else drp a i + 1) = i := skq_drp hne
    rw [gt_del X r ha (by rw [e]; exact hi), e]
  have gO : ∀ i, i < X.length → i ≠ a → gt (delL O a r) (drp a i) = lowr r (gt O i) := fun i hi hne => by
    have e : (if drp a i < a then drp a i else drp a i + 1) = i := skq_drp hne
    rw [gt_del O r hao (by rw [e]; omega), e]
  have dlt : ∀ i, i < X.length → i ≠ a → drp a i < X.length - 1 := fun i hi hne => by unfold drp; split <;> omega
  have slt : ∀ j, j < X.length - 1 → skq a j < X.length := fun j hj => by unfold skq; split <;> omega
  have hfa := fC_spec h ha
  have hfne := fC_ne h ha
  have hpf := fC_perm h
  have hpg := fC_perm h1
  rw [hlen1] at hpg
  -- the three kinds of steps
  have s1 : ∀ i, i < X.length → i ≠ a → fC X O i ≠ a → fC (delL X a r) (delL O a r) (drp a i) = drp a (fC X O i) := fun i hi hne hne' => by
    have hf := fC_spec h hi
    refine fC_uniq h1 (by rw [hlen1]; exact dlt _ hf.1 hne') ?_
    rw [gX _ hf.1 hne', gO _ hi hne, hf.2]
  have s2 : ∀ i, i < X.length → i ≠ a → fC X O i = a → fC (delL X a r) (delL O a r) (drp a i) = drp a (fC X O a) := fun i hi hne e => by
    have hf := fC_spec h hi
    rw [e] at hf
    refine fC_uniq h1 (by rw [hlen1]; exact dlt _ hfa.1 hfne) ?_
    rw [gX _ hfa.1 hfne, gO _ hi hne, hfa.2, ← hf.2, lx, lo]
  unfold comp
  rw [hlen1]
  refine (cls_eq hpf hpg (fun i => if i = a then drp a (fC X O a) else drp a i) (skq a) (fun i hi => ?_) slt (fun i hi => ?_) (fun j hj => ?_) (fun i hi => ?_) (fun j hj => ?_)).symm
  · show (if i = a then drp a (fC X O a) else drp a i) < _
    split
    · exact dlt _ hfa.1 hfne
    · rename_i hne; exact dlt _ hi hne
  · show Rl _ (if i = a then drp a (fC X O a) else drp a i) (if fC X O i = a then drp a (fC X O a) else drp a (fC X O i))
    by_cases hne : i = a
    · subst hne
      rw [if_pos rfl, if_neg hfne]
      exact Rl.refl _ _
    · rw [if_neg hne]
      by_cases e : fC X O i = a
      · rw [if_pos e, ← s2 i hi hne e]; exact Rl.step _ _
      · rw [if_neg e, ← s1 i hi hne e]; exact Rl.step _ _
  · have hs := slt j hj
    have hne := skq_ne a j
    by_cases e : fC X O (skq a j) = a
    · have := s2 _ hs hne e
      rw [drp_skq] at this
      rw [this, skq_drp hfne]
      exact ⟨2, by show fC X O (fC X O (skq a j)) = _; rw [e]⟩
    · have := s1 _ hs hne e
      rw [drp_skq] at this
      rw [this, skq_drp e]
      exact Rl.step _ _
  · show Rl _ (skq a (if i = a then drp a (fC X O a) else drp a i)) i
    by_cases hne : i = a
    · subst hne
      rw [if_pos rfl, skq_drp hfne]
      exact hpf.symm ha (Rl.step _ _)
    · rw [if_neg hne, skq_drp hne]; exact Rl.refl _ _
  · show Rl _ (if skq a j = a then drp a (fC X O a) else drp a (skq a j)) j
    rw [if_neg (skq_ne a j), drp_skq]
    exact Rl.refl _ _
theorem gt_tr {l : List Int} (h : Pm l) {k : Nat} (hk : k < l.length) : gt (tr l) (gt l k).toNat = k := by
  rw [gt_get hk]; exact gt_of (tr_get h hk)
theorem comp_tr {X O : List Int} (h : Vd X O) : comp (tr X) (tr O) = comp X O := by
  have h1 := tr_vd h
  have hl := h.len
  have hpf := fC_perm h
  have hpg := fC_perm h1
  rw [tr_length] at hpg
  unfold comp
  rw [tr_length]
  have xr : ∀ i, i < X.length → (gt X i).toNat < X.length := fun i hi => by have := h.pX.gt_rng hi; omega
  have tt : ∀ j, j < X.length → (gt (tr X) j).toNat < X.length ∧ (gt X (gt (tr X) j).toNat).toNat = j := fun j hj => by
    obtain ⟨k, hk, e1, e2⟩ := tr_get' h.pX hj
    rw [gt_of e2, Int.toNat_natCast, gt_get hk, e1]
    exact ⟨hk, by omega⟩
  -- the X of row (X of f i) stands in the column of the O of that row
  have key : ∀ i, i < X.length → fC (tr X) (tr O) (gt X (fC X O i)).toNat = (gt X i).toNat := fun i hi => by
    have hf := fC_spec h hi
    refine fC_uniq h1 (by rw [tr_length]; exact xr i hi) ?_
    rw [gt_tr h.pX hi, hf.2, gt_tr h.pO (by omega)]
  refine (cls_eq hpf hpg (fun i => (gt X i).toNat) (fun j => (gt (tr X) j).toNat) xr (fun j hj => (tt j hj).1) (fun i hi => ?_) (fun j hj => ?_) (fun i hi => ?_) (fun j hj => ?_)).symm
  · have hf := fC_spec h hi
    refine hpg.symm (xr _ hf.1) ?_
    show Rl _ (gt X (fC X O i)).toNat (gt X i).toNat
    rw [← key i hi]
    exact Rl.step _ _
  · -- j is the row of the X of a column that is led to
    have hg := hpg.lt j hj
    have e := key (gt (tr X) (fC (tr X) (tr O) j)).toNat (tt _ hg).1
    rw [(tt _ hg).2] at e
    have hf := fC_spec h (tt _ hg).1
    have e2 : (gt X (fC X O (gt (tr X) (fC (tr X) (tr O) j)).toNat)).toNat = j := hpg.inj _ _ (xr _ hf.1) hj e
    refine hpf.symm (tt _ hg).1 ?_
    have e3 : (gt (tr X) j).toNat = fC X O (gt (tr X) (fC (tr X) (tr O) j)).toNat := by
      rw [← e2, gt_tr h.pX hf.1, Int.toNat_natCast, e2]
    show Rl _ (gt (tr X) (fC (tr X) (tr O) j)).toNat (gt (tr X) j).toNat
    rw [e3]
    exact Rl.step _ _
  · show Rl _ (gt (tr X) (gt X i).toNat).toNat i
    rw [gt_tr h.pX hi, Int.toNat_natCast]
    exact Rl.refl _ _
  · show Rl _ (gt X (gt (tr X) j).toNat).toNat j
    rw [(tt j hj).2]
    exact Rl.refl _ _
theorem comp_vw {X O : List Int} {rows : Bool} (h : Vd X O) : comp (vw rows X) (vw rows O) = comp X O := by
  cases rows
  · rfl
  · exact comp_tr h
theorem comp_apply3 {X O X1 O1 : List Int} {k a v : Int} {rows : Bool} (hk : k ≠ 4) (h : applyM X O k rows a v = (0, X1, O1)) : comp X1 O1 = comp X O := by
  obtain ⟨hv, hr, Y, P, hc, rfl, rfl⟩ := applyM_inv h
  have hw := vw_vd (rows := rows) hv
  have hvd : Vd Y P := by
    have := colsL_vd (a := a.toNat) (v := v.toNat) hw hr.1 (by rw [vw_length]; have := hr.2.1; omega) (by rw [vw_length]; have := hr.2.2; omega) (by rw [hc])
    rwa [hc] at this
  rw [comp_vw hvd, ← comp_vw (rows := rows) hv]
  have hl := vw_length rows X
  have ha := hr.2.1
  have h1 := hr.1
  generalize vw rows X = X' at *
  generalize vw rows O = O' at *
  unfold colsL at hc
  by_cases k1 : k = 1
  · rw [if_pos k1] at hc
    injection hc with _ hc
    injection hc with e1 e2
    subst e1 e2
    exact comp_rot hw
  rw [if_neg k1] at hc
  by_cases k2 : k = 2
  · rw [if_pos k2] at hc
    split at hc
    · injection hc with _ hc
      injection hc with e1 e2
      subst e1 e2
      subst k2
      refine comp_swap hw ?_
      simp [limAt] at ha
      omega
    · cases hc
  rw [if_neg k2] at hc
  by_cases k3 : k = 3
  · rw [if_pos k3] at hc
    split at hc
    · rename_i hd
      injection hc with _ hc
      injection hc with e1 e2
      subst e1 e2
      subst k3
      refine comp_del hw ?_ hd
      simp [limAt] at ha
      omega
    · cases hc
  · omega
/-- every move keeps the number of components -/
theorem comp_apply {X O X1 O1 : List Int} {k a v : Int} {rows : Bool} (h : applyM X O k rows a v = (0, X1, O1)) : comp X1 O1 = comp X O := by
  by_cases k4 : k = 4
  · subst k4
    exact (comp_apply3 (by decide) (undo_sta h)).symm
  · exact comp_apply3 k4 h
end Go.Proofs.YteliflcbegcdlaaGreatDoor

namespace Go.Proofs.YteliflcbegcdlaaGreatDoor
open Go.RowKit
set_option linter.unusedVariables false
def PRes (w : World) (r : Int × List Int × List Int × Int) (e : Ending) (w' : World) : Prop :=
  Below w.heap.size w w' ∧ ∃ A0 n0 c0 A1 n1 c1, e = .returned (.tuple #[.agg #[.slice A0 n0 c0, .slice A1 n1 c1], .int .i64 r.2.2.2, .int .i64 r.1]) ∧ Ints w' (.slice A0 n0 c0) r.2.1 ∧ Ints w' (.slice A1 n1 c1) r.2.2.1
set_option maxHeartbeats 4000000 in
theorem play_any (vx vo vm : Value) (X O : List Int) (ms : List Mv) (w : World) (hX : Ints w vx X) (hO : Ints w vo O) (hM : Moves w vm ms) (hl : X.length ≤ 1000) (hl' : O.length ≤ 1000) (hn : ms.length ≤ 10000) :
    Calls Tryz.prog 49 #[.agg #[vx, vo], vm] w (PRes w (playM X O ms)) := by
  have hM0 := hM
  obtain ⟨Am, cm, rfl, hm'⟩ := hM
  clear hm'
  have hX0 := hX
  have hO0 := hO
  obtain ⟨A, c, rfl, hc, hh⟩ := hX
  obtain ⟨A', c', rfl, hc', hh'⟩ := hO
  clear hh hh'
  go_enter Tryz.func49, Tryz.ntmps49
  go_wp2_with fail
  have hW : Arr ((w.alloc (.cells #[.slice A X.length c, .slice A' O.length c'] 24)).alloc (.cells #[.slice none 0 0, .slice none 0 0] 24)) w.heap.size 24 [.slice A X.length c, .slice A' O.length c'] ∧ Arr ((w.alloc (.cells #[.slice A X.length c, .slice A' O.length c'] 24)).alloc (.cells #[.slice none 0 0, .slice none 0 0] 24)) (w.heap.size + 1) 24 [.slice none 0 0, .slice none 0 0] ∧ Below w.heap.size w ((w.alloc (.cells #[.slice A X.length c, .slice A' O.length c'] 24)).alloc (.cells #[.slice none 0 0, .slice none 0 0] 24)) :=
    ⟨(Arr.new _ _ [_, _]).alloc _, Arr.newAt (w.alloc _) _ [_, _] _ (by simp), ((Below.refl _ _).alloc (Nat.le_refl _) _).alloc (by simp) _⟩
  generalize ((w.alloc (.cells #[.slice A X.length c, .slice A' O.length c'] 24)).alloc (.cells #[.slice none 0 0, .slice none 0 0] 24)) = w4 at hW ⊢
  obtain ⟨q0, q1, hb4⟩ := hW
  refine (valid_any _ _ X O _ (hX0.below hb4) (hO0.below hb4) hl hl').mono ?_
  rintro e w5 ⟨rfl, hb5⟩
  have hbw5 := hb4.trans (hb5.mono hb4.size)
  have p0 := q0.below hb5 q0.lt
  have p1 := q1.below hb5 q1.lt
  clear q0 q1 hb5 hb4
  have y0 := p0.cell 0
  have y1 := p0.cell 1
  have y2 := p1.cell 0
  have y3 := p1.cell 1
  have y4 := p1.frozen 0
  have y5 := p1.frozen 1
  have l1 := p1.lt
  have hzr := Lib.hid ((p1.set 0 (.slice none 0 0)).set 1 (.slice none 0 0))
  cases hv : validB X O with
  | false =>
    have hfin := Lib.hid (show playM X O ms = (1, [], [], -1) by unfold playM; rw [if_pos hv])
    clear hv
    go_wp2_with fail
    refine bodyPost_ret (v := .tuple #[.agg #[.slice none 0 0, .slice none 0 0], .int .i64 (-1), .int .i64 1]) (results_ctt Tryz.results49 _ _ (w.heap.size + 1) 24 _ _ rfl hzr.out Tryz.underlying24 rfl info_grid) rfl ?_
    rw [hfin.out]
    exact ⟨bset2 (r := w.heap.size + 1) hbw5 (by omega), _, _, _, _, _, _, rfl, Ints.nil _, Ints.nil _⟩
  | true =>
    have vd := (validB_iff X O).1 hv
    have hfin := Lib.hid (show playM X O ms = playFrom 0 X O (ms.drop 0) by unfold playM; rw [if_neg (by simp [hv]), List.drop_zero])
    clear hv
    go_wp2_with fail
    refine (shift_any _ _ X O 0 0 _ (hX0.below hbw5) (hO0.below hbw5) hl hl').mono ?_
    rw [shiftM_zero vd]
    rintro e w6 ⟨hb6, v6, rfl, hng⟩
    rw [if_pos rfl] at hng
    obtain ⟨gx, go, rfl, e1, e2, e3, a1, a2⟩ := hng
    have hbw6 := hbw5.trans (hb6.mono hbw5.size)
    have p1' := p1.below hb6 p1.lt
    have hlt6 := p1'.lt
    have f1 := a1.lt
    have f2 := a2.lt
    clear y0 y1 y2 y3 y4 y5 hzr p0 p1 hb6
    go_wp2_with fail
    go_loopw [28] (fun s wr => ∃ (i : Nat) (Y P : List Int) (B0 : Option Addr) (m0 d0 : Nat) (B1 : Option Addr) (m1 d1 : Nat), i ≤ ms.length ∧ s = .int .i64 i ∧ Arr wr w6.heap.size 24 [.slice B0 m0 d0, .slice B1 m1 d1] ∧ Arr wr (w.heap.size + 1) 24 [.slice none 0 0, .slice none 0 0] ∧
      IntsE (fun b => b = w.heap.size + 1 ∨ b = w6.heap.size) wr (.slice B0 m0 d0) Y ∧ IntsE (fun b => b = w.heap.size + 1 ∨ b = w6.heap.size) wr (.slice B1 m1 d1) P ∧ Below w.heap.size w wr ∧ Hid (Vd Y P ∧ playM X O ms = playFrom i Y P (ms.drop i))) (fun s _ => ms.length - (intOf s).toNat)
    case atStart =>
      refine ⟨0, X, O, _, _, _, _, _, _, Nat.zero_le _, rfl, Arr.new w6 _ [_, _], p1'.alloc _, ?_, ?_, hbw6.alloc hbw6.size _, vd, hfin.out⟩
      · exact IntsE.of_arr (a1.alloc _) (by omega)
      · exact IntsE.of_arr (a2.alloc _) (by omega)
    case round =>
      clear hfin a1 a2 p1' f1 f2 e1 e2 e3
      obtain ⟨i, Y, P, B0, m0, d0, B1, m1, d1, hi, rfl, hg, hr, j1, j2, hbr, H⟩ := hrel
      have g0 := hg.cell 0
      have g1 := hg.cell 1
      have x0 := hr.cell 0
      have x1 := hr.cell 1
      have x2 := hr.frozen 0
      have x3 := hr.frozen 1
      have lg := hg.lt
      have lr := hr.lt
      have hY := H.out.1.most
      have hYP := Lib.hid H.out.1.len
      by_cases hlt : i < ms.length
      · obtain ⟨b, o, rfl, hbl, c0, c1, c2, c3⟩ := hM0.at_ hlt
        have c0' := (hbr.cell (p := ⟨b, o + i * 4, none⟩) hbl).trans c0
        have c1' := (hbr.cell (p := ⟨b, o + i * 4 + 1, none⟩) hbl).trans c1
        have c2' := (hbr.cell (p := ⟨b, o + i * 4 + 2, none⟩) hbl).trans c2
        have c3' := (hbr.cell (p := ⟨b, o + i * 4 + 3, none⟩) hbl).trans c3
        clear c0 c1 c2 c3
        have hpl := Lib.hid (And.intro (fun h : (ms[i].app Y P).1 = 0 => H.out.2.trans ((playFrom_drop Y P ms hlt).trans (if_pos h))) (fun h : ¬ (ms[i].app Y P).1 = 0 => H.out.2.trans ((playFrom_drop Y P ms hlt).trans (if_neg h))))
        generalize ms[i] = m at *
        obtain ⟨mk, mr, ma, mv⟩ := m
        simp only [Mv.app] at hpl c0' c1' c2' c3'
        have lgr : w6.heap.size ≠ w.heap.size + 1 := by omega
        go_wp2_with fail
        refine (apply_rf _ _ Y P mk mr ma mv _ (j1.ints.alloc _) (j2.ints.alloc _) (by omega) (by have := hYP.out; omega)).mono ?_
        rintro e w8 ⟨hb8, C0, o0, h0, C1, o1, h1, rfl, t1, t2⟩
        have hba := hbr.alloc hbr.size (.cells #[.int .i64 mk, .bool mr, .int .i64 ma, .int .i64 mv] 94)
        have hbr' := hba.trans (hb8.mono hba.size)
        have hg' := (hg.alloc _).below hb8 (hg.alloc _).lt
        have hr' := (hr.alloc _).below hb8 (hr.alloc _).lt
        have sz8 := hb8.size
        have hvr := Lib.hid (@applyM_res_vd Y P (applyM Y P mk mr ma mv).2.1 (applyM Y P mk mr ma mv).2.2 mk ma mv mr)
        clear g0 g1 x0 x1 x2 x3 c0' c1' c2' c3'
        generalize hR : applyM Y P mk mr ma mv = R at *
        obtain ⟨code, Y1, P1⟩ := R
        simp only at t1 t2 hpl hvr
        clear hR
        have g0 := (hg'.alloc (.cells #[.slice C0 o0 h0, .slice C1 o1 h1] 24)).cell 0
        have g1 := (hg'.alloc (.cells #[.slice C0 o0 h0, .slice C1 o1 h1] 24)).cell 1
        have g2 := (hg'.alloc (.cells #[.slice C0 o0 h0, .slice C1 o1 h1] 24)).frozen 0
        have g3 := (hg'.alloc (.cells #[.slice C0 o0 h0, .slice C1 o1 h1] 24)).frozen 1
        have x0 := (hr'.alloc (.cells #[.slice C0 o0 h0, .slice C1 o1 h1] 24)).cell 0
        have x1 := (hr'.alloc (.cells #[.slice C0 o0 h0, .slice C1 o1 h1] 24)).cell 1
        have x2 := (hr'.alloc (.cells #[.slice C0 o0 h0, .slice C1 o1 h1] 24)).frozen 0
        have x3 := (hr'.alloc (.cells #[.slice C0 o0 h0, .slice C1 o1 h1] 24)).frozen 1
        have hbx := hbr'.alloc hbr'.size (.cells #[.slice C0 o0 h0, .slice C1 o1 h1] 24)
        by_cases hcd : code = 0
        · subst hcd
          have hv1 := hvr.out rfl
          have k1 : IntsE (fun b => b = w.heap.size + 1 ∨ b = w6.heap.size) w8 (.slice C0 o0 h0) Y1 := IntsE.of_fresh t1 (fun b hb => by simp; omega)
          have k2 : IntsE (fun b => b = w.heap.size + 1 ∨ b = w6.heap.size) w8 (.slice C1 o1 h1) P1 := IntsE.of_fresh t2 (fun b hb => by simp; omega)
          have hpl' := Lib.hid (hpl.out.1 rfl)
          go_wp2_with fail
          go_roundw
          case rel =>
            exact ⟨i + 1, Y1, P1, _, _, _, _, _, _, by omega, by go_num, ((hg'.alloc _).set 0 _).set 1 _, (hr'.alloc _).far2 (r := w6.heap.size) (by omega), (k1.below ((Below.refl _ _).alloc (Nat.le_refl _) _)).set2 (.inr rfl) _ _ _ _, (k2.below ((Below.refl _ _).alloc (Nat.le_refl _) _)).set2 (.inr rfl) _ _ _ _, bset2 (r := w6.heap.size) hbx (by omega), hv1, hpl'.out⟩
          case measure => simp [intOf]; omega
        · have hb0 : (code != 0) = true := by simpa using hcd
          have hfin := Lib.hid (hpl.out.2 hcd)
          clear hcd
          have hzr := Lib.hid (((hr'.alloc (.cells #[.slice C0 o0 h0, .slice C1 o1 h1] 24)).set 0 (.slice none 0 0)).set 1 (.slice none 0 0))
          go_wp2_with fail
          refine bodyPost_ret (v := .tuple #[.agg #[.slice none 0 0, .slice none 0 0], .int .i64 (i : Int), .int .i64 code]) (results_ctt Tryz.results49 _ _ (w.heap.size + 1) 24 _ _ rfl hzr.out Tryz.underlying24 rfl info_grid) rfl ?_
          rw [hfin.out]
          exact ⟨bset2 (r := w.heap.size + 1) hbx (by omega), _, _, _, _, _, _, rfl, Ints.nil _, Ints.nil _⟩
      · have hie : i = ms.length := by omega
        have hpl := Lib.hid (show playM X O ms = (0, Y, P, -1) by rw [H.out.2, hie, List.drop_length]; rfl)
        clear hie
        have hres := Lib.hid ((hr.set 0 (.slice B0 m0 d0)).set 1 (.slice B1 m1 d1))
        go_wp2_with fail
        refine bodyPost_ret (v := .tuple #[.agg #[.slice B0 m0 d0, .slice B1 m1 d1], .int .i64 (-1), .int .i64 0]) (results_ctt Tryz.results49 _ _ (w.heap.size + 1) 24 _ _ rfl hres.out Tryz.underlying24 rfl info_grid) rfl ?_
        rw [hpl.out]
        exact ⟨bset2 (r := w.heap.size + 1) hbr (by omega), _, _, _, _, _, _, rfl, (j1.set2 (.inl rfl) _ _ _ _).ints, (j2.set2 (.inl rfl) _ _ _ _).ints⟩
end Go.Proofs.YteliflcbegcdlaaGreatDoor

namespace Go.Proofs.YteliflcbegcdlaaGreatDoor
open Go.RowKit
set_option linter.unusedVariables false
theorem setCells_row {e : TypeId} {g : Nat} : ∀ (vs : List Value) (o : Nat) (w : World) (cur : Array Value), w.heap[g]? = some (.cells cur e (0, 0)) → o + vs.length ≤ cur.size →
    ∃ cur' : Array Value, (w.setCells g o vs).heap[g]? = some (.cells cur' e (0, 0)) ∧ cur'.size = cur.size ∧ (∀ i, i < o ∨ o + vs.length ≤ i → cur'[i]? = cur[i]?) ∧ ∀ (j : Nat) u, vs[j]? = some u → cur'[o + j]? = some u
  | [], o, w, cur, h, hs => ⟨cur, h, rfl, fun _ _ => rfl, fun j u hj => by simp at hj⟩
  | v :: vs, o, w, cur, h, hs => by
    simp only [List.length_cons] at hs
    obtain ⟨cur', h1, h2, h3, h4⟩ := setCells_row vs (o + 1) (w.setCell ⟨g, o, none⟩ v) (cur.setIfInBounds o v) (heap_setCell_same w g o cur e v h) (by simp; omega)
    refine ⟨cur', h1, by simpa using h2, fun i hi => ?_, fun j u hj => ?_⟩
    · simp only [List.length_cons] at hi
      rw [h3 i (by omega), Array.getElem?_setIfInBounds, if_neg (by omega)]
    · cases j with
      | zero =>
        simp at hj; subst hj
        rw [h3 _ (by omega), Nat.add_zero, Array.getElem?_setIfInBounds, if_pos rfl]
        simp; omega
      | succ j =>
        have := h4 j u (by simpa using hj)
        rw [show o + (j + 1) = o + 1 + j by omega]; exact this
theorem below_setCells {B g : Nat} (hg : B ≤ g) : ∀ (vs : List Value) (o : Nat) (w0 w : World), Below B w0 w → Below B w0 (w.setCells g o vs)
  | [], _, _, _, h => h
  | v :: vs, o, w0, w, h => below_setCells hg vs (o + 1) w0 _ (h.setCell (p := ⟨g, o, none⟩) hg v)
theorem heap_setCells_far {g k : Nat} (hk : k ≠ g) : ∀ (vs : List Value) (o : Nat) (w : World), (w.setCells g o vs).heap[k]? = w.heap[k]?
  | [], _, _ => rfl
  | v :: vs, o, w => (heap_setCells_far hk vs (o + 1) _).trans (Below.heap_setCell w ⟨g, o, none⟩ _ k (fun e => hk e))
section
variable {α : Type}
def IsSl (q : Value) : Prop := ∃ A n c, q = .slice A n c
/-- v is a part of a block of the call's own, from block base on, that holds xs; the block holds slices alone -/
def QA (e : TypeId) (sz : Nat) (enc : α → List Value) (base : Nat) (w : World) (v : Value) (xs : List α) : Prop :=
  (v = .slice none 0 0 ∧ xs = []) ∨ ∃ g o c cur, v = .slice (some ⟨g, o, none⟩) xs.length c ∧ base ≤ g ∧ w.heap[g]? = some (.cells cur e (0, 0)) ∧ xs.length ≤ c ∧ o + c * sz ≤ cur.size ∧ (∀ (i : Nat) q, cur[i]? = some q → IsSl q) ∧ ∀ (j : Nat) q, (xs.flatMap enc)[j]? = some q → cur[o + j]? = some q
/-- the block of a slice, wherever it begins -/
def sBlk : Value → Option Nat
  | .slice (some ad) _ _ => some ad.block
  | _ => none
variable {e : TypeId} {sz : Nat} {enc : α → List Value} {base : Nat} {w w' : World} {v u : Value} {xs ys : List α}
theorem QA.nil (e : TypeId) (sz : Nat) (enc : α → List Value) (base : Nat) (w : World) : QA e sz enc base w (.slice none 0 0) [] := .inl ⟨rfl, rfl⟩
theorem QA.lt (h : QA e sz enc base w v xs) : ∀ k, sBlk v = some k → k < w.heap.size := by
  intro k hk
  rcases h with ⟨rfl, _⟩ | ⟨g, o, c, cur, rfl, _, hh, _⟩
  · cases hk
  · injection hk with hk; subst hk; exact (Array.getElem?_eq_some_iff.1 hh).1
theorem QA.block (h : QA e sz enc base w v xs) : ∀ k, sBlk v = some k → base ≤ k := by
  intro k hk
  rcases h with ⟨rfl, _⟩ | ⟨g, o, c, cur, rfl, hb, _⟩
  · cases hk
  · injection hk with hk; subst hk; exact hb
theorem QA.typ (h : QA e sz enc base w v xs) : ∀ k, sBlk v = some k → ∃ cs fr, w.heap[k]? = some (.cells cs e fr) := by
  intro k hk
  rcases h with ⟨rfl, _⟩ | ⟨g, o, c, cur, rfl, hb, hh, _⟩
  · cases hk
  · injection hk with hk; subst hk; exact ⟨_, _, hh⟩
theorem QA.keepK (h : QA e sz enc base w v xs) (hk : ∀ k, sBlk v = some k → w'.heap[k]? = w.heap[k]?) : QA e sz enc base w' v xs := by
  rcases h with h | ⟨g, o, c, cur, rfl, hb, hh, r⟩
  · exact .inl h
  · exact .inr ⟨g, o, c, cur, rfl, hb, (hk g rfl).trans hh, r⟩
theorem QA.below (h : QA e sz enc base w v xs) (hb : Below w.heap.size w w') : QA e sz enc base w' v xs := h.keepK fun k hk => hb.block k (h.lt k hk)
theorem QA.low {b2 : Nat} (h : QA e sz enc base w v xs) (hb : b2 ≤ base) : QA e sz enc b2 w v xs := by
  rcases h with h | ⟨g, o, c, cur, rfl, hb2, hh, r⟩
  · exact .inl h
  · exact .inr ⟨g, o, c, cur, rfl, Nat.le_trans hb hb2, hh, r⟩
theorem QA.up {b2 : Nat} (h : QA e sz enc base w v xs) (hb : ∀ k, sBlk v = some k → b2 ≤ k) : QA e sz enc b2 w v xs := by
  rcases h with h | ⟨g, o, c, cur, rfl, hb2, hh, r⟩
  · exact .inl h
  · exact .inr ⟨g, o, c, cur, rfl, hb g rfl, hh, r⟩
theorem QA.form (h : QA e sz enc base w v xs) : ∃ A c, v = .slice A xs.length c := by
  rcases h with ⟨rfl, rfl⟩ | ⟨g, o, c, cur, rfl, _⟩
  · exact ⟨none, 0, rfl⟩
  · exact ⟨_, _, rfl⟩
/-- the head of a queue that is not empty, and the queue cut at it -/
theorem QA.cons {x : α} (hsz : ∀ x, (enc x).length = sz) (h : QA e sz enc base w v (x :: xs)) : ∃ g o c, v = .slice (some ⟨g, o, none⟩) (xs.length + 1) (c + 1) ∧ base ≤ g ∧ (∀ j q, (enc x)[j]? = some q → w.cell? ⟨g, o + j, none⟩ = some q) ∧
    ∀ A, (A = some ⟨g, o, none⟩ ∧ c = 0 ∨ A = some ⟨g, o + sz, none⟩) → QA e sz enc base w (.slice A xs.length c) xs := by
  rcases h with ⟨_, h⟩ | ⟨g, o, c, cur, rfl, hb, hh, hc, hs, hsl, hx⟩
  · cases h
  · simp only [List.length_cons] at hc ⊢
    obtain ⟨c, rfl⟩ : ∃ c', c = c' + 1 := ⟨c - 1, by omega⟩
    refine ⟨g, o, c, rfl, hb, fun j q hq => ?_, ?_⟩
    · rw [cell_of_row w g _ cur e (0, 0) hh]
      exact hx j q (by rw [List.flatMap_cons, List.getElem?_append_left (List.getElem?_eq_some_iff.1 hq).1]; exact hq)
    · rw [Nat.succ_mul] at hs
      rintro A (⟨rfl, rfl⟩ | rfl)
      · have : xs = [] := List.eq_nil_of_length_eq_zero (by omega)
        subst this
        exact .inr ⟨g, o, 0, cur, rfl, hb, hh, Nat.le_refl _, by omega, hsl, fun j q hq => by simp at hq⟩
      · refine .inr ⟨g, o + sz, c, cur, rfl, hb, hh, by omega, by omega, hsl, fun j q hq => ?_⟩
        have := hx (sz + j) q (by rw [List.flatMap_cons, List.getElem?_append_right (by rw [hsz]; omega), hsz, Nat.add_sub_cancel_left]; exact hq)
        rw [Nat.add_assoc]; exact this
/-- the block holds no integers -/
theorem QA.noint (h : QA e sz enc base w v xs) {k i : Nat} {q : Value} (hk : sBlk v = some k) (hc : w.cell? ⟨k, i, none⟩ = some q) : IsSl q := by
  rcases h with ⟨rfl, _⟩ | ⟨g, o, c, cur, rfl, hb, hh, _, _, hsl, _⟩
  · cases hk
  · injection hk with hk; subst hk
    rw [cell_of_row w g _ cur e (0, 0) hh] at hc
    exact hsl _ _ hc
/-- what a kind of element of slices owes -/
structure ElQ (P : Program) (e : TypeId) (sz : Nat) (enc : α → List Value) : Prop extends ElA P e sz enc where
  esl : ∀ x, ∀ q ∈ enc x, IsSl q
  zsl : ∀ i z, P.info? e = some i → i.zero = some z → ∀ q ∈ z.cells, IsSl q
theorem mem_zeroCells {cs : Array Value} {k : Nat} {q : Value} (h : q ∈ Builtin.zeroCells cs k) : q ∈ cs := by
  unfold Builtin.zeroCells at h
  obtain ⟨i, hi, rfl⟩ := Array.mem_map.1 h
  have hi := Array.mem_range.1 hi
  have hp : 0 < cs.size := by
    rcases Nat.eq_zero_or_pos cs.size with h0 | h0
    · rw [h0] at hi; simp at hi
    · exact h0
  have hlt := Nat.mod_lt i hp
  rw [getElem!_pos cs _ hlt]
  exact Array.getElem_mem hlt
/-- the run of append(v, u...) -/
theorem run_appQA {P : Program} (E : ElQ P e sz enc) {t ty : TypeId} (ht : P.underlying t = some (.slice e))
    (h : QA e sz enc base w v xs) (hu : SlA enc w u ys) (hn : ys ≠ []) (hlen : xs.length + ys.length ≤ 100000000) (hbase : base ≤ w.heap.size) :
    ∃ v' w', (Builtin.append_ #[t, t] ty #[v, u]).run P w = .ok v' w' ∧ QA e sz enc base w' v' (xs ++ ys) ∧ Below base w w' ∧ (∀ k, k < w.heap.size → sBlk v ≠ some k → w'.heap[k]? = w.heap[k]?) ∧ (sBlk v' = sBlk v ∨ sBlk v' = some w.heap.size) := by
  obtain ⟨i, z, bytes, hi, hz, hs, hby, hzs, hb16⟩ := E.ex
  obtain ⟨A, c2, rfl, hc2, hy⟩ := hu
  have hfl : ∀ l : List α, (l.flatMap enc).length = l.length * sz := fun l => by
    induction l with
    | nil => simp
    | cons x xs ih => rw [List.flatMap_cons, List.length_append, ih, E.len x, List.length_cons, Nat.succ_mul]; omega
  have hpos : 0 < ys.length := by cases ys with | nil => exact absurd rfl hn | cons y ys => simp
  obtain ⟨ad, hA⟩ : ∃ ad, A = some ad := by
    have h0 : 0 < (ys.flatMap enc).length := by rw [hfl]; exact Nat.mul_pos hpos E.pos
    obtain ⟨b, o, hA, _⟩ := hy 0 _ (List.getElem?_eq_getElem h0)
    exact ⟨_, hA⟩
  subst hA
  have hcells : ∀ j q, (ys.flatMap enc)[j]? = some q → w.cell? (ad.add j) = some q := by
    intro j q hq
    obtain ⟨b, o, hA, hcell⟩ := hy j q hq
    injection hA with hA
    subst hA
    have : (⟨b, o, none⟩ : Addr).add j = ⟨b, o + j, none⟩ := by unfold Addr.add; split <;> simp_all
    rw [this]; exact hcell
  have hone : ∀ q ∈ ys.flatMap enc, q.oneCell' = true := fun q hq => by obtain ⟨y, hy, hq2⟩ := List.mem_flatMap.1 hq; exact E.one y q hq2
  have hesl : ∀ (l : List α), ∀ q ∈ l.flatMap enc, IsSl q := fun l q hq => by obtain ⟨y, hy, hq2⟩ := List.mem_flatMap.1 hq; exact E.esl y q hq2
  have src : Src P i.size t (.slice (some ad) ys.length c2) ys.length (ys.flatMap enc) w := Src.ofSlice w ht _ _ _ _ (by rw [hs, hfl]) hcells hone
  -- a new block
  have grown : ∀ (bs : Option Addr) (old : Nat), old < xs.length + ys.length → (Builtin.firstCells i.size xs.length (.slice bs xs.length old)).run P w.drew = .ok (xs.flatMap enc).toArray w.drew →
      ∃ v' w', (Builtin.append_ #[t, t] ty #[.slice bs xs.length old, .slice (some ad) ys.length c2]).run P w = .ok v' w' ∧ QA e sz enc base w' v' (xs ++ ys) ∧ Below base w w' ∧ (∀ k, k < w.heap.size → w'.heap[k]? = w.heap[k]?) ∧ sBlk v' = some w.heap.size := by
    intro bs old hold hfc
    have hncap : Builtin.nextslicecap (xs.length + ys.length) old * i.bytes ≤ 281474976710656 := by
      have h1 := nextslicecap_le_wide (need := xs.length + ys.length) (old := old) hold
      rw [hby]
      exact Nat.le_trans (Nat.mul_le_mul h1 hb16) (by omega)
    have hr := run_append_grow_src (P := P) w t t ty e i z ht hi hz bs xs.length old (xs.flatMap enc) hfc (.slice (some ad) ys.length c2) ys.length (ys.flatMap enc) src hold (by omega) hncap
    have hge : xs.length + ys.length ≤ grownCap w (xs.length + ys.length) old e := grownCap_ge w _ _ _
    refine ⟨_, _, hr, .inr ⟨w.heap.size, 0, _, _, by rw [List.length_append], hbase, heap_alloc_new w.drew _, by rw [List.length_append]; exact hge, ?_, fun j q hq => ?_, fun j q hq => ?_⟩, Below.alloc (a := w) (w := w.drew) (bdrewN (Below.refl _ _) 1) hbase _, fun k hk => Below.heap_alloc w.drew _ k hk, rfl⟩
    · rw [Array.size_append, size_zeroCells, hzs]
      simp only [List.size_toArray, List.length_append, hfl]
      rw [← Nat.add_mul, ← Nat.add_mul]
      rw [Nat.zero_add]
      refine Nat.mul_le_mul_right sz ?_
      omega
    · have hm := Array.mem_of_getElem? hq
      rcases Array.mem_append.1 hm with q1 | q1
      · have q2 : q ∈ xs.flatMap enc ++ ys.flatMap enc := by simpa using q1
        rcases List.mem_append.1 q2 with q3 | q3
        · exact hesl _ q q3
        · exact hesl _ q q3
      · exact E.zsl i z hi hz q (mem_zeroCells q1)
    · rw [List.flatMap_append] at hq
      rw [Nat.zero_add, Array.getElem?_append_left (by have := (List.getElem?_eq_some_iff.1 hq).1; rw [List.length_append] at this; simpa using this)]
      simpa using hq
  rcases h with ⟨rfl, rfl⟩ | ⟨g, o, c, cur, rfl, hb, hh, hc, hsz, hsl, hx⟩
  · obtain ⟨v', w', h1, h2, h3, h4, h5⟩ := grown none 0 (by simpa using hpos) (by
      have := run_firstCells_none (P := P) w.drew i.size 0 0 0
      simpa using this)
    exact ⟨v', w', h1, h2, h3, fun k hk _ => h4 k hk, .inr h5⟩
  · have hlt : g < w.heap.size := (Array.getElem?_eq_some_iff.1 hh).1
    by_cases hroom : xs.length + ys.length ≤ c
    · have hin : o + (xs.length * sz + ys.length * sz) ≤ cur.size := by
        have := Nat.mul_le_mul_right sz hroom
        rw [Nat.add_mul] at this; omega
      have hr := run_append_room_src (P := P) w t t ty e i ht hi g o xs.length c (.slice (some ad) ys.length c2) ys.length (ys.flatMap enc) src hroom
        (by
          intro j hj
          rw [hfl] at hj
          rw [hs, cell_of_row w g _ cur e (0, 0) hh, Array.getElem?_eq_getElem (by omega)]; rfl) (by intro j hj; exact frozen_of_row w g _ cur e hh)
      rw [hs] at hr
      obtain ⟨cur', k1, k2, k3, k4⟩ := setCells_row (ys.flatMap enc) (o + xs.length * sz) w cur hh (by rw [hfl]; omega)
      have hbel : Below base w (w.setCells g (o + xs.length * sz) (ys.flatMap enc)) := below_setCells hb _ _ _ _ (Below.refl base w)
      refine ⟨_, _, hr, .inr ⟨g, o, c, cur', by rw [List.length_append], hb, k1, by rw [List.length_append]; exact hroom, by rw [k2]; exact hsz, fun j q hq => ?_, fun j q hq => ?_⟩, hbel, fun k hk hne => heap_setCells_far (fun e => hne (by rw [e]; rfl)) _ _ _, .inl rfl⟩
      · by_cases hj : j < o + xs.length * sz ∨ o + xs.length * sz + (ys.flatMap enc).length ≤ j
        · rw [k3 j hj] at hq; exact hsl _ _ hq
        · have hlt2 : j - (o + xs.length * sz) < (ys.flatMap enc).length := by omega
          have h4 := k4 _ _ (List.getElem?_eq_getElem hlt2)
          rw [show o + xs.length * sz + (j - (o + xs.length * sz)) = j by omega, hq] at h4
          injection h4 with h4
          rw [h4]
          exact hesl _ _ (List.getElem_mem hlt2)
      · rw [List.flatMap_append] at hq
        rcases Nat.lt_or_ge j (xs.flatMap enc).length with hj | hj
        · rw [List.getElem?_append_left hj] at hq
          rw [k3 _ (.inl (by rw [hfl] at hj; omega))]
          exact hx j q hq
        · rw [List.getElem?_append_right hj] at hq
          have := k4 _ q hq
          rw [hfl] at hj this
          rw [show o + xs.length * sz + (j - xs.length * sz) = o + j by omega] at this
          exact this
    · obtain ⟨v', w', h1, h2, h3, h4, h5⟩ := grown (some ⟨g, o, none⟩) c (by omega) (run_firstCells_some (P := P) w.drew i.size xs.length ⟨g, o, none⟩ xs.length c (xs.flatMap enc) (by rw [hs, hfl]) (by
        intro j u hj
        have : (⟨g, o, none⟩ : Addr).add j = ⟨g, o + j, none⟩ := by unfold Addr.add; split <;> simp_all
        rw [this]
        show w.cell? _ = _
        rw [cell_of_row w g _ cur e (0, 0) hh]
        exact hx j u hj))
      exact ⟨v', w', h1, h2, h3, fun k hk _ => h4 k hk, .inr h5⟩
theorem wp_appQA {P : Program} {o : Oper} {a : Act} {K : Act → World → Prop} {Q : Exit → Act → World → Prop} (E : ElQ P e sz enc) (s x : Operand) (t t2 : TypeId) (ho : o.op = .call { callee := .builtin .append, args := #[s, x], argTypes := #[t, t2] })
    (ht : P.underlying t = some (.slice e)) (ht2 : P.underlying t2 = some (.slice e))
    (hv : a.eval s = v) (h : QA e sz enc base w v xs) (hx : a.eval x = u) (hu : SlA enc w u ys) (hn : ys ≠ []) (hlen : xs.length + ys.length ≤ 100000000) (hbase : base ≤ w.heap.size)
    (hK : ∀ v' w', QA e sz enc base w' v' (xs ++ ys) → Below base w w' → (∀ k, k < w.heap.size → sBlk v ≠ some k → w'.heap[k]? = w.heap[k]?) → (sBlk v' = sBlk v ∨ sBlk v' = some w.heap.size) → K (a.put o.dst v') w') : o.wp P a w K Q := by
  obtain ⟨v', w', hrun, h1, h2, h3, h4⟩ := run_appQA (P := P) (ty := o.type) E ht h hu hn hlen hbase
  unfold Oper.wp execOp
  simp only [ho, resolve, invoke, builtin, Sem.run_bind, Sem.run_pure, Result.andThen_ok, List.map_toArray, List.map_cons, List.map_nil, hv, hx, (append_typesA ht ht2).trans hrun]
  exact hK v' w' h1 h2 h3 h4
end
/-- what an append to v0 has left as it was; v: the slice that came -/
structure KptQ (B : Nat) (w0 w : World) (v0 v : Value) : Prop where
  bel : Below B w0 w
  keep : ∀ k, k < w0.heap.size → sBlk v0 ≠ some k → w.heap[k]? = w0.heap[k]?
  blk : ∀ k, sBlk v = some k → sBlk v0 = some k ∨ w0.heap.size ≤ k
section
variable {α : Type}
/-- c: the literal; a: the append; f: the store at p -/
structure ApQ (e : TypeId) (sz : Nat) (enc : α → List Value) (B : Nat) (w0 : World) (ev : Nat → Option Value) (c a f : Nat) (v0 : Value) (p : Addr) (L LIT : List α) (D : Nat → Bool) (x : Nat → Value) (w : World) : Prop where
  kn : ∀ i v, ev i = some v → D i = true → x i = v
  pre : D a = false → D f = false → Below w0.heap.size w0 w
  lit : D c = true → D a = false → D f = false → OwnA e sz enc w0.heap.size w (x c) LIT
  mid : D a = true → D f = false → QA e sz enc B w (x a) (L ++ LIT) ∧ KptQ B w0 w v0 (x a)
  fin : D f = true → ∃ W v, w = W.setCell p v ∧ QA e sz enc B W v (L ++ LIT) ∧ KptQ B w0 W v0 v
variable {e : TypeId} {sz : Nat} {enc : α → List Value} {B : Nat} {w0 w w' : World} {ev : Nat → Option Value} {c a f : Nat} {v0 : Value} {p : Addr} {L LIT : List α} {D : Nat → Bool} {x : Nat → Value}
theorem ApQ.start : ApQ e sz enc B w0 ev c a f v0 p L LIT (fun _ => false) x w0.drew :=
  ⟨fun i v _ h => Bool.noConfusion h, fun _ _ => (Below.refl _ _).drew, fun h => Bool.noConfusion h, fun h => Bool.noConfusion h, fun h => Bool.noConfusion h⟩
theorem ApQ.val (h : ApQ e sz enc B w0 ev c a f v0 p L LIT D x w) {i : Nat} {v : Value} (hv : ev i = some v) (h1 : i ≠ c) (h2 : i ≠ a) (h3 : i ≠ f) : ApQ e sz enc B w0 ev c a f v0 p L LIT (upd D i true) (upd x i v) w := by
  refine ⟨fun j u hu hd => ?_, fun d1 d2 => ?_, fun d1 d2 d3 => ?_, fun d1 d2 => ?_, fun d => ?_⟩
  · by_cases e : j = i
    · subst e; rw [upd_same]; rw [hv] at hu; injection hu
    · rw [upd_ne _ _ e] at hd ⊢; exact h.kn j u hu hd
  · rw [upd_ne _ _ (Ne.symm h2)] at d1; rw [upd_ne _ _ (Ne.symm h3)] at d2; exact h.pre d1 d2
  · rw [upd_ne _ _ (Ne.symm h1)] at d1 ⊢; rw [upd_ne _ _ (Ne.symm h2)] at d2; rw [upd_ne _ _ (Ne.symm h3)] at d3; exact h.lit d1 d2 d3
  · rw [upd_ne _ _ (Ne.symm h2)] at d1 ⊢; rw [upd_ne _ _ (Ne.symm h3)] at d2; exact h.mid d1 d2
  · rw [upd_ne _ _ (Ne.symm h3)] at d; exact h.fin d
theorem ApQ.call (h : ApQ e sz enc B w0 ev c a f v0 p L LIT D x w) {v : Value} (hev : ev c = none) (h1 : c ≠ a) (h2 : c ≠ f) (ha : D a = false) (hf : D f = false) (hb : Below w.heap.size w w') (ho : OwnA e sz enc w.heap.size w' v LIT) : ApQ e sz enc B w0 ev c a f v0 p L LIT (upd D c true) (upd x c v) w' := by
  have hp := h.pre ha hf
  refine ⟨fun j u hu hd => ?_, fun d1 d2 => hp.trans (hb.mono hp.size), fun d1 d2 d3 => by rw [upd_same]; exact ho.low hp.size, fun d1 d2 => ?_, fun d => ?_⟩
  · have e : j ≠ c := fun e => (by rw [e, hev] at hu; cases hu)
    rw [upd_ne _ _ e] at hd ⊢; exact h.kn j u hu hd
  · rw [upd_ne _ _ (Ne.symm h1), ha] at d1; cases d1
  · rw [upd_ne _ _ (Ne.symm h2), hf] at d; cases d
theorem ApQ.app {P : Program} (E : ElQ P e sz enc) (h : ApQ e sz enc B w0 ev c a f v0 p L LIT D x w) {o : Oper} {b : Act} (sx ux : Operand) (t t2 : TypeId) (ho : o.op = .call { callee := .builtin .append, args := #[sx, ux], argTypes := #[t, t2] })
    (ht : P.underlying t = some (.slice e)) (ht2 : P.underlying t2 = some (.slice e)) (hev : ev a = none) (hca : c ≠ a) (haf : a ≠ f) (hc : D c = true) (ha : D a = false) (hf : D f = false)
    (he1 : b.eval sx = v0) (he2 : b.eval ux = x c) (hv0 : QA e sz enc B w0 v0 L) (hn : LIT ≠ []) (hB : B ≤ w0.heap.size) (hlen : L.length + LIT.length ≤ 100000000) : o.wp P b w (StepPost (ApQ e sz enc B w0 ev c a f v0 p L LIT) D x a b o.dst) NoQ := by
  have hp := h.pre ha hf
  have hl := h.lit hc ha hf
  refine wp_appQA (P := P) (base := B) E sx ux t t2 ho ht ht2 he1 (hv0.below hp) he2 hl.sl hn hlen (Nat.le_trans hB hp.size) ?_
  intro v' w' h1 h2 h3 h4
  refine ⟨v', rfl, fun j u hu hd => ?_, fun d1 d2 => ?_, fun d1 d2 d3 => ?_, fun d1 d2 => ?_, fun d => ?_⟩
  · have e : j ≠ a := fun e => (by rw [e, hev] at hu; cases hu)
    rw [upd_ne _ _ e] at hd ⊢; exact h.kn j u hu hd
  · rw [upd_same] at d1; cases d1
  · rw [upd_same] at d2; cases d2
  · rw [upd_same]
    refine ⟨h1, (hp.mono hB).trans h2, fun k hk hne => (h3 k (Nat.lt_of_lt_of_le hk hp.size) hne).trans (hp.block k hk), fun k hk => ?_⟩
    rcases h4 with q | q
    · rw [q] at hk; exact .inl hk
    · rw [q] at hk
      injection hk with hk
      subst hk
      exact .inr hp.size
  · rw [upd_ne _ _ (Ne.symm haf), hf] at d; cases d
theorem ApQ.store (h : ApQ e sz enc B w0 ev c a f v0 p L LIT D x w) (hev : ev f = none) (ha : D a = true) (hf : D f = false) (v : Value) : ApQ e sz enc B w0 ev c a f v0 p L LIT (upd D f true) (upd x f v) (w.setCell p (x a)) := by
  obtain ⟨m1, m2⟩ := h.mid ha hf
  refine ⟨fun j u hu hd => ?_, fun d1 d2 => ?_, fun d1 d2 d3 => ?_, fun d1 d2 => ?_, fun d => ⟨w, x a, rfl, m1, m2⟩⟩
  · have e : j ≠ f := fun e => (by rw [e, hev] at hu; cases hu)
    rw [upd_ne _ _ e] at hd ⊢; exact h.kn j u hu hd
  · rw [upd_same] at d2; cases d2
  · rw [upd_same] at d3; cases d3
  · rw [upd_same] at d2; cases d2
theorem KptQ.arr {g : Nat} {t : TypeId} {cs : List Value} {v : Value} (h : KptQ B w0 w v0 v) (hg : Arr w0 g t cs) (hne : sBlk v0 ≠ some g) : Arr w g t cs := (h.keep g hg.lt hne).trans hg
/-- a block that the append does not write, at any time before the store -/
theorem ApQ.arrK (h : ApQ e sz enc B w0 ev c a f v0 p L LIT D x w) (hf : D f = false) {g : Nat} {t : TypeId} {cs : List Value} (hg : Arr w0 g t cs) (hne : sBlk v0 ≠ some g) : Arr w g t cs := by
  cases ha : D a with
  | false => exact hg.below (h.pre ha hf) hg.lt
  | true => exact (h.mid ha hf).2.arr hg hne
end
end Go.Proofs.YteliflcbegcdlaaGreatDoor

namespace Go.Proofs.YteliflcbegcdlaaGreatDoor
open Go.RowKit
set_option linter.unusedVariables false
theorem mod_app {α : Type} (f : α → α) (x : α) : ∀ l : List α, (l ++ [x]).modify l.length f = l ++ [f x]
  | [] => rfl
  | a :: t => by
    have := mod_app f x t
    simpa using this
def kyS (k : List UInt8) : Value := .string ⟨k.toArray⟩
theorem kyS_inj {k k' : List UInt8} (h : kyS k = kyS k') : k = k' := by
  unfold kyS at h
  injection h with h
  injection h with h
  exact Array.toList_inj.2 h |> fun e => by simpa using e
/-- the map in block b has the entries L, in this order; ck: its clock -/
def MpS (w : World) (b : Nat) (L : List (List UInt8 × Value)) (ck : Nat) : Prop :=
  ∃ es : Array MapEntry, w.heap[b]? = some (.map es ck) ∧ es.toList.map (fun e => (e.key, e.val)) = L.map (fun p => (kyS p.1, p.2)) ∧ ∀ x ∈ es.toList, x.born < ck
/-- an entry k has been made and waits for its value -/
def MpP (w : World) (b : Nat) (L : List (List UInt8 × Value)) (k : List UInt8) (ck : Nat) : Prop :=
  ∃ (es : Array MapEntry) (z : Value), w.heap[b]? = some (.map (es.push { key := kyS k, val := z, born := ck }) (ck + 1)) ∧ es.toList.map (fun e => (e.key, e.val)) = L.map (fun p => (kyS p.1, p.2)) ∧ ∀ x ∈ es.toList, x.born < ck
theorem MpS.keep {w w' : World} {b : Nat} {L : List (List UInt8 × Value)} {ck : Nat} (h : MpS w b L ck) (k : w'.heap[b]? = w.heap[b]?) : MpS w' b L ck := by
  obtain ⟨es, h1, h2, h3⟩ := h
  exact ⟨es, k.trans h1, h2, h3⟩
theorem MpP.keep {w w' : World} {b : Nat} {L : List (List UInt8 × Value)} {k : List UInt8} {ck : Nat} (h : MpP w b L k ck) (kk : w'.heap[b]? = w.heap[b]?) : MpP w' b L k ck := by
  obtain ⟨es, z, h1, h2, h3⟩ := h
  exact ⟨es, z, kk.trans h1, h2, h3⟩
theorem MpS.lt {w : World} {b : Nat} {L : List (List UInt8 × Value)} {ck : Nat} (h : MpS w b L ck) : b < w.heap.size := by
  obtain ⟨es, h1, _⟩ := h
  exact (Array.getElem?_eq_some_iff.1 h1).1
theorem MpS.new (w : World) : MpS (w.alloc (.map #[] 0)) w.heap.size [] 0 := ⟨#[], MapKept.heap_alloc w _ |>.1, rfl, fun x hx => by simp at hx⟩
section
variable {P : Program} {w : World} {b : Nat} {L : List (List UInt8 × Value)} {ck : Nat} {t kt et : TypeId} {k : List UInt8}
theorem MpS.keys {es : Array MapEntry} (h2 : es.toList.map (fun e => (e.key, e.val)) = L.map (fun p => (kyS p.1, p.2))) : (∀ x ∈ es.toList, MapKept.IsKey .string x.key) ∧ ∀ (j : Nat) (e : MapEntry), es.toList[j]? = some e → ∃ p : List UInt8 × Value, L[j]? = some p ∧ e.key = kyS p.1 ∧ e.val = p.2 := by
  have h : ∀ (j : Nat) (e : MapEntry), es.toList[j]? = some e → ∃ p : List UInt8 × Value, L[j]? = some p ∧ e.key = kyS p.1 ∧ e.val = p.2 := fun j e hj => by
    have h3 := congrArg (fun l => l[j]?) h2
    simp only [List.getElem?_map, hj, Option.map_some] at h3
    cases hL : L[j]? with
    | none => rw [hL] at h3; cases h3
    | some p =>
      rw [hL] at h3
      injection h3 with h3
      injection h3 with a b
      exact ⟨p, rfl, a, b⟩
  refine ⟨fun x hx => ?_, h⟩
  obtain ⟨j, hj⟩ := List.getElem?_of_mem hx
  obtain ⟨p, _, e, _⟩ := h j x hj
  rw [e]; exact trivial
theorem mps_lookup_no (h : MpS w b L ck) (hm : P.underlying t = some (.map kt et)) (hd : P.underlying kt = some .string) {z : Value} (hz : (zeroValue et).run P w = .ok z w) (hk : ∀ p ∈ L, p.1 ≠ k) :
    Sem.run P (Instr.lookup t (.map (some b)) (kyS k) true) w = .ok (.tuple #[z, .bool false]) w := by
  obtain ⟨es, h1, h2, _⟩ := h
  obtain ⟨a1, a2⟩ := MpS.keys h2
  rcases MapKept.findNow_spec (d := .string) (k := kyS k) trivial es.toList 0 a1 with ⟨e1, _⟩ | ⟨j, e, e1, e2, e3⟩
  · simp [Instr.lookup, run_underlying hm, MapKept.run_getObj_map h1, MapKept.run_checkKey hd (k := kyS k) trivial, MapKept.run_findKey hd e1, hz, Result.andThen]
  · obtain ⟨p, hp, e4, _⟩ := a2 j e e2
    rw [e4] at e3
    exact absurd (kyS_inj e3) (hk p (List.mem_of_getElem? hp))
theorem mps_lookup_yes (h : MpS w b L ck) (hm : P.underlying t = some (.map kt et)) (hd : P.underlying kt = some .string) (hn : (L.map (·.1)).Nodup) {v : Value} (hk : (k, v) ∈ L) :
    Sem.run P (Instr.lookup t (.map (some b)) (kyS k) true) w = .ok (.tuple #[v, .bool true]) w ∧ Sem.run P (Instr.lookup t (.map (some b)) (kyS k) false) w = .ok v w := by
  obtain ⟨es, h1, h2, _⟩ := h
  obtain ⟨a1, a2⟩ := MpS.keys h2
  rcases MapKept.findNow_spec (d := .string) (k := kyS k) trivial es.toList 0 a1 with ⟨e1, e0⟩ | ⟨j, e, e1, e2, e3⟩
  · exfalso
    obtain ⟨j, hj⟩ := List.getElem?_of_mem hk
    have hl : es.toList.length = L.length := by have := congrArg List.length h2; simpa using this
    have hjl : j < es.toList.length := by rw [hl]; exact (List.getElem?_eq_some_iff.1 hj).1
    obtain ⟨p, hp, e4, _⟩ := a2 j _ (List.getElem?_eq_getElem hjl)
    rw [hj] at hp
    injection hp with hp
    subst hp
    exact e0 _ (List.getElem_mem hjl) e4
  · obtain ⟨p, hp, e4, e5⟩ := a2 j e e2
    rw [e4] at e3
    have hpk := kyS_inj e3
    have hpe : p = (k, v) := by
      obtain ⟨i, hi⟩ := List.getElem?_of_mem hk
      have hij : i = j := by
        have hi1 : i < (L.map (·.1)).length := by rw [List.length_map]; exact (List.getElem?_eq_some_iff.1 hi).1
        have hj1 : j < (L.map (·.1)).length := by rw [List.length_map]; exact (List.getElem?_eq_some_iff.1 hp).1
        refine (List.getElem_inj (h₀ := hi1) (h₁ := hj1) hn).1 ?_
        obtain ⟨_, q1⟩ := List.getElem?_eq_some_iff.1 hi
        obtain ⟨_, q2⟩ := List.getElem?_eq_some_iff.1 hp
        rw [List.getElem_map, List.getElem_map, q1, q2, hpk]
      rw [hij, hp] at hi
      injection hi
    rw [e5, hpe] at e1
    constructor
    · simp [Instr.lookup, run_underlying hm, MapKept.run_getObj_map h1, MapKept.run_checkKey hd (k := kyS k) trivial, MapKept.run_findKey hd e1, Result.andThen]
    · simp [Instr.lookup, run_underlying hm, MapKept.run_getObj_map h1, MapKept.run_checkKey hd (k := kyS k) trivial, MapKept.run_findKey hd e1, Result.andThen]
theorem mps_entry (h : MpS w b L ck) (hm : P.underlying t = some (.map kt et)) (hd : P.underlying kt = some .string) {z : Value} (hz : (zeroValue et).run P w = .ok z w) (hk : ∀ p ∈ L, p.1 ≠ k) :
    ∃ w', Sem.run P (Instr.mapEntry t (.map (some b)) (kyS k)) w = .ok (.tuple #[z, goInt ck]) w' ∧ MpP w' b L k ck ∧ (∀ r, r ≠ b → w'.heap[r]? = w.heap[r]?) ∧ w'.heap.size = w.heap.size ∧ (∀ B, B ≤ b → Below B w w') := by
  obtain ⟨es, h1, h2, h3⟩ := h
  obtain ⟨a1, a2⟩ := MpS.keys h2
  rcases MapKept.findNow_spec (d := .string) (k := kyS k) trivial es.toList 0 a1 with ⟨e1, _⟩ | ⟨j, e, e1, e2, e3⟩
  · refine ⟨{ w with heap := w.heap.setIfInBounds b (.map (es.push { key := kyS k, val := z, born := ck }) (ck + 1)) }, ?_, ⟨es, z, (MapKept.heap_set h1).1, h2, h3⟩, fun r hr => (MapKept.heap_set h1).2 r hr, by simp, fun B hB => ⟨rfl, rfl, rfl, by simp, fun r hr => (MapKept.heap_set h1).2 r (by omega)⟩⟩
    simp [Instr.mapEntry, run_underlying hm, MapKept.run_getObj_map h1, MapKept.run_checkKey hd (k := kyS k) trivial, MapKept.run_findKey hd e1, hz, MapKept.run_setObj_map _ h1, Result.andThen]
  · obtain ⟨p, hp, e4, _⟩ := a2 j e e2
    rw [e4] at e3
    exact absurd (kyS_inj e3) (hk p (List.mem_of_getElem? hp))
theorem mps_store (h : MpP w b L k ck) (v : Value) :
    ∃ w', Sem.run P (Instr.entryStore t (.map (some b)) (goInt ck) v) w = .ok () w' ∧ MpS w' b (L ++ [(k, v)]) (ck + 1) ∧ (∀ r, r ≠ b → w'.heap[r]? = w.heap[r]?) ∧ w'.heap.size = w.heap.size ∧ (∀ B, B ≤ b → Below B w w') := by
  obtain ⟨es, z, h1, h2, h3⟩ := h
  have hf : (es.push { key := kyS k, val := z, born := ck }).findIdx? (fun e => (e.born : Int) == (ck : Int)) = some es.size := by
    rw [Array.findIdx?_push]
    have : es.findIdx? (fun e => (e.born : Int) == (ck : Int)) = none := by
      rw [Array.findIdx?_eq_none_iff]
      intro x hx
      have := h3 x (by simpa using hx)
      simp; omega
    rw [this]; simp
  refine ⟨{ w with heap := w.heap.setIfInBounds b (.map ((es.push { key := kyS k, val := z, born := ck }).modify es.size fun e => { e with val := v }) (ck + 1)) }, ?_, ⟨_, (MapKept.heap_set h1).1, ?_, ?_⟩, fun r hr => (MapKept.heap_set h1).2 r hr, by simp, fun B hB => ⟨rfl, rfl, rfl, by simp, fun r hr => (MapKept.heap_set h1).2 r (by omega)⟩⟩
  · simp only [Instr.entryStore, Sem.run_bind, MapKept.run_getObj_map h1, Result.andThen]
    simp [goInt, asInt, asIntOf, hf, MapKept.run_setObj_map _ h1, Result.andThen]
  · have e : ((es.push { key := kyS k, val := z, born := ck }).modify es.size fun e => { e with val := v }).toList = es.toList ++ [{ key := kyS k, val := v, born := ck }] := by
      rw [Array.toList_modify, Array.toList_push, ← Array.length_toList, mod_app]
    rw [e, List.map_append, List.map_append, h2]; rfl
  · intro x hx
    have e : ((es.push { key := kyS k, val := z, born := ck }).modify es.size fun e => { e with val := v }).toList = es.toList ++ [{ key := kyS k, val := v, born := ck }] := by
      rw [Array.toList_modify, Array.toList_push, ← Array.length_toList, mod_app]
    rw [e] at hx
    rcases List.mem_append.1 hx with q | q
    · have := h3 x q; omega
    · rw [List.mem_singleton.1 q]; simp
end
end Go.Proofs.YteliflcbegcdlaaGreatDoor

namespace Go.Proofs.YteliflcbegcdlaaGreatDoor
open Go.RowKit
set_option linter.unusedVariables false
theorem mod_any (x : Int) (y n : Nat) (w : World) (hx : x = (y : Int)) (hn : 0 < n) (h1 : y ≤ 1000000) (h2 : n ≤ 1000000) : Calls Tryz.prog 65 #[.int .i64 x, .int .i64 n] w fun e w' => e = .returned (.int .i64 ((y % n : Nat) : Int)) ∧ w = w' := by
  subst hx
  have e1 : Int.tmod (y : Int) (n : Int) = ((y % n : Nat) : Int) := by rw [← Int.ofNat_tmod]
  have hlt := Nat.mod_lt y hn
  obtain ⟨r, hr⟩ : ∃ r, r = y % n := ⟨_, rfl⟩
  rw [← hr] at e1 hlt ⊢
  have e2 : Int.tmod ((r : Int) + (n : Int)) (n : Int) = (r : Int) := by
    rw [show (r : Int) + (n : Int) = ((r + n : Nat) : Int) by omega, ← Int.ofNat_tmod, Nat.add_mod_right, Nat.mod_eq_of_lt hlt]
  have e3 : IntKind.i64.wrap ((r : Int) + (n : Int)) = (r : Int) + (n : Int) := IntWalk.i64_in _ (by omega)
  have n1 : ¬ (n : Int) = 0 := by omega
  have n2 : ¬ n = 0 := by omega
  clear hr hlt
  go_enter Tryz.func65, Tryz.ntmps65
  go_wp2_with fail
  go_ret
  exact ⟨rfl, rfl⟩
set_option maxHeartbeats 2000000 in
theorem refShift_any (vx vo : Value) (X O : List Int) (cc rr : Nat) (w : World) (hX : Ints w vx X) (hO : Ints w vo O) (hv : Vd X O) (hcc : cc < X.length) (hrr : rr < X.length) :
    Calls Tryz.prog 41 #[.agg #[vx, vo], .int .i64 cc, .int .i64 rr] w fun e w' => ∃ v, e = .returned v ∧ NewGrid w.heap.size w' v (trl cc rr X) (trl cc rr O) ∧ Below w.heap.size w w' := by
  obtain ⟨i0, hi0, hz0, hz1, hz2⟩ := info_parts info_int
  have hn := hv.most
  have hmk := fun W => run_make_one (P := Tryz.prog) 22 3 i0 (.int .i64 0) Tryz.underlying22 hi0 hz0 hz1 rfl (by rw [hz2]; decide) X.length (by omega) W
  clear hi0 hz0 hz1 hz2
  have HL := Lib.hid hv.len
  have HVD := Lib.hid hv
  have hn0 : 0 < X.length := by omega
  have HMC := Lib.hid (fun W => mod_any (cc : Int) cc X.length W rfl hn0 (by omega) (by omega))
  have HMR := Lib.hid (fun W => mod_any (rr : Int) rr X.length W rfl hn0 (by omega) (by omega))
  rw [Nat.mod_eq_of_lt hcc] at HMC
  rw [Nat.mod_eq_of_lt hrr] at HMR
  clear hv
  have hX0 := hX
  have hO0 := hO
  obtain ⟨A, c, rfl, hc, hh⟩ := hX
  obtain ⟨A', c', rfl, hc', hh'⟩ := hO
  clear hh hh'
  go_enter Tryz.func41, Tryz.ntmps41
  go_upto_region 2 with fail
  have hW : Arr ((w.alloc (.cells #[.slice A X.length c, .slice A' O.length c'] 24)).alloc (.cells #[.slice none 0 0, .slice none 0 0] 24)) w.heap.size 24 [.slice A X.length c, .slice A' O.length c'] ∧ Arr ((w.alloc (.cells #[.slice A X.length c, .slice A' O.length c'] 24)).alloc (.cells #[.slice none 0 0, .slice none 0 0] 24)) (w.heap.size + 1) 24 [.slice none 0 0, .slice none 0 0] ∧ Below w.heap.size w ((w.alloc (.cells #[.slice A X.length c, .slice A' O.length c'] 24)).alloc (.cells #[.slice none 0 0, .slice none 0 0] 24)) ∧ ((w.alloc (.cells #[.slice A X.length c, .slice A' O.length c'] 24)).alloc (.cells #[.slice none 0 0, .slice none 0 0] 24)).heap.size = w.heap.size + 2 :=
    ⟨(Arr.new _ _ [_, _]).alloc _, Arr.newAt (w.alloc _) _ [_, _] _ (by simp), ((Below.refl _ _).alloc (Nat.le_refl _) _).alloc (by simp) _, by simp⟩
  generalize ((w.alloc (.cells #[.slice A X.length c, .slice A' O.length c'] 24)).alloc (.cells #[.slice none 0 0, .slice none 0 0] 24)) = w2 at hW ⊢
  obtain ⟨q0, q1, hb2, hS2⟩ := hW
  have HW0 := Lib.hid q0
  have HW1 := Lib.hid q1
  have HS2 := Lib.hid hS2
  clear q0 q1 hS2
  go_cut [8, 15, 17] (fun s4 s10 s12 wx => Mid w.heap.size wx s4 s10 s12 (.slice A X.length c) (.slice A' O.length c') (List.replicate X.length 0) (List.replicate X.length 0) ∧ Below w.heap.size w wx)
  case first =>
    go_region
    all_goals
      go_wp2_with fail
      go_meet
      have hs2 := HS2.out
      have hw0 : w2.heap[w.heap.size]? = some (.cells #[.slice A X.length c, .slice A' O.length c'] 24 (0, 0)) := HW0.out
      have hw1 : w2.heap[w.heap.size + 1]? = some (.cells #[.slice none 0 0, .slice none 0 0] 24 (0, 0)) := HW1.out
      refine ⟨?_, ?_⟩
      rotate_left
      · repeat (first | exact hb2 | refine Below.alloc ?_ (by first | omega | (simp; omega)) _ | refine Below.drew ?_)
      exact mid_of2 w _ _ _ X.length X.length (by simp only [heap_push, heap_drew, Array.getElem?_push, Array.size_push]; repeat (first | rw [if_pos trivial] | rw [if_neg (by omega)] | exact hw0 | exact hw1)) (by simp only [heap_push, heap_drew, Array.getElem?_push, Array.size_push]; repeat (first | rw [if_pos trivial] | rw [if_neg (by omega)] | exact hw0 | exact hw1)) (by simp only [heap_push, heap_drew, Array.getElem?_push, Array.size_push]; repeat (first | rw [if_pos trivial] | rw [if_neg (by omega)] | exact hw0 | exact hw1)) (by simp only [heap_push, heap_drew, Array.getElem?_push, Array.size_push]; repeat (first | rw [if_pos trivial] | rw [if_neg (by omega)] | exact hw0 | exact hw1)) (by simp only [heap_push, heap_drew, Array.getElem?_push, Array.size_push]; repeat (first | rw [if_pos trivial] | rw [if_neg (by omega)] | exact hw0 | exact hw1)) (by omega) (by omega) (by omega) (by omega) (by omega) (by omega)
  case rest =>
    clear hmk
    obtain ⟨⟨g, gx, go, rfl, e14, e16, hm⟩, hb⟩ := hcut
    clear e14 e16
    go_wp2_with fail
    go_loopw [9] (fun i wr => ∃ (k : Nat) (aX aO : List Int), k ≤ X.length ∧ i = .int .i64 k ∧ Mid3 w.heap.size wr g gx go (.slice A X.length c) (.slice A' O.length c') aX aO ∧ Below w.heap.size w wr ∧
      Hid (aX.length = X.length ∧ aO.length = X.length ∧ trl cc rr X = relTo (mvTr X.length cc rr) true k (X.drop k) aX ∧ trl cc rr O = relTo (mvTr X.length cc rr) true k (O.drop k) aO)) (fun i _ => X.length - (intOf i).toNat)
    case atStart =>
      exact ⟨0, _, _, Nat.zero_le _, rfl, hm, hb, by simp, by simp, rfl, by unfold trl reloc; rw [← HL.out]; rfl⟩
    case round =>
      obtain ⟨k, aX, aO, hk, rfl, hm', hb', H⟩ := hrel
      clear hb hm
      by_cases hlt : k < X.length
      · obtain ⟨b, o, rfl, hbl, hcell⟩ := hX0.at_ hlt
        have hltO : k < O.length := by have := HL.out; omega
        obtain ⟨b', o', rfl, hbl', hcell'⟩ := hO0.at_ hltO
        have hcX := (hb'.cell (p := ⟨b, o + k, none⟩) hbl).trans hcell
        have rx := HVD.out.pX.1 _ (List.getElem_mem hlt)
        have ro := HVD.out.pO.1 _ (List.getElem_mem hltO)
        rw [relTo_drop (mvTr X.length cc rr) true X aX hlt, relTo_drop (mvTr X.length cc rr) true O aO hltO] at H
        generalize X[k] = x at *
        generalize O[k] = y at *
        clear hcell
        obtain ⟨x, rfl⟩ := Int.eq_ofNat_of_zero_le rx.1
        obtain ⟨y, rfl⟩ := Int.eq_ofNat_of_zero_le ro.1
        have hyl : (y : Int) < (X.length : Int) := by have := ro.2; have := HL.out; omega
        rw [relStep_mvTr _ _ _ _ _ _ hn0, relStep_mvTr _ _ _ _ _ _ hn0] at H
        obtain ⟨p, hp⟩ : ∃ p, p = (k + cc) % X.length := ⟨_, rfl⟩
        have hpn : p < X.length := by rw [hp]; exact Nat.mod_lt _ hn0
        rw [← hp] at H
        have HMP := Lib.hid (fun W => mod_any ((k : Int) + (cc : Int)) (k + cc) X.length W (by omega) hn0 (by omega) (by omega))
        have HMx := Lib.hid (fun W => mod_any ((x : Int) + (rr : Int)) (x + rr) X.length W (by omega) hn0 (by have := rx.2; omega) (by omega))
        have HMy := Lib.hid (fun W => mod_any ((y : Int) + (rr : Int)) (y + rr) X.length W (by omega) hn0 (by omega) (by omega))
        rw [← hp] at HMP
        obtain ⟨u, hu⟩ : ∃ u, u = (x + rr) % X.length := ⟨_, rfl⟩
        obtain ⟨v, hv⟩ : ∃ v, v = (y + rr) % X.length := ⟨_, rfl⟩
        have hu2 : ((x : Int) + (rr : Int)) % (X.length : Int) = (u : Int) := by rw [hu]; rfl
        have hv2 : ((y : Int) + (rr : Int)) % (X.length : Int) = (v : Int) := by rw [hv]; rfl
        rw [hu2, hv2] at H
        rw [← hu] at HMx
        rw [← hv] at HMy
        clear hp hu hv hu2 hv2
        have hp1 : p < aX.length := by have := H.out.1; omega
        have hp2 : p < aO.length := by have := H.out.2.1; omega
        have w5 := hm'.2.2.2.2.1
        have w6 := hm'.2.2.2.2.2.1
        have n3 := hm'.2.1.symm
        have n4 := hm'.2.2.1.symm
        have n5 : gx ≠ w.heap.size := by omega
        have n6 : go ≠ w.heap.size := by omega
        have n7 : gx ≠ b := by omega
        have n10 : go ≠ b' := by omega
        have za : IntKind.i64.wrap ((k : Int) + (cc : Int)) = (k : Int) + (cc : Int) := IntWalk.i64_in _ (by omega)
        have zk : (k : Int) < (X.length : Int) := by omega
        go_upto_region 7 with (first | (go_at_call_of 65 (Value.int .i64 (cc : Int)); refine (HMC.out _).mono ?_; rintro e wq ⟨rfl, rfl⟩) | (go_at_call_of 65 (Value.int .i64 ((k : Int) + (cc : Int))); refine (HMP.out _).mono ?_; rintro e wq ⟨rfl, rfl⟩))
        have z0 := hm'.2.2.2.2.2.2.2.2.2.1.cell 0
        have z1 := hm'.2.2.2.2.2.2.1.cell 0
        have z2 := (hm'.2.2.2.2.2.2.2.1.cell p).trans (ints_get _ hp1)
        have z3 := hm'.2.2.2.2.2.2.2.1.frozen p
        have z5 : (p : Int) < (aX.length : Int) := by omega
        have z6 : (k : Int) < (X.length : Int) := by omega
        have z7 : (k : Int) < (O.length : Int) := by omega
        have z8 : IntKind.i64.wrap ((x : Int) + (rr : Int)) = (x : Int) + (rr : Int) := IntWalk.i64_in _ (by omega)
        go_region_held3 (fun w' => w'.cell? ⟨w.heap.size, 0, none⟩ = some (.slice (some ⟨b, o, none⟩) X.length c) ∧ w'.cell? ⟨g, 0, none⟩ = some (.slice (some ⟨gx, 0, none⟩) aX.length aX.length) ∧ w'.cell? ⟨b, o + k, none⟩ = some (.int .i64 (x : Int))) (go_keep)
          (first
            | (go_at_call_of 65 (Value.int .i64 (rr : Int)); refine (HMR.out _).mono ?_; rintro e wq ⟨rfl, rfl⟩)
            | (go_at_call_of 65 (Value.int .i64 ((x : Int) + (rr : Int))); refine (HMx.out _).mono ?_; rintro e wq ⟨rfl, rfl⟩))
        clear z0 z1 z2 z3 z5 z6 z7 z8
        have hm2 := (hm'.setX p u).drew
        have hb2 := (hb'.setCell (p := ⟨gx, p, none⟩) (by show w.heap.size ≤ gx; omega) (.int .i64 (u : Int))).drew
        have hcO := (hb2.cell (p := ⟨b', o' + k, none⟩) hbl').trans hcell'
        generalize (wr.setCell ⟨gx, p, none⟩ (.int .i64 (u : Int))).drew = wr2 at *
        clear hm' hb' hcX hcell'
        go_wp2_with fail
        have z0 := hm2.2.2.2.2.2.2.2.2.2.1.cell 1
        have z1 := hm2.2.2.2.2.2.2.1.cell 1
        have z2 := (hm2.2.2.2.2.2.2.2.2.1.cell p).trans (ints_get _ hp2)
        have z3 := hm2.2.2.2.2.2.2.2.2.1.frozen p
        have z5 : (p : Int) < (aO.length : Int) := by omega
        have z6 : (k : Int) < (X.length : Int) := by omega
        have z7 : (k : Int) < (O.length : Int) := by omega
        have z8 : IntKind.i64.wrap ((y : Int) + (rr : Int)) = (y : Int) + (rr : Int) := IntWalk.i64_in _ (by omega)
        go_region_held3 (fun w' => w'.cell? ⟨w.heap.size, 1, none⟩ = some (.slice (some ⟨b', o', none⟩) O.length c') ∧ w'.cell? ⟨g, 1, none⟩ = some (.slice (some ⟨go, 0, none⟩) aO.length aO.length) ∧ w'.cell? ⟨b', o' + k, none⟩ = some (.int .i64 (y : Int))) (go_keep)
          (first
            | (go_at_call_of 65 (Value.int .i64 (rr : Int)); refine (HMR.out _).mono ?_; rintro e wq ⟨rfl, rfl⟩)
            | (go_at_call_of 65 (Value.int .i64 ((y : Int) + (rr : Int))); refine (HMy.out _).mono ?_; rintro e wq ⟨rfl, rfl⟩))
        clear z0 z1 z2 z3 z5 z6 z7 z8
        go_wp2_with fail
        go_roundw
        case rel => exact ⟨k + 1, _, _, by omega, by go_num, (hm2.setO p v).drew, (hb2.setCell (p := ⟨go, p, none⟩) (by show w.heap.size ≤ go; omega) _).drew, by simp [H.out.1], by simp [H.out.2.1], H.out.2.2.1, H.out.2.2.2⟩
        case measure => simp [intOf]; omega
      · obtain rfl : k = X.length := by omega
        obtain ⟨hl1, hl2, hr1, hr2⟩ := H.out
        rw [List.drop_length] at hr1
        rw [HL.out, List.drop_length] at hr2
        have hg0 := hm'.2.2.2.2.2.2.1.cell 0
        have hg1 := hm'.2.2.2.2.2.2.1.cell 1
        obtain ⟨e1, e2, e3, e4, e5, e6, q1, q2, q3, q4, a, b, q5⟩ := hm'
        have hz0 := q5.cell 0
        have hz1 := q5.cell 1
        have hz2 := q5.frozen 0
        have hz3 := q5.frozen 1
        have R1 := Lib.hid hr1
        have R2 := Lib.hid hr2
        have hres := Lib.hid ((q5.set 0 (.slice (some ⟨gx, 0, none⟩) aX.length aX.length)).set 1 (.slice (some ⟨go, 0, none⟩) aO.length aO.length))
        clear hr1 hr2 hl1 hl2 q1 q4 q5 hX0 hO0
        go_wp2_with fail
        refine bodyPost_ret (v := .agg #[.slice (some ⟨gx, 0, none⟩) aX.length aX.length, .slice (some ⟨go, 0, none⟩) aO.length aO.length]) (results_c Tryz.results41 _ _ (w.heap.size + 1) 24 _ _ rfl hres.out Tryz.underlying24 rfl info_grid) rfl ⟨_, rfl, ?_, ?_⟩
        · rw [R1.out, R2.out]
          exact ⟨gx, go, rfl, e1, by omega, by omega, q2.far2 (r := w.heap.size + 1) (by omega), q3.far2 (r := w.heap.size + 1) (by omega)⟩
        · exact bset2 (r := w.heap.size + 1) hb' (by omega)
end Go.Proofs.YteliflcbegcdlaaGreatDoor

namespace Go.Proofs.YteliflcbegcdlaaGreatDoor
open Go.RowKit
set_option linter.unusedVariables false
theorem drop_eq_iff {X Y : List Int} {k : Nat} (h : k < X.length) (h' : k < Y.length) : X.drop k = Y.drop k ↔ X[k] = Y[k] ∧ X.drop (k + 1) = Y.drop (k + 1) := by
  rw [List.drop_eq_getElem_cons h, List.drop_eq_getElem_cons h', List.cons.injEq]
set_option maxHeartbeats 1000000 in
theorem refInts_any (vx vy : Value) (X Y : List Int) (w : World) (hX : Ints w vx X) (hY : Ints w vy Y) (hl : X.length ≤ 1000) (hl' : Y.length ≤ 1000) :
    Calls Tryz.prog 27 #[vx, vy] w fun e w' => e = .returned (.bool (decide (X = Y))) ∧ Below w.heap.size w w' := by
  have hX0 := hX
  have hY0 := hY
  obtain ⟨A, c, rfl, hc, hh⟩ := hX
  obtain ⟨A', c', rfl, hc', hh'⟩ := hY
  clear hh hh' hc hc'
  by_cases hlen : X.length = Y.length
  rotate_left
  · have z1 : ((X.length : Int) != (Y.length : Int)) = true := by simp; omega
    have hfin := Lib.hid (show decide (X = Y) = false from decide_eq_false (fun e => hlen (by rw [e])))
    clear hlen
    go_enter Tryz.func27, Tryz.ntmps27
    go_wp2_with fail
    go_ret
    exact ⟨by rw [hfin.out]; rfl, Below.refl _ _⟩
  have z1 : ((X.length : Int) != (Y.length : Int)) = false := by simp; omega
  have HL := Lib.hid hlen
  clear hlen
  go_enter Tryz.func27, Tryz.ntmps27
  go_wp2_with fail
  clear z1
  go_loopw [5] (fun i wr => ∃ k : Nat, k ≤ X.length ∧ i = .int .i64 k ∧ Below w.heap.size w wr ∧ Hid (X = Y ↔ X.drop k = Y.drop k)) (fun i _ => X.length - (intOf i).toNat)
  case atStart => exact ⟨0, Nat.zero_le _, rfl, Below.refl _ _, Iff.rfl⟩
  case round =>
    obtain ⟨k, hk, rfl, hb, H⟩ := hrel
    by_cases hlt : k < X.length
    · have hlt' : k < Y.length := by have := HL.out; omega
      obtain ⟨b, o, rfl, hbl, hcell⟩ := hX0.at_ hlt
      obtain ⟨b', o', rfl, hbl', hcell'⟩ := hY0.at_ hlt'
      have hcX := (hb.cell (p := ⟨b, o + k, none⟩) hbl).trans hcell
      have hcY := (hb.cell (p := ⟨b', o' + k, none⟩) hbl').trans hcell'
      rw [drop_eq_iff hlt hlt'] at H
      generalize X[k] = x at *
      generalize Y[k] = y at *
      clear hcell hcell' hX0 hY0
      have z2 : (k : Int) < (X.length : Int) := by omega
      have z3 : (k : Int) < (Y.length : Int) := by omega
      by_cases hxy : x = y
      · have h1 : (x != y) = false := by simp [hxy]
        have H2 := Lib.hid (show X = Y ↔ X.drop (k + 1) = Y.drop (k + 1) from H.out.trans ⟨fun h => h.2, fun h => ⟨hxy, h⟩⟩)
        clear hxy H
        go_wp2_with fail
        go_quiet (fail)
        go_wp2_with fail
        go_roundw
        case rel => exact ⟨k + 1, by omega, by go_num, bdrewN hb _, H2⟩
        case measure => simp [intOf]; omega
      · have h1 : (x != y) = true := by simp [hxy]
        have hfin := Lib.hid (show decide (X = Y) = false from decide_eq_false (fun e => hxy (H.out.1 e).1))
        clear hxy H
        go_wp2_with fail
        go_quiet (fail)
        go_wp2_with fail
        go_ret
        exact ⟨by rw [hfin.out]; rfl, bdrewN hb _⟩
    · obtain rfl : k = X.length := by omega
      have hfin := Lib.hid (show decide (X = Y) = true from decide_eq_true (H.out.2 (by rw [List.drop_length, HL.out, List.drop_length])))
      clear H
      go_wp2_with fail
      go_ret
      exact ⟨by rw [hfin.out]; rfl, hb⟩
set_option maxHeartbeats 1000000 in
theorem refSame_any (va vb vc vd : Value) (X O Y R : List Int) (w : World) (hX : Ints w va X) (hO : Ints w vb O) (hY : Ints w vc Y) (hR : Ints w vd R) (l1 : X.length ≤ 1000) (l2 : O.length ≤ 1000) (l3 : Y.length ≤ 1000) (l4 : R.length ≤ 1000) :
    Calls Tryz.prog 11 #[.agg #[va, vb], .agg #[vc, vd]] w fun e w' => e = .returned (.bool (decide ((X, O) = (Y, R)))) ∧ Below w.heap.size w w' := by
  have H1 := Lib.hid (fun W (hb : Below w.heap.size w W) => refInts_any va vc X Y W (hX.below hb) (hY.below hb) l1 l3)
  have H2 := Lib.hid (fun W (hb : Below w.heap.size w W) => refInts_any vb vd O R W (hO.below hb) (hR.below hb) l2 l4)
  obtain ⟨A, c, rfl, -, -⟩ := hX
  obtain ⟨A1, c1, rfl, -, -⟩ := hO
  obtain ⟨A2, c2, rfl, -, -⟩ := hY
  obtain ⟨A3, c3, rfl, -, -⟩ := hR
  have hd : decide ((X, O) = (Y, R)) = (decide (X = Y) && decide (O = R)) := by
    by_cases h1 : X = Y <;> by_cases h2 : O = R <;> simp [h1, h2]
  have HD := Lib.hid hd
  obtain ⟨b1, hb1⟩ : ∃ b, b = decide (X = Y) := ⟨_, rfl⟩
  obtain ⟨b2, hb2⟩ : ∃ b, b = decide (O = R) := ⟨_, rfl⟩
  rw [← hb1] at H1 HD
  rw [← hb2] at H2 HD
  rw [HD.out]
  clear hd hb1 hb2 l1 l2 l3 l4 HD
  go_enter Tryz.func11, Tryz.ntmps11
  go_upto_region 1 with fail
  have hW : ∀ W, W = ((w.alloc (.cells #[.slice A X.length c, .slice A1 O.length c1] 24)).alloc (.cells #[.slice A2 Y.length c2, .slice A3 R.length c3] 24)) → Arr W w.heap.size 24 [.slice A X.length c, .slice A1 O.length c1] ∧ Arr W (w.heap.size + 1) 24 [.slice A2 Y.length c2, .slice A3 R.length c3] ∧ Below w.heap.size w W := by
    rintro W rfl
    exact ⟨(Arr.new _ _ [_, _]).alloc _, Arr.newAt (w.alloc _) _ [_, _] _ (by simp), ((Below.refl _ _).alloc (Nat.le_refl _) _).alloc (by simp) _⟩
  generalize ((w.alloc (.cells #[.slice A X.length c, .slice A1 O.length c1] 24)).alloc (.cells #[.slice A2 Y.length c2, .slice A3 R.length c3] 24)) = w2 at hW ⊢
  obtain ⟨q1, q2, hb2⟩ := hW w2 rfl
  have y0 := q1.cell 0
  have y1 := q1.cell 1
  have z0 := q2.cell 0
  have z1 := q2.cell 1
  clear hW
  go_wp2_with fail
  refine (H1.out w2 hb2).mono ?_
  rintro e3 w3 ⟨rfl, hb3⟩
  have y1 := (hb3.cell q1.lt).trans y1
  have z1 := (hb3.cell q2.lt).trans z1
  have HB3 := Lib.hid (hb2.trans (hb3.mono hb2.size))
  clear y0 z0 hb3 hb2
  cases b1 with
  | false =>
    go_wp2_with fail
    go_ret
    exact ⟨by simp, HB3.out⟩
  | true =>
    go_wp2_with fail
    refine (H2.out w3 HB3.out).mono ?_
    rintro e4 w4 ⟨rfl, hb4⟩
    have HB4 := Lib.hid (HB3.out.trans (hb4.mono HB3.out.size))
    clear y1 z1 hb4
    go_wp2_with fail
    go_ret
    exact ⟨by simp, HB4.out⟩
end Go.Proofs.YteliflcbegcdlaaGreatDoor

namespace Go.Proofs.YteliflcbegcdlaaGreatDoor
open Go.RowKit
set_option linter.unusedVariables false
theorem Ints.one (w : World) (t : TypeId) (x : Int) : Ints (w.alloc (.cells #[.int .i64 x] t)) (.slice (some ⟨w.heap.size, 0, none⟩) 1 1) [x] := Ints.of_arr (xs := [x]) (Arr.new w t [.int .i64 x])
set_option maxHeartbeats 400000 in
theorem in_any (vx : Value) (X : List Int) (y : Int) (w : World) (hX : Ints w vx X) (hl : X.length ≤ 1000) :
    Calls Tryz.prog 40 #[vx, .int .i64 y] w fun e w' => e = .returned (.bool (decide (y ∈ X))) ∧ w = w' := by
  have hX0 := hX
  obtain ⟨A, c, rfl, hc, hh⟩ := hX
  clear hh
  go_enter Tryz.func40, Tryz.ntmps40
  go_wp2_with fail
  go_loop [5] (fun i => ∃ k : Nat, k ≤ X.length ∧ i = .int .i64 k ∧ Hid (y ∈ X ↔ y ∈ X.drop k)) (fun i => X.length - (intOf i).toNat)
  case atStart => exact ⟨0, Nat.zero_le _, rfl, Iff.rfl⟩
  case round =>
    obtain ⟨k, hk, rfl, H⟩ := hrel
    by_cases hlt : k < X.length
    · obtain ⟨b, o, rfl, hbl, hcell⟩ := hX0.at_ hlt
      rw [List.drop_eq_getElem_cons hlt, List.mem_cons] at H
      generalize X[k] = x at *
      by_cases e : x = y
      · have d : (x == y) = true := by simpa using e
        have hfin := Lib.hid (show decide (y ∈ X) = true by simp; exact H.out.2 (.inl e.symm))
        clear e
        go_wp2_with fail
        go_ret
        exact ⟨by rw [hfin.out]; rfl, rfl⟩
      · have d : (x == y) = false := by simpa using e
        have H' := Lib.hid (show y ∈ X ↔ y ∈ X.drop (k + 1) from H.out.trans ⟨fun h => h.resolve_left (fun h => e h.symm), .inr⟩)
        clear e
        go_wp2_with fail
        go_round
        case rel => exact ⟨k + 1, by omega, by go_num, H'⟩
        case measure => simp [intOf]; omega
    · have hk2 : k = X.length := by omega
      have hfin := Lib.hid (show decide (y ∈ X) = false by simp; rw [H.out, hk2, List.drop_length]; simp)
      clear hk2
      go_wp2_with fail
      go_ret
      exact ⟨by rw [hfin.out]; rfl, rfl⟩
/-- every number below m occurs -/
def allIn (X : List Int) : Nat → Nat → Bool
  | _, 0 => true
  | k, m + 1 => decide ((k : Int) ∈ X) && allIn X (k + 1) m
def refPerm (X : List Int) (n : Nat) : Bool := decide (X.length = n) && allIn X 0 n
set_option maxHeartbeats 400000 in
theorem isPerm_any (vx : Value) (X : List Int) (n : Nat) (w : World) (hX : Ints w vx X) (hl : X.length ≤ 1000) (hn : n ≤ 1000) :
    Calls Tryz.prog 21 #[vx, .int .i64 n] w fun e w' => e = .returned (.bool (refPerm X n)) ∧ w = w' := by
  have hX0 := hX
  obtain ⟨A, c, rfl, hc, hh⟩ := hX
  clear hh
  by_cases hlen : X.length = n
  rotate_left
  · have t : ((X.length : Int) != (n : Int)) = true := by simp; omega
    have hfin := Lib.hid (show refPerm X n = false by simp [refPerm, hlen])
    clear hlen
    go_enter Tryz.func21, Tryz.ntmps21
    go_wp2_with fail
    go_ret
    exact ⟨by rw [hfin.out]; rfl, rfl⟩
  have t : ((X.length : Int) != (n : Int)) = false := by simp; omega
  have hfin0 := Lib.hid (show refPerm X n = allIn X 0 (n - 0) by simp [refPerm, hlen])
  clear hlen
  go_enter Tryz.func21, Tryz.ntmps21
  go_wp2_with fail
  clear t
  go_loop [5] (fun i => ∃ k : Nat, k ≤ n ∧ i = .int .i64 k ∧ Hid (refPerm X n = allIn X k (n - k))) (fun i => n - (intOf i).toNat)
  case atStart => exact ⟨0, Nat.zero_le _, rfl, hfin0⟩
  case round =>
    clear hfin0
    obtain ⟨k, hk, rfl, H⟩ := hrel
    by_cases hlt : k < n
    · rw [show n - k = (n - (k + 1)) + 1 from by omega, allIn] at H
      go_wp2_with fail
      refine (in_any _ X k _ hX0 hl).mono ?_
      rintro e w' ⟨rfl, rfl⟩
      by_cases e : (k : Int) ∈ X
      · rw [decide_eq_true e] at H ⊢
        rw [Bool.true_and] at H
        clear e
        go_wp2_with fail
        go_round
        case rel => exact ⟨k + 1, by omega, by go_num, H⟩
        case measure => simp [intOf]; omega
      · rw [decide_eq_false e] at H ⊢
        rw [Bool.false_and] at H
        clear e
        go_wp2_with fail
        go_ret
        exact ⟨by rw [H.out]; rfl, rfl⟩
    · rw [show n - k = 0 from by omega] at H
      go_wp2_with fail
      go_ret
      exact ⟨by rw [H.out]; rfl, rfl⟩
theorem allIn_iff (X : List Int) : ∀ m k, allIn X k m = true ↔ ∀ j, k ≤ j → j < k + m → (j : Int) ∈ X := by
  intro m
  induction m with
  | zero => intro k; simp [allIn]; omega
  | succ m ih =>
    intro k
    rw [allIn, Bool.and_eq_true, ih, decide_eq_true_eq]
    constructor
    · rintro ⟨h1, h2⟩ j hj hj'
      by_cases e : j = k
      · rw [e]; exact h1
      · exact h2 j (by omega) (by omega)
    · intro h
      exact ⟨h k (by omega) (by omega), fun j hj hj' => h j (by omega) (by omega)⟩
theorem perm_of_sub : ∀ (l X : List Int), l.Nodup → l ⊆ X → X.length ≤ l.length → l.Perm X := by
  intro l
  induction l with
  | nil =>
    intro X _ _ h
    cases X with
    | nil => exact .refl _
    | cons x X => simp at h
  | cons a l ih =>
    intro X hn hs hl
    obtain ⟨h1, h2⟩ := List.nodup_cons.1 hn
    have ha : a ∈ X := hs (by simp)
    have hp := List.perm_cons_erase ha
    have hs' : l ⊆ X.erase a := fun x hx => (List.mem_erase_of_ne (fun e => h1 (by rw [← e]; exact hx))).2 (hs (by simp [hx]))
    have hlen : (X.erase a).length ≤ l.length := by rw [List.length_erase_of_mem ha]; simp at hl; omega
    exact ((ih _ h2 hs' hlen).cons a).trans hp.symm
/-- the reference's test is the program's -/
theorem perm_ref (X : List Int) : allIn X 0 X.length = permB X := by
  rw [Bool.eq_iff_iff, allIn_iff, permB_iff]
  constructor
  · intro h
    have hs : (List.range X.length).map (fun i : Nat => (i : Int)) ⊆ X := by
      intro x hx
      obtain ⟨j, hj, rfl⟩ := List.mem_map.1 hx
      exact h j (by omega) (by have := List.mem_range.1 hj; omega)
    have hnd : ((List.range X.length).map (fun i : Nat => (i : Int))).Nodup := by
      rw [List.nodup_iff_pairwise_ne, List.pairwise_iff_getElem]
      intro i j hi hj hlt e
      simp at e
      omega
    have hp : ((List.range X.length).map (fun i : Nat => (i : Int))).Perm X := perm_of_sub _ _ hnd hs (by simp)
    refine ⟨fun x hx => ?_, hp.nodup_iff.1 hnd⟩
    obtain ⟨j, hj, rfl⟩ := List.mem_map.1 (hp.mem_iff.2 hx)
    have := List.mem_range.1 hj
    omega
  · intro h j _ hj
    obtain ⟨k, hk, e⟩ := h.surj (j := j) (by omega)
    rw [← e]; exact List.getElem_mem hk
def refValidB (X O : List Int) : Bool := decide (2 ≤ X.length) && decide (X.length ≤ 40) && refPerm X X.length && refPerm O X.length && neqB X O
theorem refValidB_eq (X O : List Int) : refValidB X O = validB X O := by
  rw [Bool.eq_iff_iff]
  unfold refValidB refPerm
  simp only [Bool.and_eq_true, decide_eq_true_eq, validB]
  constructor
  · rintro ⟨⟨⟨⟨h1, h2⟩, _, h3⟩, h4, h5⟩, h6⟩
    rw [← h4] at h5
    rw [perm_ref] at h3 h5
    exact ⟨⟨⟨⟨⟨h1, h2⟩, h4⟩, h6⟩, h3⟩, h5⟩
  · rintro ⟨⟨⟨⟨⟨h1, h2⟩, h4⟩, h6⟩, h3⟩, h5⟩
    rw [← perm_ref] at h3 h5
    rw [h4] at h5
    exact ⟨⟨⟨⟨h1, h2⟩, trivial, h3⟩, h4, h5⟩, h6⟩
set_option maxHeartbeats 400000 in
theorem column_any (vx : Value) (X : List Int) (y : Int) (w : World) (hX : Ints w vx X) (hl : X.length ≤ 1000) :
    Calls Tryz.prog 22 #[vx, .int .i64 y] w fun e w' => e = .returned (.int .i64 (if y ∈ X then (X.idxOf y : Int) else -1)) ∧ w = w' := by
  have hX0 := hX
  obtain ⟨A, c, rfl, hc, hh⟩ := hX
  clear hh
  generalize hR : (if y ∈ X then (X.idxOf y : Int) else -1) = R
  have HR := Lib.hid hR
  clear hR
  go_enter Tryz.func22, Tryz.ntmps22
  go_wp2_with fail
  go_loop [5] (fun i => ∃ k : Nat, k ≤ X.length ∧ i = .int .i64 k ∧ Hid (∀ j (h : j < X.length), j < k → X[j] ≠ y)) (fun i => X.length - (intOf i).toNat)
  case atStart => exact ⟨0, Nat.zero_le _, rfl, fun j _ h => by omega⟩
  case round =>
    obtain ⟨k, hk, rfl, H⟩ := hrel
    by_cases hlt : k < X.length
    · obtain ⟨b, o, rfl, hbl, hcell⟩ := hX0.at_ hlt
      by_cases e : X[k] = y
      · have d : (X[k] == y) = true := by simpa using e
        have hfin := Lib.hid (show R = k by
          rw [← HR.out, if_pos (by rw [← e]; exact List.getElem_mem hlt)]
          congr 1
          have hidx : X.idxOf y < X.length := List.idxOf_lt_length_of_mem (by rw [← e]; exact List.getElem_mem hlt)
          have h1 : X[X.idxOf y] = y := List.getElem_idxOf hidx
          have h2 : ¬ X.idxOf y < k := fun h => H.out _ hidx h h1
          have h3 : ¬ k < X.idxOf y := fun h => by have := List.not_of_lt_findIdx (show k < X.findIdx (· == y) from h); simp at this; exact this e
          omega)
        clear e
        generalize X[k] = x at *
        go_wp2_with fail
        go_ret
        exact ⟨by rw [hfin.out]; rfl, rfl⟩
      · have d : (X[k] == y) = false := by simpa using e
        have H' := Lib.hid (show ∀ j (h : j < X.length), j < k + 1 → X[j] ≠ y from fun j h hj => by
          by_cases ej : j = k
          · subst ej; exact e
          · exact H.out j h (by omega))
        clear e H
        generalize X[k] = x at *
        go_wp2_with fail
        go_round
        case rel => exact ⟨k + 1, by omega, by go_num, H'⟩
        case measure => simp [intOf]; omega
    · have hfin := Lib.hid (show R = -1 by
        rw [← HR.out, if_neg]
        intro hm
        obtain ⟨j, hj, e⟩ := List.mem_iff_getElem.1 hm
        exact H.out j hj (by omega) e)
      go_wp2_with fail
      go_ret
      exact ⟨by rw [hfin.out]; rfl, rfl⟩
theorem info_int8 : (Tryz.prog.info? 3).map (fun i => (i.zero, i.size, i.bytes)) = some (some (.int .i64 0), 1, 8) := by kernel_rfl
set_option maxHeartbeats 1000000 in
theorem lower_any (vx : Value) (X : List Int) (r : Int) (w : World) (hX : Ints w vx X) (hl : X.length ≤ 1000) (hx : ∀ x ∈ X, -1000 ≤ x ∧ x ≤ 1000) :
    Calls Tryz.prog 98 #[vx, .int .i64 r] w fun e w' => ∃ v, e = .returned v ∧ OwnI 3 w.heap.size w' v (X.map (lowr r)) ∧ Below w.heap.size w w' := by
  obtain ⟨i0, hi0, hz0, hz1, hz2⟩ := info_parts info_int8
  have hX0 := hX
  obtain ⟨A, c, rfl, hc, hh⟩ := hX
  clear hh
  go_enter Tryz.func98, Tryz.ntmps98
  go_wp2_with fail
  go_loopw [5, 6] (fun s i wr => ∃ k : Nat, k ≤ X.length ∧ i = .int .i64 k ∧ OwnI 3 w.heap.size wr s ((X.take k).map (lowr r)) ∧ Below w.heap.size w wr) (fun _ i _ => X.length - (intOf i).toNat)
  case atStart => exact ⟨0, Nat.zero_le _, rfl, OwnI.nil _ _ _, Below.refl _ _⟩
  case round =>
    obtain ⟨k, hk, rfl, hown, hbel⟩ := hrel
    by_cases hlt : k < X.length
    · obtain ⟨b, o, rfl, hbl, hcell⟩ := hX0.at_ hlt
      have hc' := (hbel.cell (p := ⟨b, o + k, none⟩) hbl).trans hcell
      have hb := hx _ (List.getElem_mem hlt)
      have hS := Lib.hid (show (X.take (k + 1)).map (lowr r) = (X.take k).map (lowr r) ++ [lowr r X[k]] by rw [List.take_succ_eq_append_getElem hlt, List.map_append]; rfl)
      have hlk : ((X.take k).map (lowr r)).length ≤ 1000 := by simp; omega
      have hlr := Lib.hid (show lowr r X[k] = if r < X[k] then X[k] - 1 else X[k] from rfl)
      generalize X[k] = x at *
      generalize lowr r x = q at *
      clear hcell
      by_cases e : r < x
      · have hq := Lib.hid (hlr.out.trans (if_pos e))
        go_wp2_with ((at_builtin; refine wpList_appI rfl _ _ 22 rfl Tryz.underlying22 hi0 hz0 hz1 hz2 rfl (hown.alloc _) rfl (Ints.one wr 3 _) (by simp at hlk ⊢; omega) (Nat.le_trans hbel.size (by simp)) ?_; intro v' w1 hown' hb1 hk1))
        have hb2 := (hbel.alloc hbel.size _).trans hb1
        go_roundw
        case rel => exact ⟨k + 1, by omega, by go_num, by rw [hS.out, hq.out]; exact hown', hb2⟩
        case measure => simp [intOf]; omega
      · have hq := Lib.hid (hlr.out.trans (if_neg e))
        have e' : x ≤ r := by omega
        go_wp2_with ((at_builtin; refine wpList_appI rfl _ _ 22 rfl Tryz.underlying22 hi0 hz0 hz1 hz2 rfl (hown.alloc _) rfl (Ints.one wr 3 _) (by simp at hlk ⊢; omega) (Nat.le_trans hbel.size (by simp)) ?_; intro v' w1 hown' hb1 hk1))
        have hb2 := (hbel.alloc hbel.size _).trans hb1
        go_roundw
        case rel => exact ⟨k + 1, by omega, by go_num, by rw [hS.out, hq.out]; exact hown', hb2⟩
        case measure => simp [intOf]; omega
    · have hk2 : X.take k = X := List.take_of_length_le (by omega)
      rw [hk2] at hown
      clear hk2
      go_wp2_with fail
      go_ret
      exact ⟨_, rfl, hown, hbel⟩
end Go.Proofs.YteliflcbegcdlaaGreatDoor

namespace Go.Proofs.YteliflcbegcdlaaGreatDoor
set_option linter.unusedVariables false
def skp (k l : Nat) : Nat := if l < k then l else l + 1
def sgn (k : Nat) : Int := if k % 2 = 0 then 1 else -1
theorem sgn_succ (k : Nat) : sgn (k + 1) = - sgn k := by
  unfold sgn
  by_cases h : k % 2 = 0
  · rw [if_pos h, if_neg (by omega)]
  · rw [if_neg h, if_pos (by omega)]; rfl
/-- the determinant of the first rows of f, as many as there are columns -/
def dt : List Nat → (Nat → Nat → Int) → Int
  | [], _ => 1
  | j :: J, f => sumI (J.length + 1) (fun k => sgn k * f k j * dt J (fun l => f (skp k l)))
/-- row k becomes u -/
def fup (f : Nat → Nat → Int) (k : Nat) (u : Nat → Int) : Nat → Nat → Int := fun l => if l = k then u else f l
theorem dt_congr : ∀ {J : List Nat} {f g : Nat → Nat → Int}, (∀ l, l < J.length → ∀ j ∈ J, f l j = g l j) → dt J f = dt J g
  | [], f, g, _ => rfl
  | j :: J, f, g, h => by
    rw [dt, dt]
    refine sumI_congr (fun k hk => ?_)
    rw [h k (by simpa using hk) j (by simp), dt_congr (J := J) (f := fun l => f (skp k l)) (g := fun l => g (skp k l)) (fun l hl i hi => h (skp k l) (by unfold skp; simp only [List.length_cons]; split <;> omega) i (by simp [hi]))]
theorem fup_skp_same (f : Nat → Nat → Int) (k : Nat) (u : Nat → Int) : (fun l => fup f k u (skp k l)) = fun l => f (skp k l) := by
  funext l
  unfold fup
  rw [if_neg (by unfold skp; split <;> omega)]
/-- where row k has gone when row l is struck -/
def usk (l k : Nat) : Nat := if k < l then k else k - 1
theorem fup_skp_ne (f : Nat → Nat → Int) {k l : Nat} (h : l ≠ k) (u : Nat → Int) : (fun i => fup f k u (skp l i)) = fup (fun i => f (skp l i)) (usk l k) u := by
  funext i
  show (if skp l i = k then u else f (skp l i)) = if i = usk l k then u else f (skp l i)
  have e : (skp l i = k) = (i = usk l k) := by
    unfold skp usk
    apply propext
    split <;> split <;> omega
  simp only [e]
theorem sumI_add {C : Nat} (f g : Nat → Int) (c : Int) : sumI C (fun l => f l + c * g l) = sumI C f + c * sumI C g := by
  induction C with
  | zero => simp [sumI]
  | succ n ih => simp only [sumI]; rw [ih, Int.mul_add]; omega
/-- linear in each row -/
theorem dt_lin : ∀ {J : List Nat} {f : Nat → Nat → Int} {k : Nat} (u v : Nat → Int) (c : Int), k < J.length → dt J (fup f k (fun j => u j + c * v j)) = dt J (fup f k u) + c * dt J (fup f k v)
  | [], f, k, u, v, c, h => by simp at h
  | j :: J, f, k, u, v, c, h => by
    rw [dt, dt, dt, ← sumI_add]
    refine sumI_congr (fun l hl => ?_)
    show sgn l * fup f k (fun j => u j + c * v j) l j * dt J (fun i => fup f k (fun j => u j + c * v j) (skp l i)) = sgn l * fup f k u l j * dt J (fun i => fup f k u (skp l i)) + c * (sgn l * fup f k v l j * dt J (fun i => fup f k v (skp l i)))
    by_cases e : l = k
    · subst e
      rw [fup_skp_same, fup_skp_same, fup_skp_same]
      simp only [fup, if_pos]
      generalize dt J (fun i => f (skp l i)) = d
      rw [Int.mul_add, Int.add_mul, Int.mul_left_comm (sgn l) c, Int.mul_assoc c]
    · have hk : usk l k < J.length := by unfold usk; simp only [List.length_cons] at h hl; split <;> omega
      rw [fup_skp_ne f e, fup_skp_ne f e, fup_skp_ne f e, dt_lin u v c hk]
      simp only [fup, if_neg e]
      generalize sgn l * f l j = s
      rw [Int.mul_add, Int.mul_left_comm]
theorem dt_zero {J : List Nat} {f : Nat → Nat → Int} {k : Nat} (h : k < J.length) : dt J (fup f k (fun _ => 0)) = 0 := by
  have h1 := dt_lin (f := f) (fun _ => 0) (fun _ => 0) (-1) h
  have h2 : (fun j : Nat => (0 : Int) + -1 * 0) = fun _ => 0 := by funext; rfl
  rw [h2] at h1
  omega
theorem dt_mul {J : List Nat} {f : Nat → Nat → Int} {k : Nat} (v : Nat → Int) (c : Int) (h : k < J.length) : dt J (fup f k (fun j => c * v j)) = c * dt J (fup f k v) := by
  have h1 := dt_lin (f := f) (fun _ => 0) v c h
  have h2 : (fun j : Nat => (0 : Int) + c * v j) = fun j => c * v j := by funext; simp
  rw [h2, dt_zero h] at h1
  omega
/-- two neighbours that are alike -/
theorem dt_adj : ∀ {J : List Nat} {f : Nat → Nat → Int} {k : Nat}, k + 1 < J.length → (∀ j ∈ J, f k j = f (k + 1) j) → dt J f = 0
  | [], f, k, h, _ => by simp at h
  | j :: J, f, k, h, he => by
    simp only [List.length_cons] at h
    rw [dt]
    have h0 := sumI_two (C := J.length + 1) (j := k) (k := k + 1) (f := fun l => sgn l * f l j * dt J (fun i => f (skp l i))) (g := fun _ => 0) (by omega) (by omega) (by omega) (fun l hl h1 h2 => by
      show sgn l * f l j * dt J (fun i => f (skp l i)) = 0
      have hz : dt J (fun i => f (skp l i)) = 0 := by
        by_cases q : l < k
        · refine dt_adj (J := J) (k := k - 1) (by omega) (fun i hi => ?_)
          show f (skp l (k - 1)) i = f (skp l (k - 1 + 1)) i
          unfold skp
          rw [if_neg (by omega), if_neg (by omega), show k - 1 + 1 = k by omega]
          exact he i (by simp [hi])
        · refine dt_adj (J := J) (k := k) (by omega) (fun i hi => ?_)
          show f (skp l k) i = f (skp l (k + 1)) i
          unfold skp
          rw [if_pos (by omega), if_pos (by omega)]
          exact he i (by simp [hi])
      rw [hz, Int.mul_zero])
    rw [h0, sumI_zero]
    have e1 : dt J (fun i => f (skp (k + 1) i)) = dt J (fun i => f (skp k i)) := dt_congr (fun l hl i hi => by
      show f (skp (k + 1) l) i = f (skp k l) i
      unfold skp
      by_cases q : l < k
      · rw [if_pos q, if_pos (by omega)]
      · by_cases q2 : l = k
        · subst q2
          rw [if_pos (by omega), if_neg (by omega)]
          exact he i (by simp [hi])
        · rw [if_neg (by omega), if_neg (by omega)])
    show 0 + (sgn k * f k j * dt J (fun i => f (skp k i)) - 0) + (sgn (k + 1) * f (k + 1) j * dt J (fun i => f (skp (k + 1) i)) - 0) = 0
    rw [e1, sgn_succ, ← he j (by simp), Int.neg_mul, Int.neg_mul]
    omega
theorem fup_self (f : Nat → Nat → Int) (k : Nat) : fup f k (f k) = f := by
  funext l; unfold fup; split
  · next e => rw [e]
  · rfl
theorem fup_comm (f : Nat → Nat → Int) {k l : Nat} (h : k ≠ l) (u v : Nat → Int) : fup (fup f k u) l v = fup (fup f l v) k u := by
  funext i; unfold fup
  by_cases e1 : i = l
  · by_cases e2 : i = k
    · omega
    · rw [if_pos e1, if_neg e2, if_pos e1]
  · rw [if_neg e1]
    by_cases e2 : i = k
    · rw [if_pos e2, if_pos e2]
    · rw [if_neg e2, if_neg e2, if_neg e1]
/-- neighbours change places -/
theorem dt_swap_adj {J : List Nat} {f : Nat → Nat → Int} {k : Nat} (h : k + 1 < J.length) : dt J (fup (fup f k (f (k + 1))) (k + 1) (f k)) = - dt J f := by
  have hk : k < J.length := by omega
  have hne : k ≠ k + 1 := by omega
  generalize hu : f k = u
  generalize hv : f (k + 1) = v
  have z : dt J (fup (fup f k (fun j => u j + 1 * v j)) (k + 1) (fun j => u j + 1 * v j)) = 0 := dt_adj h (fun j _ => by
    simp only [fup, if_neg hne, if_pos])
  have zu : dt J (fup (fup f k u) (k + 1) u) = 0 := dt_adj h (fun j _ => by simp only [fup, if_neg hne, if_pos])
  have zv : dt J (fup (fup f k v) (k + 1) v) = 0 := dt_adj h (fun j _ => by simp only [fup, if_neg hne, if_pos])
  rw [dt_lin u v 1 h, fup_comm f hne, dt_lin u v 1 hk, fup_comm f hne (fun j => u j + 1 * v j), dt_lin u v 1 hk, fup_comm f hne.symm, fup_comm f hne.symm, fup_comm f hne.symm, fup_comm f hne.symm] at z
  rw [zu, zv] at z
  have e : fup (fup f k u) (k + 1) v = f := by rw [← hu, ← hv, fup_self, fup_self]
  rw [e] at z
  omega
/-- two rows that are alike -/
theorem dt_same : ∀ (d : Nat) {J : List Nat} {f : Nat → Nat → Int} {a : Nat}, a + 1 + d < J.length → (∀ j, f a j = f (a + 1 + d) j) → dt J f = 0
  | 0, J, f, a, h, he => dt_adj h (fun j _ => he j)
  | d + 1, J, f, a, h, he => by
    have hs := dt_swap_adj (J := J) (f := f) (k := a + 1 + d) (by omega)
    have hz := dt_same d (J := J) (f := fup (fup f (a + 1 + d) (f (a + 1 + d + 1))) (a + 1 + d + 1) (f (a + 1 + d))) (a := a) (by omega) (fun j => by
      simp only [fup]
      rw [if_neg (by omega), if_neg (by omega), if_neg (by omega), if_pos True.intro]
      exact he j)
    rw [hz] at hs
    omega
theorem dt_alike {J : List Nat} {f : Nat → Nat → Int} {a b : Nat} (ha : a < J.length) (hb : b < J.length) (hab : a ≠ b) (he : ∀ j, f a j = f b j) : dt J f = 0 := by
  rcases Nat.lt_or_ge a b with q | q
  · exact dt_same (b - (a + 1)) (a := a) (by omega) (fun j => by rw [show a + 1 + (b - (a + 1)) = b by omega]; exact he j)
  · exact dt_same (a - (b + 1)) (a := b) (by omega) (fun j => by rw [show b + 1 + (a - (b + 1)) = a by omega]; exact (he j).symm)
/-- a multiple of another row is added -/
theorem dt_addmul {J : List Nat} {f : Nat → Nat → Int} {a b : Nat} (ha : a < J.length) (hb : b < J.length) (hab : a ≠ b) (c : Int) : dt J (fup f b (fun j => f b j + c * f a j)) = dt J f := by
  rw [dt_lin (f b) (f a) c hb, fup_self]
  have : dt J (fup f b (f a)) = 0 := dt_alike ha hb hab (fun j => by simp only [fup, if_neg hab, if_pos])
  rw [this]; omega
end Go.Proofs.YteliflcbegcdlaaGreatDoor

namespace Go.Proofs.YteliflcbegcdlaaGreatDoor
set_option linter.unusedVariables false
/-- columns that are renamed -/
theorem dt_map (τ : Nat → Nat) : ∀ (J : List Nat) (f : Nat → Nat → Int), dt (J.map τ) f = dt J (fun l j => f l (τ j))
  | [], f => rfl
  | j :: J, f => by
    rw [List.map_cons, dt, dt, List.length_map]
    refine sumI_congr (fun k _ => ?_)
    show sgn k * f k (τ j) * dt (J.map τ) (fun l => f (skp k l)) = sgn k * f k (τ j) * dt J (fun l j => f (skp k l) (τ j))
    rw [dt_map τ J]
end Go.Proofs.YteliflcbegcdlaaGreatDoor

namespace Go.Proofs.YteliflcbegcdlaaGreatDoor
set_option linter.unusedVariables false
theorem sumI_frontT (f : Nat → Int) : ∀ c : Nat, sumI (c + 1) f = f 0 + sumI c (fun k => f (k + 1))
  | 0 => by simp [sumI]
  | c + 1 => by rw [sumI, sumI_frontT f c, sumI]; omega
theorem skp_s0 (k : Nat) : skp (k + 1) 0 = 0 := by simp [skp]
theorem skp_s1 (k l : Nat) : skp (k + 1) (l + 1) = skp k l + 1 := by unfold skp; split <;> split <;> omega
/-- Laplace by the first row -/
theorem dt_row : ∀ (J : List Nat) (f : Nat → Nat → Int), J ≠ [] → dt J f = sumI J.length (fun p => sgn p * f 0 (J[p]?.getD 0) * dt (J.eraseIdx p) (fun l => f (l + 1)))
  | [], f, h => absurd rfl h
  | j :: J, f, _ => by
    have e1 : ∀ k, k < J.length → sgn (k + 1) * f (k + 1) j * dt J (fun l => f (skp (k + 1) l)) = sumI J.length (fun p => -(sgn k * sgn p * f (k + 1) j * f 0 (J[p]?.getD 0) * dt (J.eraseIdx p) (fun l => f (skp k l + 1)))) := by
      intro k hk
      rw [dt_row J _ (fun e => by rw [e] at hk; exact absurd hk (by simp)), ← sumI_mul]
      refine sumI_congr fun p hp => ?_
      simp only [skp_s0, skp_s1, sgn_succ]
      grind
    have e2 : ∀ p, p < J.length → sgn (p + 1) * f 0 ((j :: J)[p + 1]?.getD 0) * dt ((j :: J).eraseIdx (p + 1)) (fun l => f (l + 1)) = sumI J.length (fun k => -(sgn k * sgn p * f (k + 1) j * f 0 (J[p]?.getD 0) * dt (J.eraseIdx p) (fun l => f (skp k l + 1)))) := by
      intro p hp
      rw [List.eraseIdx_cons_succ, dt, List.length_eraseIdx_of_lt hp, show J.length - 1 + 1 = J.length by omega, ← sumI_mul]
      refine sumI_congr fun k hk => ?_
      rw [sgn_succ, List.getElem?_cons_succ]
      grind
    rw [dt, List.length_cons, sumI_frontT, sumI_frontT, sumI_congr e1, sumI_congr e2, sumI_swap]
    rfl
theorem dt_tr : ∀ (n : Nat) (J L : List Nat) (f : Nat → Nat → Int), J.length = n → L.length = n → dt J (fun l j => f (L[l]?.getD 0) j) = dt L (fun l j => f j (J[l]?.getD 0))
  | 0, J, L, f, hJ, hL => by
    rw [List.eq_nil_of_length_eq_zero hJ, List.eq_nil_of_length_eq_zero hL]; rfl
  | n + 1, [], L, f, hJ, hL => by simp at hJ
  | n + 1, j :: J, L, f, hJ, hL => by
    rw [dt_row L _ (fun e => by rw [e] at hL; simp at hL), dt, hL]
    rw [List.length_cons] at hJ
    rw [hJ]
    refine sumI_congr fun k hk => ?_
    have h1 : dt J (fun l c => f (L[skp k l]?.getD 0) c) = dt (L.eraseIdx k) (fun l c => f c (J[l]?.getD 0)) := by
      rw [← dt_tr n J (L.eraseIdx k) f (by omega) (by rw [List.length_eraseIdx_of_lt (by omega)]; omega)]
      refine dt_congr fun l hl c hc => ?_
      rw [List.getElem?_eraseIdx]
      unfold skp
      split <;> rfl
    exact congrArg (sgn k * f (L[k]?.getD 0) j * ·) h1
theorem dt_trans (n : Nat) (f : Nat → Nat → Int) : dt (List.range' 0 n) f = dt (List.range' 0 n) (fun l j => f j l) := by
  have hg : ∀ l, l < n → (List.range' 0 n)[l]?.getD 0 = l := fun l hl => by rw [List.getElem?_range' hl]; simp
  have h := dt_tr n (List.range' 0 n) (List.range' 0 n) f (by simp) (by simp)
  rw [dt_congr (g := f) (fun l hl j hj => by rw [hg l (by simpa using hl)])] at h
  rw [h]
  exact dt_congr fun l hl j hj => by rw [hg l (by simpa using hl)]
end Go.Proofs.YteliflcbegcdlaaGreatDoor
