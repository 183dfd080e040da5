/- The number of components is kept by the moves. -/
import Derived.Test.YtgclngoeglopcaaCyc
namespace Go.Proofs.Ytgclngoeglopcaa
open Go.RowKit

def gt (l : List Int) (i : Nat) : Int := l.getD i 0
theorem gt_get {l : List Int} {i : Nat} (h : i < l.length) : gt l i = l[i] := by simp [gt, List.getD_eq_getElem?_getD, h]
theorem gt_of {l : List Int} {i : Nat} {x : Int} (h : l[i]? = some x) : gt l i = x := by simp [gt, List.getD_eq_getElem?_getD, h]
theorem gt_of_eq {l m : List Int} {i j : Nat} (h : l[i]? = m[j]?) : gt l i = gt m j := by simp [gt, List.getD_eq_getElem?_getD, h]
/-- the column whose X stands in the row of the O of column i -/
def fC (X O : List Int) (i : Nat) : Nat := X.idxOf (gt O i)

theorem Pm.gt_inj {l : List Int} (h : Pm l) {i j : Nat} (hi : i < l.length) (hj : j < l.length) (e : gt l i = gt l j) : i = j := by
  rw [gt_get hi, gt_get hj] at e; exact h.inj hi hj e
theorem Pm.gt_rng {l : List Int} (h : Pm l) {i : Nat} (hi : i < l.length) : 0 ≤ gt l i ∧ gt l i < l.length := by rw [gt_get hi]; exact h.get hi
theorem Pm.gt_surj {l : List Int} (h : Pm l) {x : Int} (h0 : 0 ≤ x) (h1 : x < l.length) : ∃ k, k < l.length ∧ gt l k = x := by
  obtain ⟨k, hk, e⟩ := h.surj (j := x.toNat) (by omega)
  exact ⟨k, hk, by rw [gt_get hk, e]; omega⟩

section
variable {X O : List Int}
theorem Vd.oX (h : Vd X O) {i : Nat} (hi : i < X.length) : 0 ≤ gt O i ∧ gt O i < X.length := by have := h.pO.gt_rng (i := i) (by have := h.len; omega); have := h.len; omega
theorem fC_uniq (h : Vd X O) {i j : Nat} (hj : j < X.length) (e : gt X j = gt O i) : fC X O i = j := by
  unfold fC
  rw [← e, gt_get hj]
  exact h.pX.2.idxOf_getElem j hj
theorem fC_spec (h : Vd X O) {i : Nat} (hi : i < X.length) : fC X O i < X.length ∧ gt X (fC X O i) = gt O i := by
  obtain ⟨k, hk, e⟩ := h.pX.gt_surj (h.oX hi).1 (h.oX hi).2
  rw [fC_uniq h hk e]
  exact ⟨hk, e⟩
theorem fC_perm (h : Vd X O) : PermF X.length (fC X O) := by
  refine ⟨fun i hi => (fC_spec h hi).1, fun i j hi hj e => ?_⟩
  have h1 := (fC_spec h hi).2
  have h2 := (fC_spec h hj).2
  rw [e] at h1
  exact h.pO.gt_inj (by have := h.len; omega) (by have := h.len; omega) (h1.symm.trans h2)
theorem fC_ne (h : Vd X O) {i : Nat} (hi : i < X.length) : fC X O i ≠ i := by
  intro e
  have := (fC_spec h hi).2
  rw [e, gt_get hi, gt_get (by have := h.len; omega)] at this
  exact h.ne i hi _ this
end
/-- the number of components -/
def comp (X O : List Int) : Nat := cls (fC X O) X.length

theorem cyc_back {n i : Nat} (hi : i < n) : ((i + n - 1) % n + 1) % n = i := by
  rw [Nat.mod_add_mod, show i + n - 1 + 1 = i + n from by omega, Nat.add_mod_right, Nat.mod_eq_of_lt hi]
theorem cyc_fwd {n i : Nat} (hi : i < n) : ((i + 1) % n + n - 1) % n = i := by
  by_cases h : i + 1 = n
  · rw [h, Nat.mod_self, Nat.zero_add, Nat.mod_eq_of_lt (by omega)]; omega
  · rw [Nat.mod_eq_of_lt (show i + 1 < n by omega), show i + 1 + n - 1 = i + n from by omega, Nat.add_mod_right, Nat.mod_eq_of_lt hi]
theorem gt_rot (X : List Int) {j : Nat} (hj : j < X.length) : gt (rotL X) j = gt X ((j + 1) % X.length) := gt_of_eq (rotL_get X j hj)

theorem comp_rot {X O : List Int} (h : Vd X O) : comp (rotL X) (rotL O) = comp X O := by
  have h1 := rotL_vd h
  have hn := h.two
  have hl := h.len
  have hp : ∀ i, (i + X.length - 1) % X.length < X.length := fun i => Nat.mod_lt _ (by omega)
  have hq : ∀ i, (i + 1) % X.length < X.length := fun i => Nat.mod_lt _ (by omega)
  have gO : ∀ j, j < X.length → gt (rotL O) j = gt O ((j + 1) % X.length) := fun j hj => by rw [gt_rot O (by omega), hl]
  have hb := fC_perm h1
  rw [rotL_length] at hb
  unfold comp
  rw [rotL_length]
  refine (cls_eq (fC_perm h) hb (fun i => (i + X.length - 1) % X.length) (fun j => (j + 1) % X.length) (fun i _ => hp i) (fun j _ => hq j) (fun i hi => ?_) (fun j hj => ?_) (fun i hi => ?_) (fun j hj => ?_)).symm
  · refine ⟨1, ?_⟩
    have hf := fC_spec h hi
    refine fC_uniq h1 (by rw [rotL_length]; exact hp _) ?_
    simp only [itr]
    rw [gt_rot X (hp _), gO _ (hp _), cyc_back hf.1, cyc_back hi]
    exact hf.2
  · refine ⟨1, ?_⟩
    have hf := fC_spec h1 (i := j) (by rw [rotL_length]; exact hj)
    rw [rotL_length] at hf
    refine fC_uniq h (hq _) ?_
    simp only [itr]
    rw [← gt_rot X hf.1, ← gO _ hj]
    exact hf.2
  · show Rl _ (((i + X.length - 1) % X.length + 1) % X.length) i
    rw [cyc_back hi]
    exact Rl.refl _ _
  · show Rl _ (((j + 1) % X.length + X.length - 1) % X.length) j
    rw [cyc_fwd hj]
    exact Rl.refl _ _

def sw (a i : Nat) : Nat := if i = a then a + 1 else if i = a + 1 then a else i
theorem sw_sw (a i : Nat) : sw a (sw a i) = i := by unfold sw; repeat' split <;> try omega
theorem sw_lt {a n i : Nat} (ha : a + 1 < n) (hi : i < n) : sw a i < n := by unfold sw; repeat' split <;> try omega
theorem gt_swap (X : List Int) {a : Nat} (ha : a + 1 < X.length) (j : Nat) : gt (swapL X a) j = gt X (sw a j) := gt_of_eq (swapL_get X a j ha)
theorem comp_swap {X O : List Int} {a : Nat} (h : Vd X O) (ha : a + 1 < X.length) : comp (swapL X a) (swapL O a) = comp X O := by
  have h1 := swapL_vd h ha
  have hl := h.len
  have hb := fC_perm h1
  rw [swapL_length] at hb
  unfold comp
  rw [swapL_length]
  refine (cls_eq (fC_perm h) hb (sw a) (sw a) (fun i hi => sw_lt ha hi) (fun j hj => sw_lt ha hj) (fun i hi => ?_) (fun j hj => ?_) (fun i hi => ?_) (fun j hj => ?_)).symm
  · refine ⟨1, ?_⟩
    have hf := fC_spec h hi
    refine fC_uniq h1 (by rw [swapL_length]; exact sw_lt ha hf.1) ?_
    simp only [itr]
    rw [gt_swap X ha, gt_swap O (by omega), sw_sw, sw_sw]
    exact hf.2
  · refine ⟨1, ?_⟩
    have hf := fC_spec h1 (i := j) (by rw [swapL_length]; exact hj)
    rw [swapL_length] at hf
    refine fC_uniq h (sw_lt ha hf.1) ?_
    simp only [itr]
    rw [← gt_swap X ha, ← gt_swap O (a := a) (by omega)]
    exact hf.2
  · rw [sw_sw]; exact Rl.refl _ _
  · rw [sw_sw]; exact Rl.refl _ _

theorem gt_del (X : List Int) {a j : Nat} (r : Int) (ha : a < X.length) (hj : (if j < a then j else j + 1) < X.length) : gt (delL X a r) j = lowr r (gt X (if j < a then j else j + 1)) := by
  have := delL_get X a j r ha
  rw [List.getElem?_eq_getElem hj, Option.map_some] at this
  rw [gt_of this, gt_get hj]

def skp (a j : Nat) : Nat := if j < a then j else j + 1
def drp (a i : Nat) : Nat := if i < a then i else i - 1
theorem drp_skp (a j : Nat) : drp a (skp a j) = j := by
  unfold drp skp
  by_cases h : j < a
  · rw [if_pos h, if_pos h]
  · rw [if_neg h, if_neg (by omega)]; omega
theorem skp_drp {a i : Nat} (h : i ≠ a) : skp a (drp a i) = i := by
  unfold drp skp
  by_cases h1 : i < a
  · rw [if_pos h1, if_pos h1]
  · rw [if_neg h1, if_neg (by omega)]; omega
theorem skp_ne (a j : Nat) : skp a j ≠ a := by unfold skp; split <;> omega

theorem comp_del {X O : List Int} {a : Nat} (h : Vd X O) (ha : a < X.length) (hd : desOk X O a (gt X a) (gt O a) = true) :
    comp (delL X a (minG (gt X a) (gt O a))) (delL O a (minG (gt X a) (gt O a))) = comp X O := by
  have h1 : Vd (delL X a (minG (gt X a) (gt O a))) (delL O a (minG (gt X a) (gt O a))) := delL_vd h ha hd
  have hl := h.len
  have hao : a < O.length := by omega
  have hmm : maxG (gt X a) (gt O a) = minG (gt X a) (gt O a) + 1 := by
    simp only [desOk, Bool.and_eq_true, decide_eq_true_eq] at hd
    exact hd.1.2
  generalize hr : minG (gt X a) (gt O a) = r at *
  have hlen1 : (delL X a r).length = X.length - 1 := delL_length X a r ha
  have lx : lowr r (gt X a) = r := by unfold minG at hr; unfold maxG at hmm; unfold lowr; split at hr <;> split at hmm <;> split <;> omega
  have lo : lowr r (gt O a) = r := by unfold minG at hr; unfold maxG at hmm; unfold lowr; split at hr <;> split at hmm <;> split <;> omega
  have gX : ∀ i, i < X.length → i ≠ a → gt (delL X a r) (drp a i) = lowr r (gt X i) := fun i hi hne => by
    have e : (if drp a i < a then drp a i else drp a i + 1) = i := skp_drp hne
    rw [gt_del X r ha (by rw [e]; exact hi), e]
  have gO : ∀ i, i < X.length → i ≠ a → gt (delL O a r) (drp a i) = lowr r (gt O i) := fun i hi hne => by
    have e : (if drp a i < a then drp a i else drp a i + 1) = i := skp_drp hne
    rw [gt_del O r hao (by rw [e]; omega), e]
  have dlt : ∀ i, i < X.length → i ≠ a → drp a i < X.length - 1 := fun i hi hne => by unfold drp; split <;> omega
  have slt : ∀ j, j < X.length - 1 → skp a j < X.length := fun j hj => by unfold skp; split <;> omega
  have hfa := fC_spec h ha
  have hfne := fC_ne h ha
  have hpf := fC_perm h
  have hpg := fC_perm h1
  rw [hlen1] at hpg
  -- the three kinds of steps
  have s1 : ∀ i, i < X.length → i ≠ a → fC X O i ≠ a → fC (delL X a r) (delL O a r) (drp a i) = drp a (fC X O i) := fun i hi hne hne' => by
    have hf := fC_spec h hi
    refine fC_uniq h1 (by rw [hlen1]; exact dlt _ hf.1 hne') ?_
    rw [gX _ hf.1 hne', gO _ hi hne, hf.2]
  have s2 : ∀ i, i < X.length → i ≠ a → fC X O i = a → fC (delL X a r) (delL O a r) (drp a i) = drp a (fC X O a) := fun i hi hne e => by
    have hf := fC_spec h hi
    rw [e] at hf
    refine fC_uniq h1 (by rw [hlen1]; exact dlt _ hfa.1 hfne) ?_
    rw [gX _ hfa.1 hfne, gO _ hi hne, hfa.2, ← hf.2, lx, lo]
  unfold comp
  rw [hlen1]
  refine (cls_eq hpf hpg (fun i => if i = a then drp a (fC X O a) else drp a i) (skp a) (fun i hi => ?_) slt (fun i hi => ?_) (fun j hj => ?_) (fun i hi => ?_) (fun j hj => ?_)).symm
  · show (if i = a then drp a (fC X O a) else drp a i) < _
    split
    · exact dlt _ hfa.1 hfne
    · rename_i hne; exact dlt _ hi hne
  · show Rl _ (if i = a then drp a (fC X O a) else drp a i) (if fC X O i = a then drp a (fC X O a) else drp a (fC X O i))
    by_cases hne : i = a
    · subst hne
      rw [if_pos rfl, if_neg hfne]
      exact Rl.refl _ _
    · rw [if_neg hne]
      by_cases e : fC X O i = a
      · rw [if_pos e, ← s2 i hi hne e]; exact Rl.step _ _
      · rw [if_neg e, ← s1 i hi hne e]; exact Rl.step _ _
  · have hs := slt j hj
    have hne := skp_ne a j
    by_cases e : fC X O (skp a j) = a
    · have := s2 _ hs hne e
      rw [drp_skp] at this
      rw [this, skp_drp hfne]
      exact ⟨2, by show fC X O (fC X O (skp a j)) = _; rw [e]⟩
    · have := s1 _ hs hne e
      rw [drp_skp] at this
      rw [this, skp_drp e]
      exact Rl.step _ _
  · show Rl _ (skp a (if i = a then drp a (fC X O a) else drp a i)) i
    by_cases hne : i = a
    · subst hne
      rw [if_pos rfl, skp_drp hfne]
      exact hpf.symm ha (Rl.step _ _)
    · rw [if_neg hne, skp_drp hne]; exact Rl.refl _ _
  · show Rl _ (if skp a j = a then drp a (fC X O a) else drp a (skp a j)) j
    rw [if_neg (skp_ne a j), drp_skp]
    exact Rl.refl _ _

theorem gt_tr {l : List Int} (h : Pm l) {k : Nat} (hk : k < l.length) : gt (tr l) (gt l k).toNat = k := by
  rw [gt_get hk]; exact gt_of (tr_get h hk)
theorem comp_tr {X O : List Int} (h : Vd X O) : comp (tr X) (tr O) = comp X O := by
  have h1 := tr_vd h
  have hl := h.len
  have hpf := fC_perm h
  have hpg := fC_perm h1
  rw [tr_length] at hpg
  unfold comp
  rw [tr_length]
  have xr : ∀ i, i < X.length → (gt X i).toNat < X.length := fun i hi => by have := h.pX.gt_rng hi; omega
  have tt : ∀ j, j < X.length → (gt (tr X) j).toNat < X.length ∧ (gt X (gt (tr X) j).toNat).toNat = j := fun j hj => by
    obtain ⟨k, hk, e1, e2⟩ := tr_get' h.pX hj
    rw [gt_of e2, Int.toNat_natCast, gt_get hk, e1]
    exact ⟨hk, by omega⟩
  -- the X of row (X of f i) stands in the column of the O of that row
  have key : ∀ i, i < X.length → fC (tr X) (tr O) (gt X (fC X O i)).toNat = (gt X i).toNat := fun i hi => by
    have hf := fC_spec h hi
    refine fC_uniq h1 (by rw [tr_length]; exact xr i hi) ?_
    rw [gt_tr h.pX hi, hf.2, gt_tr h.pO (by omega)]
  refine (cls_eq hpf hpg (fun i => (gt X i).toNat) (fun j => (gt (tr X) j).toNat) xr (fun j hj => (tt j hj).1) (fun i hi => ?_) (fun j hj => ?_) (fun i hi => ?_) (fun j hj => ?_)).symm
  · have hf := fC_spec h hi
    refine hpg.symm (xr _ hf.1) ?_
    show Rl _ (gt X (fC X O i)).toNat (gt X i).toNat
    rw [← key i hi]
    exact Rl.step _ _
  · -- j is the row of the X of a column that is led to
    have hg := hpg.lt j hj
    have e := key (gt (tr X) (fC (tr X) (tr O) j)).toNat (tt _ hg).1
    rw [(tt _ hg).2] at e
    have hf := fC_spec h (tt _ hg).1
    have e2 : (gt X (fC X O (gt (tr X) (fC (tr X) (tr O) j)).toNat)).toNat = j := hpg.inj _ _ (xr _ hf.1) hj e
    refine hpf.symm (tt _ hg).1 ?_
    have e3 : (gt (tr X) j).toNat = fC X O (gt (tr X) (fC (tr X) (tr O) j)).toNat := by
      rw [← e2, gt_tr h.pX hf.1, Int.toNat_natCast, e2]
    show Rl _ (gt (tr X) (fC (tr X) (tr O) j)).toNat (gt (tr X) j).toNat
    rw [e3]
    exact Rl.step _ _
  · show Rl _ (gt (tr X) (gt X i).toNat).toNat i
    rw [gt_tr h.pX hi, Int.toNat_natCast]
    exact Rl.refl _ _
  · show Rl _ (gt X (gt (tr X) j).toNat).toNat j
    rw [(tt j hj).2]
    exact Rl.refl _ _
theorem comp_vw {X O : List Int} {rows : Bool} (h : Vd X O) : comp (vw rows X) (vw rows O) = comp X O := by
  cases rows
  · rfl
  · exact comp_tr h

theorem comp_apply3 {X O X1 O1 : List Int} {k a v : Int} {rows : Bool} (hk : k ≠ 4) (h : applyM X O k rows a v = (0, X1, O1)) : comp X1 O1 = comp X O := by
  obtain ⟨hv, hr, Y, P, hc, rfl, rfl⟩ := applyM_inv h
  have hw := vw_vd (rows := rows) hv
  have hvd : Vd Y P := by
    have := colsL_vd (a := a.toNat) (v := v.toNat) hw hr.1 (by rw [vw_length]; have := hr.2.1; omega) (by rw [vw_length]; have := hr.2.2; omega) (by rw [hc])
    rwa [hc] at this
  rw [comp_vw hvd, ← comp_vw (rows := rows) hv]
  have hl := vw_length rows X
  have ha := hr.2.1
  have h1 := hr.1
  generalize vw rows X = X' at *
  generalize vw rows O = O' at *
  unfold colsL at hc
  by_cases k1 : k = 1
  · rw [if_pos k1] at hc
    injection hc with _ hc
    injection hc with e1 e2
    subst e1 e2
    exact comp_rot hw
  rw [if_neg k1] at hc
  by_cases k2 : k = 2
  · rw [if_pos k2] at hc
    split at hc
    · injection hc with _ hc
      injection hc with e1 e2
      subst e1 e2
      subst k2
      refine comp_swap hw ?_
      simp [limAt] at ha
      omega
    · cases hc
  rw [if_neg k2] at hc
  by_cases k3 : k = 3
  · rw [if_pos k3] at hc
    split at hc
    · rename_i hd
      injection hc with _ hc
      injection hc with e1 e2
      subst e1 e2
      subst k3
      refine comp_del hw ?_ hd
      simp [limAt] at ha
      omega
    · cases hc
  · omega
/-- every move keeps the number of components -/
theorem comp_apply {X O X1 O1 : List Int} {k a v : Int} {rows : Bool} (h : applyM X O k rows a v = (0, X1, O1)) : comp X1 O1 = comp X O := by
  by_cases k4 : k = 4
  · subst k4
    exact (comp_apply3 (by decide) (undo_sta h)).symm
  · exact comp_apply3 k4 h
end Go.Proofs.Ytgclngoeglopcaa
