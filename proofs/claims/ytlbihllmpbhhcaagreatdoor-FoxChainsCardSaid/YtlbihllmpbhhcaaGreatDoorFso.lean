/- Sorting the terms of package fox: slices.SortFunc in the words of this seat. -/
import Derived.Test.YtlbihllmpbhhcaaGreatDoorPrt
import Derived.Test.YtlbihllmpbhhcaaGreatDoorShelf
import Derived.Shelf.SlSortCmp.WholeK
import Derived.Shelf.SlSortCmp.NoneTotal
namespace Go.Proofs.YtlbihllmpbhhcaaGreatDoor
open Go.RowKit Go.Shelf Go.Lib Go.Sort
set_option linter.unusedVariables false

/-- v is a slice of the call's own that holds fox's terms -/
def OwnF (base : Nat) (w : World) (v : Value) (l : List (Int × Int)) : Prop := w.ownsRow base 47 2 v l.length (l.flatMap fc)
theorem fflat_get : ∀ (l : List (Int × Int)) (k j : Nat) (h : k < l.length), j < 2 → (l.flatMap fc)[k * 2 + j]? = (fc l[k])[j]? := by
  intro l
  induction l with
  | nil => intro k j h; simp at h
  | cons m l ih =>
    intro k j h hj
    rw [List.flatMap_cons]
    cases k with
    | zero => rw [List.getElem?_append_left (by simp [fc]; omega)]; simp
    | succ k =>
      rw [List.getElem?_append_right (by simp [fc]; omega)]
      have := ih k j (by simpa using h) hj
      rw [show (k + 1) * 2 + j - (fc m).length = k * 2 + j from by simp [fc]; omega, this]
      simp
theorem sortW_heap {enc : Int × Int → List Value} {k : Nat} {w : World} {g n : Nat} {d : Array (Int × Int)} {os : Array Obj} {q : Nat} (h1 : q ≠ g) (h2 : q < w.heap.size) : (sortWorldK enc k w g 0 n d os).heap[q]? = w.heap[q]? := by
  unfold sortWorldK Sort.grow putRowK putRow mapBlock Sort.ahead
  show ((w.heap.modify g _) ++ os)[q]? = w.heap[q]?
  rw [Array.getElem?_append_left (by simpa using h2), Array.getElem?_modify, if_neg (fun e => h1 e.symm)]
theorem sortW_below {enc : Int × Int → List Value} {k : Nat} {w : World} {g n base : Nat} {d : Array (Int × Int)} {os : Array Obj} (hb : base ≤ g) (hg : g < w.heap.size) : Go.RowKit.Below base w (sortWorldK enc k w g 0 n d os) := by
  refine ⟨rfl, rfl, rfl, ?_, fun q hq => sortW_heap (by omega) (by omega)⟩
  unfold sortWorldK Sort.grow putRowK putRow mapBlock Sort.ahead
  show w.heap.size ≤ ((w.heap.modify g _) ++ os).size
  simp
theorem holds_ftm {w : World} {g c : Nat} {d : Array (Int × Int)} (h : HoldsK fc 2 w g 0 d) : FTm w (.slice (some ⟨g, 0, none⟩) d.size c) d.toList := by
  refine ⟨_, c, rfl, fun k hk => ⟨g, 0, rfl, ?_, ?_⟩⟩
  · have h1 := (h (k * 2) (by rw [size_flatK]; simp at hk; omega)).1
    rw [get_flatK _ _ _ _ (by simp at hk; omega)] at h1
    have e : (fc d[k * 2 / 2]!)[k * 2 % 2]! = .int .i64 d.toList[k].2 := by
      rw [show k * 2 / 2 = k by omega, show k * 2 % 2 = 0 by omega]
      have : d[k]! = d.toList[k] := by simp at hk; rw [getElem!_pos d k hk]; simp
      rw [this]; rfl
    rw [e] at h1
    exact h1
  · have h1 := (h (k * 2 + 1) (by rw [size_flatK]; simp at hk; omega)).1
    rw [get_flatK _ _ _ _ (by simp at hk; omega)] at h1
    have e : (fc d[(k * 2 + 1) / 2]!)[(k * 2 + 1) % 2]! = .int .i64 d.toList[k].1 := by
      rw [show (k * 2 + 1) / 2 = k by omega, show (k * 2 + 1) % 2 = 1 by omega]
      have : d[k]! = d.toList[k] := by simp at hk; rw [getElem!_pos d k hk]; simp
      rw [this]; rfl
    rw [e] at h1
    rw [Nat.add_assoc]; exact h1
/-- the comparison -/
def cfF (x y : Int × Int) : Int := Lib.compareInt x.1 y.1
theorem cfF_lt (x y : Int × Int) : ltOf cfF x y = decide (x.1 < y.1) := by
  unfold ltOf cfF Lib.compareInt
  by_cases h1 : x.1 < y.1
  · simp [h1]
  · by_cases h2 : y.1 < x.1 <;> simp [h1, h2]
theorem cfF_swo : SWO (ltOf cfF) where
  irrefl x := by rw [cfF_lt]; simp
  trans x y z h1 h2 := by rw [cfF_lt] at *; simp at *; omega
  ntrans x y z h1 h2 := by rw [cfF_lt] at *; simp at *; omega
set_option maxHeartbeats 1000000 in
theorem cmp_any (x y : Int × Int) (W : World) : Calls Tryz.prog 41 #[.agg #[.int .i64 x.2, .int .i64 x.1], .agg #[.int .i64 y.2, .int .i64 y.1]] W fun e w' => e = .returned (.int .i64 (cfF x y)) ∧ ∃ q os', w' = Sort.grow (W.drewN q) os' := by
  have hcon := Lib.hid (fun W' => Tryz.cmp_Compare_int x.1 y.1 W')
  have hr : cfF x y = Lib.compareInt x.1 y.1 := rfl
  rw [hr]
  clear hr
  obtain ⟨r, hr⟩ : ∃ r, r = Lib.compareInt x.1 y.1 := ⟨_, rfl⟩
  rw [← hr] at hcon ⊢
  clear hr
  go_enter Tryz.func41, Tryz.ntmps41
  go_wp2_with fail
  refine (hcon.out _).mono ?_
  rintro e w' ⟨rfl, rfl⟩
  go_wp2_with fail
  go_ret
  exact ⟨rfl, 0, _, by rw [alloc_eq_grow, alloc_eq_grow, grow_grow]; rfl⟩
/-- the cells of a slice of the call's own hold its terms -/
theorem own_holds {w : World} {g c base : Nat} {l : List (Int × Int)} (h : OwnF base w (.slice (some ⟨g, 0, none⟩) l.length c) l) : base ≤ g ∧ g < w.heap.size ∧ HoldsK fc 2 w g 0 l.toArray := by
  rcases h.2 with ⟨hv, _⟩ | ⟨g', cap, cur, hv, hg, hh, hn, _, hc, ht⟩
  · injection hv with hv; cases hv
  · injection hv with hv e2 e3
    injection hv with hv
    injection hv with hv _
    subst hv
    have hlt : g < w.heap.size := by
      rcases Nat.lt_or_ge g w.heap.size with q | q
      · exact q
      · rw [Array.getElem?_eq_none q] at hh; cases hh
    refine ⟨hg, hlt, fun j hj => ⟨?_, frozen_of_row w g _ _ _ hh⟩⟩
    rw [size_flatK] at hj
    have hj2 : j < l.length * 2 := by simpa using hj
    rw [get_flatK _ _ _ _ hj, cell_of_row w g _ cur _ (0, 0) hh, Nat.zero_add]
    have h1 := fflat_get l (j / 2) (j % 2) (by omega) (by omega)
    rw [show j / 2 * 2 + j % 2 = j by omega, ← ht, List.getElem?_take, if_pos hj2] at h1
    have h2 : (l.toArray)[j / 2]! = l[j / 2]'(by omega) := by
      rw [getElem!_pos l.toArray (j / 2) (by simp; omega)]; simp
    rw [h2]
    have h3 : cur[j]? = cur.toList[j]? := by simp
    rw [h3, h1]
    rcases (by omega : j % 2 = 0 ∨ j % 2 = 1) with q | q <;> rw [q] <;> rfl
theorem sort_any (g c base : Nat) (ts : List (Int × Int)) (w : World) (h : OwnF base w (.slice (some ⟨g, 0, none⟩) ts.length c) ts) (hl : ts.length ≤ 100000) :
    Calls Tryz.prog 40 #[.slice (some ⟨g, 0, none⟩) ts.length c, .func (.func 41) #[] #[]] w fun e w' => e = .returned (.tuple #[]) ∧ ∃ ts' : List (Int × Int), ts'.Perm ts ∧ FTm w' (.slice (some ⟨g, 0, none⟩) ts.length c) ts' ∧ Go.RowKit.Below base w w' ∧ ∀ k, k ≠ g → k < w.heap.size → w'.heap[k]? = w.heap[k]? := by
  obtain ⟨hb, hg, hh⟩ := own_holds h
  have eg : ∀ args w, (callFunc 41 args).run Tryz.prog w = .ok (.enter 41 args) w := enters_of Tryz.func41 (by kernel_rfl) rfl
  have hcon := AnyQ.slices_SortFunc Tryz.sortFT 2 Tryz.isAgg47 Tryz.sizeOf47 fc (fun _ => rfl) (fun x v hv => by simp [fc] at hv; rcases hv with rfl | rfl <;> rfl) cfF cfF_swo 41 #[] g 0 c ts.toArray w eg (fun _ _ _ _ x y => cmp_any x y _) hh hg (by simp; omega)
  rw [show ts.toArray.size = ts.length by simp] at hcon
  refine Calls.mono hcon ?_
  rintro e w' ⟨rfl, d', n, os, hp, hs, rfl⟩
  have hsz : d'.size = ts.length := by have := hp.1; simpa using this
  have hperm : d'.toList.Perm ts := by
    have h1 := hp.2.2
    rw [← hsz] at h1
    have h2 : (List.take ts.length d'.toList).Perm ts := by simpa [hsz] using h1
    rwa [List.take_of_length_le (by simp; omega)] at h2
  have hd : HoldsK fc 2 (sortWorldK fc 2 w g 0 n d' os) g 0 d' := holdsK_sortWorldK_c fc 2 w g 0 ts.toArray d' n os hh hg (by simpa using hsz)
  have hf := holds_ftm (c := c) hd
  rw [hsz] at hf
  exact ⟨rfl, d'.toList, hperm, hf, sortW_below hb hg, fun k h1 h2 => sortW_heap h1 h2⟩
theorem sortV_any (v : Value) (base : Nat) (ts : List (Int × Int)) (w : World) (h : OwnF base w v ts) (hl : ts.length ≤ 100000) :
    Calls Tryz.prog 40 #[v, .func (.func 41) #[] #[]] w fun e w' => e = .returned (.tuple #[]) ∧ ∃ ts' : List (Int × Int), ts'.Perm ts ∧ FTm w' v ts' ∧ Go.RowKit.Below base w w' ∧ ∀ k, v.ownBlock ≠ some k → k < w.heap.size → w'.heap[k]? = w.heap[k]? := by
  obtain ⟨h1, h2⟩ := h
  rcases h2 with ⟨rfl, h0⟩ | ⟨g, cap, cur, rfl, hr⟩
  · have : ts = [] := List.eq_nil_of_length_eq_zero h0
    subst this
    refine Calls.mono (AnyF.slices_SortFunc_none Tryz.sortFT none 0 _ w) ?_
    rintro e w' ⟨rfl, rfl⟩
    exact ⟨rfl, [], List.Perm.refl _, ⟨none, 0, rfl, fun k hk => by simp at hk⟩, Go.RowKit.Below.refl _ _, fun _ _ _ => rfl⟩
  · refine Calls.mono (sort_any g cap base ts w ⟨h1, .inr ⟨g, cap, cur, rfl, hr⟩⟩ hl) ?_
    rintro e w' ⟨rfl, ts', a1, a2, a3, a4⟩
    exact ⟨rfl, ts', a1, a2, a3, fun k hk hl => a4 k (fun e => hk (by simp [Value.ownBlock, e])) hl⟩
end Go.Proofs.YtlbihllmpbhhcaaGreatDoor
