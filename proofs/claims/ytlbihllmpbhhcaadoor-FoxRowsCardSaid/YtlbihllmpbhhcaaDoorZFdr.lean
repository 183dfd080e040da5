/- Sorting the terms of package fox: slices.SortFunc in the words of this seat. -/
/- fox.sum. -/
/- fox.Derivative's closure: terms of one generator are appended. -/
import Derived.Test.YtlbihllmpbhhcaaDoorZPrt
import Derived.Test.YtlbihllmpbhhcaaDoorShelf
import Derived.Shelf.SlSortCmp.WholeK
import Derived.Shelf.SlSortCmp.NoneTotal
import Derived.Laws.EntriesVeiled
namespace Go.Proofs.YtlbihllmpbhhcaaDoor
open Go.RowKit Go.Shelf Go.Lib Go.Sort
set_option linter.unusedVariables false

/-- v is a slice of the call's own that holds fox's terms -/
def OwnF (base : Nat) (w : World) (v : Value) (l : List (Int × Int)) : Prop := w.ownsRow base 69 2 v l.length (l.flatMap fc)
theorem fflat_get : ∀ (l : List (Int × Int)) (k j : Nat) (h : k < l.length), j < 2 → (l.flatMap fc)[k * 2 + j]? = (fc l[k])[j]? := by
  intro l
  induction l with
  | nil => intro k j h; simp at h
  | cons m l ih =>
    intro k j h hj
    rw [List.flatMap_cons]
    cases k with
    | zero => rw [List.getElem?_append_left (by simp [fc]; omega)]; simp
    | succ k =>
      rw [List.getElem?_append_right (by simp [fc]; omega)]
      have := ih k j (by simpa using h) hj
      rw [show (k + 1) * 2 + j - (fc m).length = k * 2 + j from by simp [fc]; omega, this]
      simp
theorem sortW_heap {enc : Int × Int → List Value} {k : Nat} {w : World} {g n : Nat} {d : Array (Int × Int)} {os : Array Obj} {q : Nat} (h1 : q ≠ g) (h2 : q < w.heap.size) : (sortWorldK enc k w g 0 n d os).heap[q]? = w.heap[q]? := by
  unfold sortWorldK Sort.grow putRowK putRow mapBlock Sort.ahead
  show ((w.heap.modify g _) ++ os)[q]? = w.heap[q]?
  rw [Array.getElem?_append_left (by simpa using h2), Array.getElem?_modify, if_neg (fun e => h1 e.symm)]
theorem sortW_below {enc : Int × Int → List Value} {k : Nat} {w : World} {g n base : Nat} {d : Array (Int × Int)} {os : Array Obj} (hb : base ≤ g) (hg : g < w.heap.size) : Go.RowKit.Below base w (sortWorldK enc k w g 0 n d os) := by
  refine ⟨rfl, rfl, rfl, ?_, fun q hq => sortW_heap (by omega) (by omega)⟩
  unfold sortWorldK Sort.grow putRowK putRow mapBlock Sort.ahead
  show w.heap.size ≤ ((w.heap.modify g _) ++ os).size
  simp
theorem holds_ftm {w : World} {g c : Nat} {d : Array (Int × Int)} (h : HoldsK fc 2 w g 0 d) : FTm w (.slice (some ⟨g, 0, none⟩) d.size c) d.toList := by
  refine ⟨_, c, rfl, fun k hk => ⟨g, 0, rfl, ?_, ?_⟩⟩
  · have h1 := (h (k * 2) (by rw [size_flatK]; simp at hk; omega)).1
    rw [get_flatK _ _ _ _ (by simp at hk; omega)] at h1
    have e : (fc d[k * 2 / 2]!)[k * 2 % 2]! = .int .i64 d.toList[k].2 := by
      rw [show k * 2 / 2 = k by omega, show k * 2 % 2 = 0 by omega]
      have : d[k]! = d.toList[k] := by simp at hk; rw [getElem!_pos d k hk]; simp
      rw [this]; rfl
    rw [e] at h1
    exact h1
  · have h1 := (h (k * 2 + 1) (by rw [size_flatK]; simp at hk; omega)).1
    rw [get_flatK _ _ _ _ (by simp at hk; omega)] at h1
    have e : (fc d[(k * 2 + 1) / 2]!)[(k * 2 + 1) % 2]! = .int .i64 d.toList[k].1 := by
      rw [show (k * 2 + 1) / 2 = k by omega, show (k * 2 + 1) % 2 = 1 by omega]
      have : d[k]! = d.toList[k] := by simp at hk; rw [getElem!_pos d k hk]; simp
      rw [this]; rfl
    rw [e] at h1
    rw [Nat.add_assoc]; exact h1
/-- the comparison -/
def cfF (x y : Int × Int) : Int := Lib.compareInt x.1 y.1
theorem cfF_lt (x y : Int × Int) : ltOf cfF x y = decide (x.1 < y.1) := by
  unfold ltOf cfF Lib.compareInt
  by_cases h1 : x.1 < y.1
  · simp [h1]
  · by_cases h2 : y.1 < x.1 <;> simp [h1, h2]
theorem cfF_swo : SWO (ltOf cfF) where
  irrefl x := by rw [cfF_lt]; simp
  trans x y z h1 h2 := by rw [cfF_lt] at *; simp at *; omega
  ntrans x y z h1 h2 := by rw [cfF_lt] at *; simp at *; omega
set_option maxHeartbeats 1000000 in
theorem cmp_any (x y : Int × Int) (W : World) : Calls Tryd.prog 60 #[.agg #[.int .i64 x.2, .int .i64 x.1], .agg #[.int .i64 y.2, .int .i64 y.1]] W fun e w' => e = .returned (.int .i64 (cfF x y)) ∧ ∃ q os', w' = Sort.grow (W.drewN q) os' := by
  have hcon := Lib.hid (fun W' => Tryd.cmp_Compare_int x.1 y.1 W')
  have hr : cfF x y = Lib.compareInt x.1 y.1 := rfl
  rw [hr]
  clear hr
  obtain ⟨r, hr⟩ : ∃ r, r = Lib.compareInt x.1 y.1 := ⟨_, rfl⟩
  rw [← hr] at hcon ⊢
  clear hr
  go_enter Tryd.func60, Tryd.ntmps60
  go_wp2_with fail
  refine (hcon.out _).mono ?_
  rintro e w' ⟨rfl, rfl⟩
  go_wp2_with fail
  go_ret
  exact ⟨rfl, 0, _, by rw [alloc_eq_grow, alloc_eq_grow, grow_grow]; rfl⟩
/-- the cells of a slice of the call's own hold its terms -/
theorem own_holds {w : World} {g c base : Nat} {l : List (Int × Int)} (h : OwnF base w (.slice (some ⟨g, 0, none⟩) l.length c) l) : base ≤ g ∧ g < w.heap.size ∧ HoldsK fc 2 w g 0 l.toArray := by
  rcases h.2 with ⟨hv, _⟩ | ⟨g', cap, cur, hv, hg, hh, hn, _, hc, ht⟩
  · injection hv with hv; cases hv
  · injection hv with hv e2 e3
    injection hv with hv
    injection hv with hv _
    subst hv
    have hlt : g < w.heap.size := by
      rcases Nat.lt_or_ge g w.heap.size with q | q
      · exact q
      · rw [Array.getElem?_eq_none q] at hh; cases hh
    refine ⟨hg, hlt, fun j hj => ⟨?_, frozen_of_row w g _ _ _ hh⟩⟩
    rw [size_flatK] at hj
    have hj2 : j < l.length * 2 := by simpa using hj
    rw [get_flatK _ _ _ _ hj, cell_of_row w g _ cur _ (0, 0) hh, Nat.zero_add]
    have h1 := fflat_get l (j / 2) (j % 2) (by omega) (by omega)
    rw [show j / 2 * 2 + j % 2 = j by omega, ← ht, List.getElem?_take, if_pos hj2] at h1
    have h2 : (l.toArray)[j / 2]! = l[j / 2]'(by omega) := by
      rw [getElem!_pos l.toArray (j / 2) (by simp; omega)]; simp
    rw [h2]
    have h3 : cur[j]? = cur.toList[j]? := by simp
    rw [h3, h1]
    rcases (by omega : j % 2 = 0 ∨ j % 2 = 1) with q | q <;> rw [q] <;> rfl
theorem sort_any (g c base : Nat) (ts : List (Int × Int)) (w : World) (h : OwnF base w (.slice (some ⟨g, 0, none⟩) ts.length c) ts) (hl : ts.length ≤ 100000) :
    Calls Tryd.prog 59 #[.slice (some ⟨g, 0, none⟩) ts.length c, .func (.func 60) #[] #[]] w fun e w' => e = .returned (.tuple #[]) ∧ ∃ ts' : List (Int × Int), ts'.Perm ts ∧ FTm w' (.slice (some ⟨g, 0, none⟩) ts.length c) ts' ∧ Go.RowKit.Below base w w' ∧ ∀ k, k ≠ g → k < w.heap.size → w'.heap[k]? = w.heap[k]? := by
  obtain ⟨hb, hg, hh⟩ := own_holds h
  have eg : ∀ args w, (callFunc 60 args).run Tryd.prog w = .ok (.enter 60 args) w := enters_of Tryd.func60 (by kernel_rfl) rfl
  have hcon := AnyQ.slices_SortFunc Tryd.sortFT 2 Tryd.isAgg69 Tryd.sizeOf69 fc (fun _ => rfl) (fun x v hv => by simp [fc] at hv; rcases hv with rfl | rfl <;> rfl) cfF cfF_swo 60 #[] g 0 c ts.toArray w eg (fun _ _ _ _ x y => cmp_any x y _) hh hg (by simp; omega)
  rw [show ts.toArray.size = ts.length by simp] at hcon
  refine Calls.mono hcon ?_
  rintro e w' ⟨rfl, d', n, os, hp, hs, rfl⟩
  have hsz : d'.size = ts.length := by have := hp.1; simpa using this
  have hperm : d'.toList.Perm ts := by
    have h1 := hp.2.2
    rw [← hsz] at h1
    have h2 : (List.take ts.length d'.toList).Perm ts := by simpa [hsz] using h1
    rwa [List.take_of_length_le (by simp; omega)] at h2
  have hd : HoldsK fc 2 (sortWorldK fc 2 w g 0 n d' os) g 0 d' := holdsK_sortWorldK_c fc 2 w g 0 ts.toArray d' n os hh hg (by simpa using hsz)
  have hf := holds_ftm (c := c) hd
  rw [hsz] at hf
  exact ⟨rfl, d'.toList, hperm, hf, sortW_below hb hg, fun k h1 h2 => sortW_heap h1 h2⟩
theorem sortV_any (v : Value) (base : Nat) (ts : List (Int × Int)) (w : World) (h : OwnF base w v ts) (hl : ts.length ≤ 100000) :
    Calls Tryd.prog 59 #[v, .func (.func 60) #[] #[]] w fun e w' => e = .returned (.tuple #[]) ∧ ∃ ts' : List (Int × Int), ts'.Perm ts ∧ FTm w' v ts' ∧ Go.RowKit.Below base w w' ∧ ∀ k, v.ownBlock ≠ some k → k < w.heap.size → w'.heap[k]? = w.heap[k]? := by
  obtain ⟨h1, h2⟩ := h
  rcases h2 with ⟨rfl, h0⟩ | ⟨g, cap, cur, rfl, hr⟩
  · have : ts = [] := List.eq_nil_of_length_eq_zero h0
    subst this
    refine Calls.mono (AnyF.slices_SortFunc_none Tryd.sortFT none 0 _ w) ?_
    rintro e w' ⟨rfl, rfl⟩
    exact ⟨rfl, [], List.Perm.refl _, ⟨none, 0, rfl, fun k hk => by simp at hk⟩, Go.RowKit.Below.refl _ _, fun _ _ _ => rfl⟩
  · refine Calls.mono (sort_any g cap base ts w ⟨h1, .inr ⟨g, cap, cur, rfl, hr⟩⟩ hl) ?_
    rintro e w' ⟨rfl, ts', a1, a2, a3, a4⟩
    exact ⟨rfl, ts', a1, a2, a3, fun k hk hl => a4 k (fun e => hk (by simp [Value.ownBlock, e])) hl⟩
end Go.Proofs.YtlbihllmpbhhcaaDoor

namespace Go.Proofs.YtlbihllmpbhhcaaDoor
open Go.RowKit
set_option linter.unusedVariables false

/-- what sum returns -/
def SumR (ts : List (Int × Int)) (base : Nat) (w : World) (e : Ending) (w' : World) : Prop := ∃ v r, e = .returned v ∧ PolyV w' v (some r) ∧ Can r ∧ Lim r ∧ (∀ x, cf r x = cf ts x) ∧ Below base w w'
theorem OwnF.form {base : Nat} {w : World} {v : Value} {l : List (Int × Int)} (h : OwnF base w v l) : ∃ A c, v = .slice A l.length c := by
  rcases h.2 with ⟨rfl, h0⟩ | ⟨g, cap, cur, rfl, _⟩
  · exact ⟨none, 0, by rw [h0]⟩
  · exact ⟨_, _, rfl⟩
theorem OwnF.lt {base : Nat} {w : World} {v : Value} {l : List (Int × Int)} (h : OwnF base w v l) : ∀ k, v.ownBlock = some k → base ≤ k ∧ k < w.heap.size := by
  intro k hk
  rcases h.2 with ⟨rfl, h0⟩ | ⟨b, cap, cur, rfl, hg, hh, r⟩
  · simp [Value.ownBlock] at hk
  · simp [Value.ownBlock] at hk
    subst hk
    rcases Nat.lt_or_ge b w.heap.size with hlt | hge
    · exact ⟨hg, hlt⟩
    · rw [Array.getElem?_eq_none hge] at hh; cases hh
theorem OwnF.below {base : Nat} {w w' : World} {v : Value} {l : List (Int × Int)} (h : OwnF base w v l) (hb : Below w.heap.size w w') : OwnF base w' v l := by
  refine ⟨h.1, ?_⟩
  rcases h.2 with h0 | ⟨b, cap, cur, rfl, hg, hh, r⟩
  · exact .inl h0
  · have hlt : b < w.heap.size := by
      rcases Nat.lt_or_ge b w.heap.size with q | q
      · exact q
      · rw [Array.getElem?_eq_none q] at hh; cases hh
    exact .inr ⟨b, cap, cur, rfl, hg, (hb.block b hlt).trans hh, r⟩
set_option maxHeartbeats 2000000 in
set_option maxRecDepth 100000 in
theorem sum_any (A0 : Option Addr) (c base : Nat) (ts : List (Int × Int)) (w : World) (h : OwnF base w (.slice A0 ts.length c) ts) (hl : ts.length ≤ 100000) (hu : Unit1 ts) (hbs : base ≤ w.heap.size) :
    Calls Tryd.prog 34 #[.slice A0 ts.length c] w (SumR ts base w) := by
  have hW : ∀ W, W = (w.alloc (.cells #[.slice A0 ts.length c] 66)).alloc (.cells #[.bool false, .slice none 0 0] 27) → Arr W w.heap.size 66 [.slice A0 ts.length c] ∧ Arr W (w.heap.size + 1) 27 [.bool false, .slice none 0 0] ∧ Below w.heap.size w W ∧ W.heap.size = w.heap.size + 2 := by
    intro W hW
    subst hW
    exact ⟨(Arr.new _ _ [_]).alloc _, Arr.newAt (w.alloc _) _ [_, _] _ (by simp), ((Below.refl _ _).alloc (Nat.le_refl _) _).alloc (by simp) _, by simp⟩
  have hgl := h.lt
  go_enter Tryd.func34, Tryd.ntmps34
  go_upto_region 1 with fail
  generalize ((w.alloc (.cells #[.slice A0 ts.length c] 66)).alloc (.cells #[.bool false, .slice none 0 0] 27)) = w3 at hW ⊢
  obtain ⟨qb, qr, hb3, hs3⟩ := hW w3 rfl
  clear hW
  have HSO := Lib.hid (sortV_any (.slice A0 ts.length c) base ts w3 (h.below hb3) hl)
  have y0 := qb.cell 0
  clear h
  go_wp2_with fail
  refine HSO.out.mono ?_
  rintro e w4 ⟨rfl, ts', hp, hf, hb4, hk⟩
  have qb4 : Arr w4 w.heap.size 66 [.slice A0 ts.length c] := (hk _ (fun q => absurd (hgl _ q).2 (by omega)) (by omega)).trans qb
  have qr4 : Arr w4 (w.heap.size + 1) 27 [.bool false, .slice none 0 0] := (hk _ (fun q => absurd (hgl _ q).2 (by omega)) (by omega)).trans qr
  have hbw : Below base w w4 := (hb3.mono hbs).trans hb4
  have hs4 : w.heap.size + 2 ≤ w4.heap.size := by have := hb4.size; omega
  have hlen := hp.length_eq
  have HU := Lib.hid (show Unit1 ts' from fun t ht => hu t (hp.mem_iff.1 ht))
  have HCF := Lib.hid (fun x => cf_perm hp x)
  have HF := Lib.hid hf
  have HL := Lib.hid hlen
  clear y0 hgl hk hp hf hb4 hb3 qb qr HSO hlen hs3 hu
  go_upto_region 3 with fail
  have hX : Arr (w4.alloc (.cells #[.nilFunc] 108)) w4.heap.size 108 [.nilFunc] ∧ Below w4.heap.size w4 (w4.alloc (.cells #[.nilFunc] 108)) := ⟨Arr.new _ _ [_], (Below.refl _ _).alloc (Nat.le_refl _) _⟩
  generalize (w4.alloc (.cells #[.nilFunc] 108)) = w5 at hX ⊢
  obtain ⟨qp5, hb5⟩ := hX
  have hb6 := hb5.setCell (p := ⟨w4.heap.size, 0, none⟩) (Nat.le_refl _) (.func (.func 62) #[] #[.pointer (some ⟨w.heap.size, 0, none⟩), .pointer (some ⟨w4.heap.size, 0, none⟩)])
  have qp6 := qp5.set 0 (.func (.func 62) #[] #[.pointer (some ⟨w.heap.size, 0, none⟩), .pointer (some ⟨w4.heap.size, 0, none⟩)])
  have y0 := qp5.cell 0
  have y1 := qp5.frozen 0
  go_upto_region 4 with fail
  clear y0 y1
  generalize w5.setCell ⟨w4.heap.size, 0, none⟩ (.func (.func 62) #[] #[.pointer (some ⟨w.heap.size, 0, none⟩), .pointer (some ⟨w4.heap.size, 0, none⟩)]) = w6 at *
  have qb6 := qb4.below hb6 qb4.lt
  have qr6 := qr4.below hb6 qr4.lt
  have hbw6 := hbw.trans (hb6.mono (Nat.le_trans hbs (by omega)))
  have hs6 : w.heap.size + 2 ≤ w6.heap.size := by have := hb6.size; omega
  have HF6 := Lib.hid (HF.out.below hb6)
  have y0 := qp6.cell 0
  have y1 := qb6.cell 0
  have HPA := Lib.hid (fun (f : FTm w6 (.slice A0 ts.length c) ts') => part_any w.heap.size w4.heap.size (.slice A0 ts.length c) ts' HU.out (by have := HL.out; omega) ts'.length 0 ts'.length (by omega) (by omega) (Nat.le_refl _) w6 qb6 qp6 f)
  have HP := Lib.hid (HPA.out HF6.out)
  have e0 := HL.out
  rw [e0] at HP
  clear HPA e0 hb5 hb6 qp5 qb4 qr4 HF HF6
  go_wp2_with fail
  refine HP.out.mono ?_
  rintro e w7 ⟨v, r, rfl, hv, hc, hli, hx, hb7⟩
  have q7 := qr6.below hb7 qr6.lt
  have hbw7 := hbw6.trans (hb7.mono (Nat.le_trans hbs (by omega)))
  have HV := Lib.hid (fun u1 u2 => hv.box q7 u1 u2)
  have HR := Lib.hid (And.intro hc (And.intro hli hx))
  obtain ⟨b5, A5, n5, c5, rfl, j5, j6⟩ := hv.parts
  clear j5 j6 hv hc hli hx y0 y1 qr6 qb6 qp6 HP hb7 hbw6
  have x0 := q7.cell 0
  have x1 := q7.cell 1
  have f0 := q7.frozen 0
  have f1 := q7.frozen 1
  have hres := Lib.hid ((q7.set 0 (.bool b5)).set 1 (.slice A5 n5 c5))
  go_wp2_with fail
  refine bodyPost_ret (v := .agg #[.bool b5, .slice A5 n5 c5]) (results_c Tryd.results34 _ _ (w.heap.size + 1) 27 _ _ rfl hres.out Tryd.underlying27 rfl info_poly) rfl ?_
  refine ⟨_, r, rfl, HV.out _ _, HR.out.1, HR.out.2.1, fun x => ?_, (hbw7.setCell (p := ⟨w.heap.size + 1, 0, none⟩) (Nat.le_trans hbs (by simp)) _).setCell (p := ⟨w.heap.size + 1, 1, none⟩) (Nat.le_trans hbs (by simp)) _⟩
  have h1 := HR.out.2.2 x
  rw [← HL.out, sl_all] at h1
  rw [h1, HCF.out]
end Go.Proofs.YtlbihllmpbhhcaaDoor

namespace Go.Proofs.YtlbihllmpbhhcaaDoor
open Go.RowKit
set_option linter.unusedVariables false

theorem OwnF.keep {base : Nat} {w w' : World} {v : Value} {l : List (Int × Int)} (h : OwnF base w v l) (hk : ∀ k, v.ownBlock = some k → w'.heap[k]? = w.heap[k]?) : OwnF base w' v l := by
  refine ⟨h.1, ?_⟩
  rcases h.2 with h0 | ⟨b, cap, cur, rfl, hg, hh, r⟩
  · exact .inl h0
  · exact .inr ⟨b, cap, cur, rfl, hg, (hk b rfl).trans hh, r⟩
theorem OwnF.far {base : Nat} {w : World} {v : Value} {l : List (Int × Int)} {p : Addr} (h : OwnF base w v l) (hg : v.ownBlock ≠ some p.block) (u : Value) : OwnF base (w.setCell p u) v l := h.keep fun k hk => Below.heap_setCell w p u k (fun e => hg (by rw [← e]; exact hk))
theorem OwnF.apart {base g : Nat} {w : World} {v : Value} {l : List (Int × Int)} {t : TypeId} {cs : List Value} (h : OwnF base w v l) (hg : Arr w g t cs) (hne : 69 ≠ t) : v.ownBlock ≠ some g := by
  intro hk
  rcases h.2 with ⟨rfl, h0⟩ | ⟨k, cap, cur, rfl, _, hh, r⟩
  · simp [Value.ownBlock] at hk
  · simp [Value.ownBlock] at hk
    subst hk
    unfold Arr at hg
    rw [hg] at hh
    injection hh with hh
    injection hh with _ h2 _
    exact hne h2.symm
theorem OwnF.form3 {base : Nat} {w : World} {v : Value} {l : List (Int × Int)} (h : OwnF base w v l) : ∃ A n c, v = .slice A n c := by
  obtain ⟨A, c, e⟩ := h.form
  exact ⟨A, _, c, e⟩
theorem OwnF.nil (base : Nat) (w : World) : OwnF base w (.slice none 0 0) [] := ⟨rfl, .inl ⟨rfl, rfl⟩⟩
theorem info_fterm : (Tryd.prog.info? 69).map (fun i => (i.zero, i.size, i.bytes)) = some (some (.agg #[.int .i64 0, .int .i64 0]), 2, 16) := by kernel_rfl
theorem wpList_appF {w : World} {base : Nat} {v : Value} {l : List (Int × Int)} {ops : Array Oper} {rest : List Oper} {o : Oper} {a : Act} {Q : Exit → Act → World → Prop} (hgd : o.guard = none) (s x : Operand) (ho : o.op = .call { callee := .builtin .append, args := #[s, x], argTypes := #[66, 66] })
    (hv : a.eval s = v) (h : OwnF base w v l) {b : Nat} {m : Int × Int} (hx : a.eval x = .slice (some ⟨b, 0, none⟩) 1 1) (hu : Arr w b 69 (fc m)) (hlen : l.length ≤ 100000000) (hbase : base ≤ w.heap.size)
    (hK : ∀ v' w', OwnF base w' v' (l ++ [m]) → Gr base w w' v.ownBlock → wpList Tryd.prog ops Q rest (a.put o.dst v') w') : wpList Tryd.prog ops Q (o :: rest) a w := by
  obtain ⟨i, hi, hz, hs, hby⟩ := info_parts info_fterm
  have hcells : ∀ j q, (fc m)[j]? = some q → w.cell? ((⟨b, 0, none⟩ : Addr).add j) = some q := by
    intro j q hq
    have : (⟨b, 0, none⟩ : Addr).add j = ⟨b, j, none⟩ := by unfold Addr.add; split <;> simp_all
    rw [this, hu.cell]; exact hq
  obtain ⟨v', w', hrun, h2, h3, _, h5⟩ := run_append_own_at (P := Tryd.prog) w base 66 o.type 69 i _ 2 16 Tryd.underlying66 hi hz hs hby rfl (by decide) v l.length (l.flatMap fc) h ⟨b, 0, none⟩ 1 1 (fc m) rfl hcells
    (by intro q hq; simp [fc] at hq; rcases hq with rfl | rfl <;> rfl) (by unfold maxLen; omega) (by omega) hbase
  refine wpList_plain hgd fun _ hk => ?_
  unfold Oper.wp execOp
  simp only [ho, resolve, invoke, builtin, Sem.run_bind, Sem.run_pure, Result.andThen_ok, List.map_toArray, List.map_cons, List.map_nil, hv, hx, hrun]
  have hblk : ∀ k, v.ownBlock = some k → base ≤ k := fun k hk => (OwnF.lt h k hk).1
  refine hk _ _ (hK v' w' ?_ ⟨(Below.refl _ _).grown h3 hbase hblk, fun k hk hne => h3.block k hk (fun e => hne e.symm)⟩)
  unfold OwnF
  rw [List.length_append, List.flatMap_append]
  simpa using h2
/-- a term is appended if its generator is the one -/
def addR (R : List (Int × Int)) (g gen : Int) (t : Int × Int) : List (Int × Int) := R ++ if g = gen then [t] else []
/-- what the closure add has kept -/
structure AddK (base tmb : Nat) (s : Option Nat) (w w' : World) : Prop where
  below : Below base w w'
  keep : ∀ k, k < w.heap.size → k ≠ tmb → s ≠ some k → w'.heap[k]? = w.heap[k]?
set_option maxHeartbeats 2000000 in
set_option maxRecDepth 100000 in
theorem addD_any (g gen co ex : Int) (gb tmb base : Nat) (s : Value) (R : List (Int × Int)) (w : World) (qg : Arr w gb 3 [.int .i64 gen]) (qt : Arr w tmb 66 [s]) (hs : OwnF base w s R) (hR : R.length ≤ 10000000) (hbt : base ≤ tmb) (hbs : base ≤ w.heap.size) :
    Calls Tryd.prog 33 #[.int .i64 g, .agg #[.int .i64 co, .int .i64 ex], .pointer (some ⟨gb, 0, none⟩), .pointer (some ⟨tmb, 0, none⟩)] w fun e w' => e = .returned (.tuple #[]) ∧ ∃ s', OwnF base w' s' (addR R g gen (ex, co)) ∧ Arr w' tmb 66 [s'] ∧ AddK base tmb s.ownBlock w w' := by
  have hB0 : Below w.heap.size w (w.alloc (.cells #[.int .i64 co, .int .i64 ex] 69)) := (Below.refl _ _).alloc (Nat.le_refl _) _
  have hW : Arr (w.alloc (.cells #[.int .i64 co, .int .i64 ex] 69)) w.heap.size 69 (fc (ex, co)) ∧ (w.alloc (.cells #[.int .i64 co, .int .i64 ex] 69)).heap.size = w.heap.size + 1 := ⟨Arr.new _ _ [_, _], by simp⟩
  by_cases e : g = gen
  · have z1 : (g == gen) = true := by simp [e]
    rw [show addR R g gen (ex, co) = R ++ [(ex, co)] by unfold addR; rw [if_pos e]]
    clear e
    go_enter Tryd.func33, Tryd.ntmps33
    go_upto_region 1 with fail
    generalize (w.alloc (.cells #[.int .i64 co, .int .i64 ex] 69)) = w3 at *
    obtain ⟨qb3, hs3⟩ := hW
    have qg3 := qg.below hB0 qg.lt
    have qt3 := qt.below hB0 qt.lt
    have O3 := hs.below hB0
    have y0 : w3.cell? ⟨w.heap.size, 0, none⟩ = some (.int .i64 co) := qb3.cell 0
    have y1 : w3.cell? ⟨w.heap.size, 1, none⟩ = some (.int .i64 ex) := qb3.cell 1
    have y2 := qg3.cell 0
    have y3 := qt3.cell 0
    have O4 := Lib.hid (O3.below ((Below.refl _ _).alloc (Nat.le_refl _) (.cells #[.int .i64 co, .int .i64 ex] 69)))
    have U4 := Lib.hid (show Arr (w3.alloc (.cells #[.int .i64 co, .int .i64 ex] 69)) w3.heap.size 69 (fc (ex, co)) from Arr.new _ _ [_, _])
    have HT4 := Lib.hid (qt3.alloc (.cells #[.int .i64 co, .int .i64 ex] 69))
    have HAP := Lib.hid (O3.apart qt3 (by decide))
    have HB3 := Lib.hid hB0
    have hbs3 : base ≤ w3.heap.size := by omega
    have HS3 := Lib.hid hs3
    clear hs qg qt O3 qg3 qt3 qb3 hB0 hs3
    go_wp2_with (at_builtin; go_loud (refine wpList_appF (m := (ex, co)) rfl _ _ rfl rfl O4.out rfl U4.out (by omega) (Nat.le_trans hbs3 (by simp)) ?_; intro s' w5 hown hg; have q5 := (hg.keep tmb HT4.out.lt HAP.out).trans HT4.out; have x0 := Arr.cell q5 0; have x1 := Arr.frozen q5 0; have HO := Lib.hid hown; have HG := Lib.hid hg; have HQ := Lib.hid q5; obtain ⟨A5, n5, c5, rfl⟩ := hown.form3; clear hown hg q5))
    go_end0
    refine ⟨rfl, _, HO.out.far (p := ⟨tmb, 0, none⟩) (HO.out.apart (show Arr _ tmb 66 _ from HQ.out) (by decide)) _, Arr.set (show Arr _ tmb 66 _ from HQ.out) 0 _, ?_, fun k hk h1 h2 => ?_⟩
    · exact (((HB3.out.mono hbs).alloc hbs3 _).trans HG.out.below).setCell (p := ⟨tmb, 0, none⟩) hbt _
    · rw [Below.heap_setCell _ ⟨tmb, 0, none⟩ _ k h1, HG.out.keep k (by have := HS3.out; simp; omega) h2, Below.heap_alloc _ _ _ (by have := HS3.out; omega), HB3.out.block k hk]
  · have z1 : (g == gen) = false := by simp [e]
    rw [show addR R g gen (ex, co) = R by unfold addR; rw [if_neg e, List.append_nil]]
    clear e
    go_enter Tryd.func33, Tryd.ntmps33
    go_upto_region 1 with fail
    generalize (w.alloc (.cells #[.int .i64 co, .int .i64 ex] 69)) = w3 at *
    obtain ⟨qb3, hs3⟩ := hW
    have qg3 := qg.below hB0 qg.lt
    have y2 := qg3.cell 0
    have AA := Lib.hid (show ∃ s', OwnF base w3 s' R ∧ Arr w3 tmb 66 [s'] ∧ AddK base tmb s.ownBlock w w3 from ⟨s, hs.below hB0, qt.below hB0 qt.lt, hB0.mono hbs, fun k hk _ _ => hB0.block k hk⟩)
    clear hs qt hB0 qb3 hs3
    go_wp2_with fail
    go_end0
    exact ⟨rfl, AA.out⟩
end Go.Proofs.YtlbihllmpbhhcaaDoor
