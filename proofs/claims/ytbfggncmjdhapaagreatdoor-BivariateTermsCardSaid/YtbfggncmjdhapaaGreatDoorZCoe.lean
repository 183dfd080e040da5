/- laurent.sparse. -/
/- laurent: Low, High, Coef. -/
import Derived.Test.YtbfggncmjdhapaaGreatDoorZPsh
import Derived.Shelf.AbstractIn
import Derived.Shelf.SlIterI.Nil
import Derived.Shelf.SortM.Plain
import Derived.Shelf.SortM.SortNone
import Derived.Test.YtbfggncmjdhapaaGreatDoorZPad
import Derived.Test.YtbfggncmjdhapaaGreatDoorShelf
namespace Go.Proofs.YtbfggncmjdhapaaGreatDoor
-- part: Spl
section
open Go.Maps
set_option linter.unusedVariables false

def ddp : List Int → List Int
  | [] => []
  | x :: l => if x ∈ l then ddp l else x :: ddp l
theorem ddp_mem {l : List Int} {x : Int} : x ∈ ddp l ↔ x ∈ l := by
  induction l with
  | nil => rfl
  | cons y l ih =>
    rw [ddp]
    split
    · next h =>
      rw [ih, List.mem_cons]
      constructor
      · exact .inr
      · rintro (rfl | h2)
        · exact h
        · exact h2
    · rw [List.mem_cons, List.mem_cons, ih]
theorem ddp_nodup : ∀ l : List Int, (ddp l).Nodup
  | [] => List.nodup_nil
  | y :: l => by
    rw [ddp]
    split
    · exact ddp_nodup l
    · next h => exact List.nodup_cons.2 ⟨fun k => h (ddp_mem.1 k), ddp_nodup l⟩
def keysL (done : List (Int × Int)) : List Int := (ddp (done.map (·.1))).mergeSort leI
theorem keysL_mem {done : List (Int × Int)} {x : Int} : x ∈ keysL done ↔ ∃ t ∈ done, t.1 = x := by
  unfold keysL
  rw [(List.mergeSort_perm _ leI).mem_iff, ddp_mem, List.mem_map]
theorem keysL_srt (done : List (Int × Int)) : (keysL done).Pairwise (· < ·) := by
  have tr : ∀ a b c : Int, leI a b = true → leI b c = true → leI a c = true := fun a b c h1 h2 => by simp only [leI, decide_eq_true_eq] at *; exact Int.le_trans h1 h2
  have tot : ∀ a b : Int, (leI a b || leI b a) = true := fun a b => by simp only [leI, Bool.or_eq_true, decide_eq_true_eq]; exact Int.le_total a b
  have h1 := List.pairwise_mergeSort tr tot (ddp (done.map (·.1)))
  have h2 : (keysL done).Nodup := (List.mergeSort_perm _ leI).nodup_iff.2 (ddp_nodup _)
  refine (h1.and h2).imp fun {a b} h => ?_
  have h3 : a ≤ b := by simpa [leI] using h.1
  have h4 : a ≠ b := h.2
  omega
theorem ddp_len : ∀ l : List Int, (ddp l).length ≤ l.length
  | [] => Nat.le_refl _
  | y :: l => by
    have := ddp_len l
    rw [ddp]
    split <;> simp only [List.length_cons] <;> omega
theorem keysL_len (done : List (Int × Int)) : (keysL done).length ≤ done.length := by
  unfold keysL
  rw [List.length_mergeSort]
  have := ddp_len (done.map (·.1))
  rw [List.length_map] at this
  exact this
/-- the terms at some exponents -/
def spF (F : Int → Int) : List Int → List (Int × Int)
  | [] => []
  | e :: l => (if F e = 0 then [] else [(e, F e)]) ++ spF F l
theorem spF_append (F : Int → Int) (l m : List Int) : spF F (l ++ m) = spF F l ++ spF F m := by
  induction l with
  | nil => rfl
  | cons e l ih => rw [List.cons_append, spF, spF, ih, List.append_assoc]
theorem spF_snoc (F : Int → Int) (l : List Int) (e : Int) : spF F (l ++ [e]) = spF F l ++ if F e = 0 then [] else [(e, F e)] := by rw [spF_append, spF, spF, List.append_nil]
theorem spF_mem {F : Int → Int} {l : List Int} {t : Int × Int} (h : t ∈ spF F l) : t.1 ∈ l ∧ t.2 = F t.1 ∧ t.2 ≠ 0 := by
  induction l with
  | nil => cases h
  | cons e l ih =>
    rw [spF] at h
    rcases List.mem_append.1 h with h | h
    · split at h
      · cases h
      · next h0 => rw [List.mem_singleton.1 h]; exact ⟨List.mem_cons_self .., rfl, h0⟩
    · have := ih h; exact ⟨List.mem_cons_of_mem _ this.1, this.2⟩
theorem spF_len (F : Int → Int) : ∀ l : List Int, (spF F l).length ≤ l.length
  | [] => Nat.le_refl _
  | e :: l => by
    have := spF_len F l
    rw [spF, List.length_append]
    split <;> simp <;> omega
theorem spF_can {F : Int → Int} : ∀ {l : List Int}, l.Pairwise (· < ·) → Can (spF F l)
  | [], _ => Can.nil
  | e :: l, h => by
    obtain ⟨h1, h2⟩ := List.pairwise_cons.1 h
    have ih := spF_can (F := F) h2
    rw [spF]
    split
    · exact ih
    · next h0 =>
      refine ⟨List.pairwise_cons.2 ⟨fun s hs => h1 _ (spF_mem hs).1, ih.srt⟩, fun t ht => ?_⟩
      rcases List.mem_cons.1 ht with rfl | ht
      · exact h0
      · exact ih.nz t ht
theorem spF_cf {F : Int → Int} {l : List Int} (h : l.Pairwise (· < ·)) (x : Int) : cf (spF F l) x = if x ∈ l then F x else 0 := by
  by_cases hx : x ∈ l
  · rw [if_pos hx]
    by_cases h0 : F x = 0
    · rw [h0]; exact cf_out fun t ht e => (spF_mem ht).2.2 (by rw [(spF_mem ht).2.1, e, h0])
    · have hm : (x, F x) ∈ spF F l := by
        clear h
        induction l with
        | nil => cases hx
        | cons e l ih =>
          rw [spF]
          rcases List.mem_cons.1 hx with rfl | hx
          · exact List.mem_append_left _ (by rw [if_neg h0]; exact List.mem_cons_self ..)
          · exact List.mem_append_right _ (ih hx)
      exact cf_mem (spF_can h).srt hm
  · rw [if_neg hx]
    exact cf_out fun t ht e => hx (e ▸ (spF_mem ht).1)
/-- the end of the sparse product -/
theorem mul_ends {p q : List (Int × Int)} (hx : ∀ s ∈ p, ∀ t ∈ q, -1048576 ≤ s.1 + t.1 ∧ s.1 + t.1 ≤ 1048576) (hb : ∀ e ∈ keysL (prs p q), -1125899906842624 ≤ cv p q e ∧ cv p q e ≤ 1125899906842624) : MulP (some p) (some q) (some (spF (cv p q) (keysL (prs p q)))) := by
  refine .inl ⟨_, rfl, spF_can (keysL_srt _), ⟨fun t ht => ?_, fun t ht => ?_⟩, fun e => ?_⟩
  · rw [(spF_mem ht).2.1]; exact hb _ (spF_mem ht).1
  · obtain ⟨u, hu, he⟩ := keysL_mem.1 (spF_mem ht).1
    obtain ⟨s, hs, t', ht', rfl⟩ := prs_mem hu
    rw [← he]; exact hx s hs t' ht'
  · rw [spF_cf (keysL_srt _)]
    by_cases h : e ∈ keysL (prs p q)
    · rw [if_pos h]
    · rw [if_neg h, ← cf_prs]
      exact (cf_out fun t ht he => h (keysL_mem.2 ⟨t, ht, he⟩)).symm
/-- the keys of the map, sorted -/
theorem MD.keys {done : List (Int × Int)} {D : DataW Unit} {w : World} {g : Nat} (h : MD done D) (hown : w.ownsMap Tryz.prog 3 wElem g done.length D) {ss : List Int} (hp : ss.Perm (intKeys D)) : ss.mergeSort (fun x y => decide (x ≤ y)) = keysL done := by
  have h1 : CollectedI D (fun _ => false) (ddp (done.map (·.1))) := ⟨ddp_nodup _, fun x => by
    rw [ddp_mem, List.mem_map]
    have := h.has x
    unfold kyI at this
    rw [this]; simp⟩
  have h2 := h1.perm hown keyed_int Tryz.underlying3 (fun _ => rfl)
  exact mergeSort_of_perm_i (hp.trans h2.symm)
theorem MD.size_le {done : List (Int × Int)} {D : DataW Unit} {w : World} {g : Nat} (hown : w.ownsMap Tryz.prog 3 wElem g done.length D) : Maps.size D ≤ done.length := hown.size_le
end
-- part: Srk
section
open Go.RowKit Go.Maps Go.Sort Go.Shelf
set_option linter.unusedVariables false

theorem sortsI (m : Nat) : AnyZI.SortsIn Tryz.prog Tryz.sortedI_ren Fence.wide m :=
  ⟨fun blk off cap ss W hH hblk hsz => callsIn_wide.2 (AnyM.slices_Sort_int Tryz.sortI blk off cap ss W hH hblk hsz),
   fun p cap W => callsIn_wide.2 (AnyM.slices_Sort_int_none Tryz.sortI p cap W)⟩
theorem keys_any (mb : Option Nat) (W : World) : Calls Tryz.prog 82 #[.map mb] W fun e w' => e = .returned (.func (.func 102) #[] #[.pointer (some ⟨W.heap.size, 0, none⟩)]) ∧ w' = W.alloc (.cells #[.map mb] 119) :=
  (callsIn_wide (n := 5)).1 (AnyZI.keys_in Tryz.keysI Fence.wide 5 trivial rfl mb W)
set_option maxHeartbeats 1000000 in
theorem sorted_any (b nn : Nat) (D0 : DataW Unit) (R : Value → Option (DataW Unit × List MemPlace)) (w : World) (hown : w.ownsMap Tryz.prog 3 R b nn D0) (hmax : Maps.size D0 ≤ maxLen) (hbytes : Maps.size D0 * 8 ≤ 140737488355328) :
    Calls Tryz.prog 81 #[.func (.func 102) #[] #[.pointer (some ⟨w.heap.size, 0, none⟩)]] (w.alloc (.cells #[.map (some b)] 119)) fun e w' => ∃ (v : Value) (ss : List Int), e = .returned v ∧ ss.Perm (intKeys D0) ∧
      w'.ownsRow (w.alloc (.cells #[.map (some b)] 119)).heap.size 3 1 v ss.length ((ss.mergeSort (fun x y => decide (x ≤ y))).map encZ) ∧ (v = .slice none 0 0 ↔ ss = []) ∧ Below (w.alloc (.cells #[.map (some b)] 119)).heap.size (w.alloc (.cells #[.map (some b)] 119)) w' := by
  have hbl := hown.lt
  have hseq : SeqGives Fence.wide 2 Tryz.prog 102 #[.pointer (some ⟨w.heap.size, 0, none⟩)] encZ (fun ss => ss.Perm (intKeys D0)) (Maps.size D0) (w.alloc (.cells #[.map (some b)] 119)) :=
    AnyZI.keys_gives (ρ := Tryz.keysI_ren) { Tryz.keysI with } Fence.wide _ trivial rfl (by omega) w.heap.size b nn D0 _ (by simp) (by simp) (by
      obtain ⟨es, clock, hb, Ft, hs, hD⟩ := hown
      exact ⟨es, clock, (Below.heap_alloc _ _ b hbl).trans hb, Ft, hs, hD⟩)
  have cS := AnyZI.sorted_in Tryz.sortedI Fence.wide 5 trivial trivial trivial trivial rfl (by omega) (sortsI _) (enters_of Tryz.func101 (by kernel_rfl) rfl) 102 #[.pointer (some ⟨w.heap.size, 0, none⟩)] trivial (enters_of Tryz.func102 (by kernel_rfl) rfl) _ _ hmax hbytes _ hseq
  refine (callsIn_wide.1 cS).mono fun e w' h => ?_
  exact h
end
-- part: Sps
section
open Go.RowKit Go.Maps
set_option linter.unusedVariables false

/-- the state of a loop that appends terms to a polynomial in the box rb; all else below N stays -/
structure LSt (base N rb : Nat) (wS : World) (s : Value) (R : List (Int × Int)) (W : World) : Prop where
  own : OwnT N W s R
  rr : Arr W rb 38 [.bool false, s]
  oth : ∀ k, k < N → k ≠ rb → W.heap[k]? = wS.heap[k]?
  bel : Below base wS W
  sz : N ≤ W.heap.size
section
variable {base N rb : Nat} {wS W W' : World} {s : Value} {R : List (Int × Int)}
theorem LSt.below (h : LSt base N rb wS s R W) (hb : Below W.heap.size W W') (hN : base ≤ N) (hr : rb < N) : LSt base N rb wS s R W' :=
  ⟨h.own.below hb, h.rr.below hb h.rr.lt, fun k hk h1 => (hb.block k (Nat.lt_of_lt_of_le hk h.sz)).trans (h.oth k hk h1), h.bel.trans (hb.mono (Nat.le_trans hN h.sz)), Nat.le_trans h.sz hb.size⟩
theorem LSt.arr (h : LSt base N rb wS s R W) {k : Nat} {t : TypeId} {cs : List Value} (ha : Arr wS k t cs) (hk : k < N) (hr : k ≠ rb) : Arr W k t cs := (h.oth k hk hr).trans ha
theorem LSt.app (h : LSt base N rb wS s R W) {s' : Value} {m : Int × Int} (ho : OwnT N W' s' (R ++ [m])) (hg : Gr N W W' s.ownBlock) (hN : base ≤ rb) (hr : rb < N) : Arr W' rb 38 [.bool false, s] ∧ LSt base N rb wS s' (R ++ [m]) (W'.setCell ⟨rb, 1, none⟩ s') := by
  have a1 := h.own.apart h.rr (by decide)
  have q1 : Arr W' rb 38 [.bool false, s] := (hg.keep _ h.rr.lt a1).trans h.rr
  have hNk : ∀ k, k < N → s.ownBlock ≠ some k := fun k hk e => by have := (h.own.lt k e).1; omega
  exact ⟨q1, ho.far (p := ⟨rb, 1, none⟩) (ho.apart q1 (by decide)) _, q1.set 1 _, fun k hk h1 => (Below.heap_setCell W' ⟨rb, 1, none⟩ s' k h1).trans ((hg.keep k (Nat.lt_of_lt_of_le hk h.sz) (hNk k hk)).trans (h.oth k hk h1)), (h.bel.trans (hg.below.mono (by omega))).setCell (p := ⟨rb, 1, none⟩) hN _, by have := Nat.le_trans h.sz hg.below.size; simpa using this⟩
end
theorem clo_sparse (Mb g base : Nat) (p q : List (Int × Int)) (lp : Lim p) (kp : Can p) (lq : Lim q) (kq : Can q) (hbg : base ≤ g) (w : World) (hbw : base ≤ w.heap.size) : CloP 80 [.pointer (some ⟨Mb, 0, none⟩)] g base p q (fun d W => MapS Mb g d W ∧ base ≤ W.heap.size) where
  eg := enters_of Tryz.func80 (by kernel_rfl) rfl
  st := fun done e c rest W h hJ => by
    have hm : (e, c) ∈ prs p q := by rw [h]; simp
    obtain ⟨s, hs, t, ht, he⟩ := prs_mem hm
    have h1 := lp.ex s hs
    have h2 := lq.ex t ht
    have h3 : e = s.1 + t.1 := congrArg Prod.fst he
    have h4 : done.length ≤ 1000000000000000 := by
      have h5 := congrArg List.length h
      rw [prs_len, List.length_append] at h5
      have h6 := Nat.mul_le_mul (lp.len kp) (lq.len kq)
      omega
    exact (spclo_any Mb g base e c done W hJ.1 (by omega) h4 hbg hJ.2).mono fun en w' ⟨a, b, o⟩ => ⟨a, ⟨b, Nat.le_trans hJ.2 o.below.size⟩, o⟩
  kp := fun done W W' h hb => ⟨h.1.kp hb, Nat.le_trans h.2 hb.size⟩
theorem OwnI.keepB {e : TypeId} {base : Nat} {w w' : World} {v : Value} {xs : List Int} (h : OwnI e base w v xs) (hk : ∀ k, v.ownBlock = some k → base ≤ k → k < w.heap.size → w'.heap[k]? = w.heap[k]?) : OwnI e base w' v xs := by
  refine ⟨h.1, ?_⟩
  rcases h.2 with h0 | ⟨b, cap, cur, rfl, hg, hh, r⟩
  · exact .inl h0
  · exact .inr ⟨b, cap, cur, rfl, hg, (hk b rfl hg (Array.getElem?_eq_some_iff.1 hh).1).trans hh, r⟩
theorem MapS.keepB {Mb g : Nat} {done : List (Int × Int)} {W W' : World} (h : MapS Mb g done W) (h1 : W'.heap[Mb]? = W.heap[Mb]?) (h2 : W'.heap[g]? = W.heap[g]?) : MapS Mb g done W' := by
  obtain ⟨D, ⟨es, clock, hh, F, hs, hD⟩, h3⟩ := h.ex
  exact ⟨h1.trans h.mm, D, ⟨es, clock, h2.trans hh, F, hs, hD⟩, h3⟩
theorem smB_cases (x : Int) : (smB x = true ∧ smN x = x ∧ -1125899906842624 ≤ x ∧ x ≤ 1125899906842624) ∨ (smB x = false ∧ ¬ (-1125899906842624 ≤ x ∧ x ≤ 1125899906842624)) := by
  by_cases h : -1125899906842624 ≤ x ∧ x ≤ 1125899906842624
  · exact .inl ⟨decide_eq_true h, by unfold smN; rw [if_pos h], h⟩
  · exact .inr ⟨decide_eq_false h, h⟩
def MulR (p q : Pol) (w : World) (e : Ending) (w' : World) : Prop := ∃ v r, e = .returned v ∧ PolyV w' v r ∧ MulP p q r ∧ Below w.heap.size w w'
set_option maxHeartbeats 4000000 in
set_option maxRecDepth 100000 in
theorem sparse_any (vp vq : Value) (p q : List (Int × Int)) (w : World) (hp : PolyV w vp (some p)) (hq : PolyV w vq (some q)) (lp : Lim p) (kp : Can p) (lq : Lim q) (kq : Can q) (hx : ∀ s ∈ p, ∀ t ∈ q, -1048576 ≤ s.1 + t.1 ∧ s.1 + t.1 ≤ 1048576) :
    Calls Tryz.prog 45 #[vp, vq] w (MulR (some p) (some q) w) := by
  have HPV := Lib.hid (fun W (hb : Below w.heap.size w W) => hp.below hb)
  have HQV := Lib.hid (fun W (hb : Below w.heap.size w W) => hq.below hb)
  have HLM := Lib.hid (And.intro (And.intro lp kp) (And.intro lq kq))
  have HX := Lib.hid hx
  obtain ⟨b1, A, n, c, rfl, j1, j2⟩ := hp.parts
  obtain ⟨b2, A2, n2, c2, rfl, j3, j4⟩ := hq.parts
  clear hp hq lp kp lq kq hx j1 j2 j3 j4
  have hW : ∀ W, W = ((((((w.alloc (.cells #[.bool b1, .slice A n c] 38)).alloc (.cells #[.bool b2, .slice A2 n2 c2] 38)).alloc (.cells #[.bool false, .slice none 0 0] 38))).alloc (.map #[] 0)).alloc (.cells #[.map (some (w.heap.size + 3))] 119)) → (MapS (w.heap.size + 4) (w.heap.size + 3) [] W ∧ w.heap.size ≤ W.heap.size) ∧ Arr W w.heap.size 38 [.bool b1, .slice A n c] ∧ Arr W (w.heap.size + 1) 38 [.bool b2, .slice A2 n2 c2] ∧ Arr W (w.heap.size + 2) 38 [.bool false, .slice none 0 0] ∧ Below w.heap.size w W ∧ W.heap.size = w.heap.size + 5 := by
    intro W hW
    subst hW
    have e3 : (((w.alloc (.cells #[.bool b1, .slice A n c] 38)).alloc (.cells #[.bool b2, .slice A2 n2 c2] 38)).alloc (.cells #[.bool false, .slice none 0 0] 38)).heap.size = w.heap.size + 3 := by simp
    have hm := World.ownsMap_made (((w.alloc (.cells #[.bool b1, .slice A n c] 38)).alloc (.cells #[.bool b2, .slice A2 n2 c2] 38)).alloc (.cells #[.bool false, .slice none 0 0] 38)) Tryz.prog 3 wElem
    rw [e3] at hm
    exact ⟨⟨⟨Arr.newAt (((((w.alloc _).alloc _).alloc _)).alloc _) _ [_] _ (by simp), _, hm.alloc _, MD.start⟩, by simp; omega⟩, ((((Arr.new _ _ [_, _]).alloc _).alloc _).alloc _).alloc _, (((Arr.newAt (w.alloc _) _ [_, _] _ (by simp)).alloc _).alloc _).alloc _, ((Arr.newAt ((w.alloc _).alloc _) _ [_, _] _ (by simp)).alloc _).alloc _, (((((Below.refl _ _).alloc (Nat.le_refl _) _).alloc (by simp) _).alloc (by simp <;> omega) _).alloc (by simp <;> omega) _).alloc (by simp <;> omega) _, by simp⟩
  have hmm := @run_makeMap Tryz.prog
  go_enter Tryz.func45, Tryz.ntmps45
  go_upto_region 2 with fail
  generalize ((((((w.alloc (.cells #[.bool b1, .slice A n c] 38)).alloc (.cells #[.bool b2, .slice A2 n2 c2] 38)).alloc (.cells #[.bool false, .slice none 0 0] 38))).alloc (.map #[] 0)).alloc (.cells #[.map (some (w.heap.size + 1 + 1 + 1))] 119)) = w3 at hW ⊢
  obtain ⟨hj3, qp, qq, qr, hb3, hs3⟩ := hW w3 rfl
  have HPR := Lib.hid (products_reg1 80 (.pointer (some ⟨w.heap.size + 4, 0, none⟩)) (w.heap.size + 3) w.heap.size p q _ (clo_sparse (w.heap.size + 4) (w.heap.size + 3) w.heap.size p q HLM.out.1.1 HLM.out.1.2 HLM.out.2.1 HLM.out.2.2 (by omega) w (Nat.le_refl _)) (.agg #[.bool b1, .slice A n c]) (.agg #[.bool b2, .slice A2 n2 c2]) w3 (fun W hb => HPV.out W (hb3.trans hb)) (fun W hb => HQV.out W (hb3.trans hb)) HLM.out.1.1 HLM.out.1.2 HLM.out.2.1 HLM.out.2.2 (by omega) (by omega) hj3)
  have HQR := Lib.hid qr
  have HB3 := Lib.hid hb3
  have HS3 := Lib.hid hs3
  have y0 := qp.cell 0
  have y1 := qp.cell 1
  have y2 := qq.cell 0
  have y3 := qq.cell 1
  clear hW hj3 hb3 qp qq qr hmm hs3
  go_wp2_with fail
  refine HPR.out.mono ?_
  rintro e w4 ⟨rfl, hj4, ho4⟩
  have HJ4 := Lib.hid hj4.1
  have HB4 := Lib.hid (HB3.out.trans ho4.below)
  have HQ4 := Lib.hid (ho4.at_ HQR.out (by omega))
  have HS4 := Lib.hid (show w.heap.size + 5 ≤ w4.heap.size from by have := ho4.below.size; have := HS3.out; omega)
  clear HPR hj4 ho4 y0 y1 y2 y3 HQR HB3 HS3
  have hW5 : ∀ W, W = w4.alloc (.cells #[.bool false, .slice none 0 0] 38) → MapS (w.heap.size + 4) (w.heap.size + 3) (prs p q) W ∧ Arr W (w.heap.size + 2) 38 [.bool false, .slice none 0 0] ∧ Arr W w4.heap.size 38 [.bool false, .slice none 0 0] ∧ Below w.heap.size w W ∧ W.heap.size = w4.heap.size + 1 := by
    intro W hW
    subst hW
    have hb : Below w4.heap.size w4 (w4.alloc (.cells #[.bool false, .slice none 0 0] 38)) := (Below.refl _ _).alloc (Nat.le_refl _) _
    exact ⟨HJ4.out.kp hb, HQ4.out.below hb HQ4.out.lt, Arr.new _ _ [_, _], HB4.out.trans (hb.mono (by have := HS4.out; omega)), by simp⟩
  go_upto_region 4 with fail
  generalize (w4.alloc (.cells #[.bool false, .slice none 0 0] 38)) = w5 at hW5 ⊢
  obtain ⟨hj5, qr5, qb5, hb5, hs5⟩ := hW5 w5 rfl
  obtain ⟨rb, hrb⟩ : ∃ r, r = w4.heap.size := ⟨_, rfl⟩
  rw [← hrb] at qb5 hs5 HS4 ⊢
  obtain ⟨D, hD1, hD2⟩ := hj5.ex
  have hsize : Maps.size D ≤ 4398058045449 := by
    have h1 := MD.size_le hD1
    have h2 := Nat.mul_le_mul (HLM.out.1.1.len HLM.out.1.2) (HLM.out.2.1.len HLM.out.2.2)
    rw [prs_len] at h1
    omega
  have HSO := Lib.hid (sorted_any (w.heap.size + 3) _ D wElem w5 hD1 (by unfold maxLen; omega) (by omega))
  have HKL := Lib.hid (fun ss (h : List.Perm ss (intKeys D)) => hD2.keys hD1 h)
  have HKY := Lib.hid (keys_any (some (w.heap.size + 3)) w5)
  have HJ5 := Lib.hid hj5
  have HQ5 := Lib.hid qr5
  have HR5 := Lib.hid qb5
  have HB5 := Lib.hid hb5
  have HS5 := Lib.hid hs5
  have y0 := hj5.mm.cell 0
  clear hW5 hj5 qr5 qb5 hb5 hs5 hrb hD1 hD2 hsize HJ4 HQ4 HB4
  go_wp2_with fail
  refine HKY.out.mono ?_
  rintro e w6 ⟨rfl, rfl⟩
  go_wp2_with fail
  refine HSO.out.mono ?_
  rintro e w7 ⟨v, ss, rfl, hperm, hrow, _, hb7⟩
  have hks := HKL.out ss hperm
  have hln : ss.length = (keysL (prs p q)).length := by rw [← hks, List.length_mergeSort]
  have HOW := Lib.hid (show OwnI 3 (w5.heap.size + 1) w7 v (keysL (prs p q)) from by
    unfold OwnI
    rw [hks, hln] at hrow
    simpa [encZ] using hrow)
  have hb57 : Below w5.heap.size w5 w7 := ((Below.refl _ _).alloc (Nat.le_refl _) _).trans (hb7.mono (by simp))
  have HJ7 := Lib.hid (HJ5.out.kp hb57)
  have HQ7 := Lib.hid (HQ5.out.below hb57 HQ5.out.lt)
  have HB7 := Lib.hid (HB5.out.trans (hb57.mono HB5.out.size))
  have HS7 := Lib.hid (show w5.heap.size ≤ w7.heap.size ∧ w.heap.size + 5 ≤ rb ∧ rb < w5.heap.size from ⟨hb57.size, HS4.out, by have := HS5.out; omega⟩)
  have HST := Lib.hid (show LSt w.heap.size w7.heap.size rb w7 (.slice none 0 0) [] w7 from ⟨OwnT.nil _ _, HR5.out.below hb57 HR5.out.lt, fun _ _ _ => rfl, Below.refl _ _, Nat.le_refl _⟩)
  have HF := Lib.hid (show ∀ e, cf (prs p q) e = cv p q e from cf_prs p q)
  have HBD := Lib.hid (HLM.out.1.1.cvbd HLM.out.1.2 HLM.out.2.1 HLM.out.2.2)
  have HKX := Lib.hid (show ∀ e ∈ keysL (prs p q), -1048576 ≤ e ∧ e ≤ 1048576 from fun e he => by
    obtain ⟨u, hu, he2⟩ := keysL_mem.1 he
    obtain ⟨s, hs, t, ht, rfl⟩ := prs_mem hu
    rw [← he2]; exact HX.out s hs t ht)
  have HLN := Lib.hid (show ∀ k, (spF (cv p q) ((keysL (prs p q)).take k)).length ≤ 100000000 from fun k => by
    have h1 := srt_len (a := -1048576) (b := 1048576) (spF_can (F := cv p q) (List.Pairwise.sublist (List.take_sublist k _) (keysL_srt (prs p q)))).srt (fun t ht => HKX.out _ (List.mem_of_mem_take (spF_mem ht).1)) (by omega)
    omega)
  have HKN := Lib.hid (show (keysL (prs p q)).length ≤ 4398058045449 from by
    have h1 := keysL_len (prs p q)
    have h2 := Nat.mul_le_mul (HLM.out.1.1.len HLM.out.1.2) (HLM.out.2.1.len HLM.out.2.2)
    rw [prs_len] at h1
    omega)
  have HEND := Lib.hid (show (∀ e ∈ keysL (prs p q), -1125899906842624 ≤ cv p q e ∧ cv p q e ≤ 1125899906842624) → MulP (some p) (some q) (some (spF (cv p q) (keysL (prs p q)))) from mul_ends HX.out)
  have HBAD := Lib.hid (show ∀ e, ¬ (-1125899906842624 ≤ cv p q e ∧ cv p q e ≤ 1125899906842624) → MulP (some p) (some q) none from fun e h => mul_bad h)
  obtain ⟨KL, hKL⟩ : ∃ l, l = keysL (prs p q) := ⟨_, rfl⟩
  obtain ⟨F, hFF⟩ : ∃ f, f = cv p q := ⟨_, rfl⟩
  rw [← hKL] at HOW HKX HLN HKN HEND
  rw [← hFF] at HF HBD HLN HEND HBAD
  obtain ⟨Ak, ck, rfl⟩ := HOW.out.form
  clear hks hln hperm hrow hb7 hb57 HKL hKL hFF HSO HKY HJ5 HQ5 HR5 HB5 HS4 HS5 HX HLM HPV HQV y0
  have hkn := HKN.out
  go_wp2_with fail
  go_loopg [8, 9, 10, 20] KL.length (fun gk s8 s9 s10 s20 wr => ∃ (k : Nat) (s : Value), k ≤ KL.length ∧ gk = KL.length - k ∧ s20 = .int .i64 (k : Int) ∧ LSt w.heap.size w7.heap.size rb w7 s (spF F (KL.take k)) wr ∧ Hid (∀ e ∈ KL.take k, -1125899906842624 ≤ F e ∧ F e ≤ 1125899906842624))
  case atStart => exact ⟨0, _, Nat.zero_le _, rfl, rfl, HST.out, Lib.hid (fun e h => by simp at h)⟩
  case round =>
    clear HST
    obtain ⟨k, s, hk, rfl, rfl, hst, HK⟩ := hrel
    by_cases hlt : k < KL.length
    · have z1 : (k : Int) < (KL.length : Int) := by omega
      have h57 := HS7.out
      have HIN := Lib.hid (HOW.out.keepB (fun j _ h1 h2 => hst.oth j h2 (by omega))).ints
      have hm := HJ7.out.keepB (hst.oth (w.heap.size + 4) (by omega) (by omega)) (hst.oth (w.heap.size + 3) (by omega) (by omega))
      have hex := HKX.out _ (List.getElem_mem hlt)
      have hlk := hm.look (e := KL[k]) (by omega)
      have ym := hm.mm.cell 0
      rw [HF.out] at hlk
      have hbd := HBD.out KL[k]
      have HSM := Lib.hid (fun W => small_any (F KL[k]) W (by omega) (by omega))
      have HSN := Lib.hid (show spF F (KL.take (k + 1)) = spF F (KL.take k) ++ if F KL[k] = 0 then [] else [(KL[k], F KL[k])] from by
        rw [List.take_add_one, List.getElem?_eq_getElem hlt, Option.toList_some, spF_snoc])
      have HKN2 := Lib.hid (show (-1125899906842624 ≤ F KL[k] ∧ F KL[k] ≤ 1125899906842624) → ∀ e ∈ KL.take (k + 1), -1125899906842624 ≤ F e ∧ F e ≤ 1125899906842624 from fun h e he => by
        rw [List.take_add_one, List.getElem?_eq_getElem hlt, Option.toList_some] at he
        rcases List.mem_append.1 he with he | he
        · exact HK.out e he
        · rw [List.mem_singleton.1 he]; exact h)
      obtain ⟨b, o, ⟨c', hv⟩, _, hcell⟩ := ints_atZ HIN.out hlt
      injection hv with hv1 hv2 hv3
      subst hv1 hv3
      clear hv2 HIN hm hbd HK
      have HRL := Lib.hid (HLN.out k)
      generalize hR : spF F (KL.take k) = R at *
      clear hR
      generalize KL[k] = x at *
      have qr := hst.arr HQ7.out (by omega) (by omega)
      have HB := Lib.hid (HB7.out.trans hst.bel)
      have HST := Lib.hid hst
      obtain ⟨Ax, nx, cx, rfl⟩ := hst.own.form3
      have HQ := Lib.hid qr
      clear hst qr
      rcases smB_cases (F x) with ⟨g1, g2, g3⟩ | ⟨g1, g2⟩
      · have HG3 := Lib.hid g3
        have HK3 := Lib.hid (HKN2.out g3)
        rw [g1, g2] at HSM
        clear g1 g2 HKN2
        generalize F x = cx_ at *
        go_wp2_with fail
        refine (HSM.out _).mono ?_
        rintro e w8 ⟨rfl, hb8⟩
        have hst8 := HST.out.below hb8 (by omega) (by omega)
        have HST8 := Lib.hid hst8
        clear HSM hlk ym hcell hb8 HST HB HQ
        have q1 := hst8.rr
        have y1 := q1.cell 1
        by_cases h0 : cx_ = 0
        · have z2 : (cx_ != 0) = false := by simp [h0]
          have HS2 := Lib.hid (show spF F (KL.take (k + 1)) = R by rw [HSN.out, if_pos h0, List.append_nil])
          clear h0 HSN hst8 q1 y1
          go_wp2_with fail
          go_roundg (KL.length - (k + 1))
          case measure => omega
          case rel => exact ⟨k + 1, _, by omega, rfl, by go_num, by rw [HS2.out]; exact HST8.out, HK3⟩
        · have z2 : (cx_ != 0) = true := by simp [h0]
          have HS2 := Lib.hid (show spF F (KL.take (k + 1)) = R ++ [(x, cx_)] by rw [HSN.out, if_neg h0])
          have HUU := Lib.hid (Arr.new w8 76 [.int .i64 x, .int .i64 cx_])
          have HSA := Lib.hid (hst8.below ((Below.refl _ _).alloc (Nat.le_refl _) (.cells #[.int .i64 x, .int .i64 cx_] 76)) (by omega) (by omega))
          have HSZ := Lib.hid HSA.out.sz
          have HRB := Lib.hid (show w.heap.size ≤ rb ∧ rb < w7.heap.size by omega)
          clear h0 HSN hst8 q1
          go_wp2_with (at_builtin; refine wpList_appT rfl (.tmp 37) (.tmp 41) rfl rfl HSA.out.own (m := (x, cx_)) rfl HUU.out HRL.out HSZ.out ?_; intro v' w1 hown1 hgr1; obtain ⟨q1, h2⟩ := HSA.out.app hown1 hgr1 HRB.out.1 HRB.out.2; obtain ⟨Av, nv, cv, rfl⟩ := hown1.form3; have HN := Lib.hid h2; have f1 := q1.frozen 1; have yq := q1.cell 1; clear hown1 hgr1 q1 h2)
          go_roundg (KL.length - (k + 1))
          case measure => omega
          case rel => exact ⟨k + 1, _, by omega, rfl, by go_num, by rw [HS2.out]; exact HN.out, HK3⟩
      · have HBD2 := Lib.hid (HBAD.out x g2)
        rw [g1] at HSM
        clear g1 g2 HKN2 HSN
        generalize F x = cx_ at *
        generalize smN cx_ = sn at *
        go_wp2_with fail
        refine (HSM.out _).mono ?_
        rintro e w8 ⟨rfl, hb8⟩
        have qr := HQ.out.below hb8 HQ.out.lt
        have f0 := qr.frozen 0
        have f1 := qr.frozen 1
        have x0 := qr.cell 0
        have x1 := qr.cell 1
        have HRS := Lib.hid ((qr.set 0 (.bool true)).set 1 (.slice none 0 0))
        have HBE := Lib.hid (((HB.out.trans (hb8.mono HB.out.size)).setCell (p := ⟨w.heap.size + 2, 0, none⟩) (by show w.heap.size ≤ w.heap.size + 2; omega) (.bool true)).setCell (p := ⟨w.heap.size + 2, 1, none⟩) (by show w.heap.size ≤ w.heap.size + 2; omega) (.slice none 0 0))
        clear HSM hlk ym hcell hb8 HST HB HQ qr
        go_wp2_with fail
        refine bodyPost_ret (v := .agg #[.bool true, .slice none 0 0]) (results_c Tryz.results45 _ _ (w.heap.size + 2) 38 _ _ rfl HRS.out Tryz.underlying38 rfl info_poly) rfl ?_
        exact ⟨_, _, rfl, PolyV.big _, HBD2.out, HBE.out⟩
    · have z1 : ¬ (k : Int) < (KL.length : Int) := by omega
      have hkk : KL.take k = KL := List.take_of_length_le (by omega)
      have HE := Lib.hid (HEND.out (by have := HK.out; rwa [hkk] at this))
      rw [hkk] at hst
      obtain ⟨Ax, cx, rfl⟩ := hst.own.form
      have qr := hst.arr HQ7.out (by have := HS7.out; omega) (by have := HS7.out; omega)
      have q1 := hst.rr
      have y0 := q1.cell 0
      have y1 := q1.cell 1
      have f0 := qr.frozen 0
      have f1 := qr.frozen 1
      have x0 := qr.cell 0
      have x1 := qr.cell 1
      have HRS := Lib.hid ((qr.set 0 (.bool false)).set 1 (.slice Ax (spF F KL).length cx))
      have HPB := Lib.hid ((PolyV.own hst.own).box qr (.bool false) (.slice Ax (spF F KL).length cx))
      have HBE := Lib.hid (((HB7.out.trans hst.bel).setCell (p := ⟨w.heap.size + 2, 0, none⟩) (by show w.heap.size ≤ w.heap.size + 2; omega) (.bool false)).setCell (p := ⟨w.heap.size + 2, 1, none⟩) (by show w.heap.size ≤ w.heap.size + 2; omega) (.slice Ax (spF F KL).length cx))
      clear hst qr q1 hkk
      go_wp2_with fail
      refine bodyPost_ret (v := .agg #[.bool false, .slice Ax (spF F KL).length cx]) (results_c Tryz.results45 _ _ (w.heap.size + 2) 38 _ _ rfl HRS.out Tryz.underlying38 rfl info_poly) rfl ?_
      exact ⟨_, _, rfl, HPB.out, HE.out, HBE.out⟩
end
end Go.Proofs.YtbfggncmjdhapaaGreatDoor

namespace Go.Proofs.YtbfggncmjdhapaaGreatDoor
open Go.RowKit
set_option linter.unusedVariables false

def lowL (l : List (Int × Int)) : Int := (l.head?.map (·.1)).getD 0
def highL (l : List (Int × Int)) : Int := (l.getLast?.map (·.1)).getD 0
theorem lowL_0 {l : List (Int × Int)} (h : 0 < l.length) : lowL l = l[0].1 := by
  cases l with
  | nil => simp at h
  | cons t l => rfl
theorem highL_0 {l : List (Int × Int)} (h : 0 < l.length) : highL l = (l[l.length - 1]'(by omega)).1 := by
  unfold highL
  rw [List.getLast?_eq_getElem?, List.getElem?_eq_getElem (by omega)]; rfl
set_option maxHeartbeats 1000000 in
theorem Low_any (vp : Value) (p : Pol) (w : World) (hp : PolyV w vp p) (okp : okP p) : Calls Tryz.prog 43 #[vp] w fun e w' => e = .returned (.int .i64 (lowL (p.getD []))) ∧ Below w.heap.size w w' := by
  have hl : (p.getD []).length ≤ 4611686018427387904 := by
    cases p with
    | none => simp
    | some l => have := okp.2.len okp.1; simp only [Option.getD_some]; omega
  obtain ⟨A, c, rfl, hx⟩ := hp
  have HX := Lib.hid (fun W (hb : Below w.heap.size w W) => hx.below hb)
  clear hx okp
  generalize p.isNone = b1 at *
  generalize p.getD [] = l at *
  have hb : Below w.heap.size w (w.alloc (.cells #[.bool b1, .slice A l.length c] 38)) := (Below.refl _ _).alloc (Nat.le_refl _) _
  rcases Nat.eq_zero_or_pos l.length with h0 | h0
  · have z1 : ((l.length : Int) == 0) = true := by rw [beq_iff_eq]; omega
    have HE := Lib.hid (show lowL l = 0 from by rw [List.eq_nil_of_length_eq_zero h0]; rfl)
    clear h0
    go_enter Tryz.func43, Tryz.ntmps43
    go_wp2_with fail
    go_ret
    exact ⟨by rw [HE.out]; rfl, hb⟩
  · have z1 : ((l.length : Int) == 0) = false := by rw [beq_eq_false_iff_ne]; omega
    have HE := Lib.hid (lowL_0 h0)
    obtain ⟨b, o, rfl, _, y0, _⟩ := (HX.out _ hb).at_ h0
    simp only [Nat.zero_mul, Nat.add_zero] at y0
    have z2 : (0 : Int) < (l.length : Int) := by omega
    clear HX
    go_enter Tryz.func43, Tryz.ntmps43
    go_wp2_with fail
    go_ret
    exact ⟨by rw [HE.out]; rfl, hb⟩
set_option maxHeartbeats 1000000 in
theorem High_any (vp : Value) (p : Pol) (w : World) (hp : PolyV w vp p) (okp : okP p) : Calls Tryz.prog 44 #[vp] w fun e w' => e = .returned (.int .i64 (highL (p.getD []))) ∧ Below w.heap.size w w' := by
  have hl : (p.getD []).length ≤ 4611686018427387904 := by
    cases p with
    | none => simp
    | some l => have := okp.2.len okp.1; simp only [Option.getD_some]; omega
  obtain ⟨A, c, rfl, hx⟩ := hp
  have HX := Lib.hid (fun W (hb : Below w.heap.size w W) => hx.below hb)
  clear hx okp
  generalize p.isNone = b1 at *
  generalize p.getD [] = l at *
  have hb : Below w.heap.size w (w.alloc (.cells #[.bool b1, .slice A l.length c] 38)) := (Below.refl _ _).alloc (Nat.le_refl _) _
  rcases Nat.eq_zero_or_pos l.length with h0 | h0
  · have z1 : ((l.length : Int) == 0) = true := by rw [beq_iff_eq]; omega
    have HE := Lib.hid (show highL l = 0 from by rw [List.eq_nil_of_length_eq_zero h0]; rfl)
    clear h0
    go_enter Tryz.func44, Tryz.ntmps44
    go_wp2_with fail
    go_ret
    exact ⟨by rw [HE.out]; rfl, hb⟩
  · have z1 : ((l.length : Int) == 0) = false := by rw [beq_eq_false_iff_ne]; omega
    have HE := Lib.hid (highL_0 h0)
    obtain ⟨b, o, rfl, _, y0, _⟩ := (HX.out _ hb).at_ (show l.length - 1 < l.length by omega)
    have HE2 := Lib.hid (show highL l = (l[l.length - 1]).1 from HE.out)
    generalize (l[l.length - 1]).1 = x at *
    obtain ⟨m, hm⟩ : ∃ m : Nat, m = l.length - 1 := ⟨_, rfl⟩
    have e1 : (l.length : Int) - 1 = (m : Int) := by omega
    have z2 : (m : Int) < (l.length : Int) := by omega
    rw [← hm] at y0
    clear HX hm HE
    go_enter Tryz.func44, Tryz.ntmps44
    go_wp2_with fail
    go_ret
    exact ⟨by rw [HE2.out]; rfl, hb⟩
set_option maxHeartbeats 1000000 in
theorem coefclo_any (a b e : Int) (W : World) : Calls Tryz.prog 98 #[.agg #[.int .i64 a, .int .i64 b], .int .i64 e] W fun en w' => en = .returned (.int .i64 (Lib.compareInt a e)) ∧ Below W.heap.size W w' := by
  have hcon := Lib.hid (fun W' => Tryz.cmp_Compare_int a e W')
  obtain ⟨r, hr⟩ : ∃ r, r = Lib.compareInt a e := ⟨_, rfl⟩
  rw [← hr] at hcon ⊢
  clear hr
  go_enter Tryz.func98, Tryz.ntmps98
  go_wp2_with fail
  refine (hcon.out _).mono ?_
  rintro en w' ⟨rfl, rfl⟩
  go_wp2_with fail
  go_ret
  exact ⟨rfl, (Below.refl _ _).alloc (Nat.le_refl _) _⟩
theorem cmpI (a e : Int) : (Lib.compareInt a e < 0 ↔ a < e) ∧ (Lib.compareInt a e = 0 ↔ a = e) ∧ -1 ≤ Lib.compareInt a e ∧ Lib.compareInt a e ≤ 1 := by
  unfold Lib.compareInt
  split
  · simp; omega
  · split <;> simp <;> omega
/-- what the search returns -/
def BsfR (l : List (Int × Int)) (e : Int) (w : World) (en : Ending) (w' : World) : Prop := Below w.heap.size w w' ∧ ∃ (i : Nat) (ok : Bool), en = .returned (.tuple #[.int .i64 (i : Int), .bool ok]) ∧ i ≤ l.length ∧ (ok = true → ∃ h : i < l.length, l[i].1 = e) ∧ (ok = false → cf l e = 0)
set_option maxHeartbeats 2000000 in
set_option maxRecDepth 100000 in
theorem bsf_any (A : Option Addr) (c : Nat) (l : List (Int × Int)) (e : Int) (w : World) (hx : Tms w (.slice A l.length c) l) (kl : Srt l) (hl : l.length ≤ 1000000000) :
    Calls Tryz.prog 97 #[.slice A l.length c, .int .i64 e, .func (.func 98) #[] #[]] w (BsfR l e w) := by
  have HX := Lib.hid (fun W (hb : Below w.heap.size w W) => hx.below hb)
  have HK := Lib.hid kl
  have eg := enters_of Tryz.func98 (by kernel_rfl) rfl
  clear hx kl
  go_enter Tryz.func97, Tryz.ntmps97
  go_wp2_with fail
  go_loopg [9, 10, 11] l.length (fun gk s9 s10 s11 wr => ∃ lo hi : Nat, lo ≤ hi ∧ hi ≤ l.length ∧ gk = hi - lo ∧ s9 = .int .i64 (lo : Int) ∧ s10 = .int .i64 (hi : Int) ∧ Hid ((∀ s ∈ l.take lo, s.1 < e) ∧ ∀ s ∈ l.drop hi, e ≤ s.1) ∧ Below w.heap.size w wr)
  case atStart => exact ⟨0, l.length, Nat.zero_le _, Nat.le_refl _, rfl, rfl, rfl, Lib.hid ⟨fun s h => by simp at h, fun s h => by simp at h⟩, Below.refl _ _⟩
  case round =>
    obtain ⟨lo, hi, hlh, hhi, rfl, rfl, rfl, HI, hbr⟩ := hrel
    by_cases hlt : lo < hi
    · have z1 : (lo : Int) < (hi : Int) := by omega
      obtain ⟨m, hm⟩ : ∃ m : Nat, m = (lo + hi) / 2 := ⟨_, rfl⟩
      have hml : m < l.length := by omega
      have z2 : (m : Int) < (l.length : Int) := by omega
      have z3 : ((lo : Int) + (hi : Int)) / 2 = (m : Int) := by omega
      obtain ⟨b, o, rfl, _, y0, y1⟩ := (HX.out wr hbr).at_ hml
      have HL := Lib.hid (fun (h : l[m].1 < e) => (show ∀ s ∈ l.take (m + 1), s.1 < e from fun s hs => by
        rw [take_snoc' hml] at hs
        rcases List.mem_append.1 hs with hs | hs
        · have := (srt_drop HK.out hml).1 s hs; omega
        · rw [List.mem_singleton.1 hs]; exact h))
      have HR := Lib.hid (fun (h : ¬ l[m].1 < e) => (show ∀ s ∈ l.drop m, e ≤ s.1 from fun s hs => by
        have := srt_ge HK.out hml s hs; omega))
      have HC := Lib.hid (coefclo_any l[m].1 l[m].2 e wr)
      obtain ⟨hc1, hc2, hc3, hc4⟩ := cmpI l[m].1 e
      generalize Lib.compareInt l[m].1 e = r at *
      generalize l[m] = t at *
      obtain ⟨t1, t2⟩ := t
      have hm1 : lo ≤ m := by omega
      have hm2 : m < hi := by omega
      clear hm
      dsimp only at *
      by_cases hr : r < 0
      · have HS := Lib.hid (HL.out (hc1.1 hr))
        clear HL HR hc1 hc2
        go_wp2_with fail
        refine HC.out.mono ?_
        rintro en w4 ⟨rfl, hb4⟩
        go_wp2_with fail
        go_roundg (hi - (m + 1))
        case measure => omega
        case rel => exact ⟨m + 1, hi, by omega, by omega, rfl, by go_num, rfl, Lib.hid ⟨HS.out, HI.out.2⟩, hbr.trans (hb4.mono hbr.size)⟩
      · have HS := Lib.hid (HR.out (fun h => hr (hc1.2 h)))
        clear HL HR hc1 hc2
        go_wp2_with fail
        refine HC.out.mono ?_
        rintro en w4 ⟨rfl, hb4⟩
        go_wp2_with fail
        go_roundg (m - lo)
        case measure => omega
        case rel => exact ⟨lo, m, by omega, by omega, rfl, rfl, rfl, Lib.hid ⟨HI.out.1, HS.out⟩, hbr.trans (hb4.mono hbr.size)⟩
    · have z1 : ¬ (lo : Int) < (hi : Int) := by omega
      obtain rfl : lo = hi := by omega
      by_cases hln : lo < l.length
      · have z2 : (lo : Int) < (l.length : Int) := by omega
        obtain ⟨b, o, rfl, _, y0, y1⟩ := (HX.out wr hbr).at_ hln
        have HC := Lib.hid (coefclo_any l[lo].1 l[lo].2 e wr)
        obtain ⟨hc1, hc2, hc3, hc4⟩ := cmpI l[lo].1 e
        have HN := Lib.hid (fun (h : l[lo].1 ≠ e) => (show cf l e = 0 from by
          refine cf_out fun s hs => ?_
          rw [← List.take_append_drop lo l] at hs
          rcases List.mem_append.1 hs with hs | hs
          · have := HI.out.1 s hs; omega
          · rw [List.drop_eq_getElem_cons hln] at hs
            rcases List.mem_cons.1 hs with rfl | hs
            · exact h
            · have h1 := (srt_drop HK.out hln).2 s hs
              have h2 := HI.out.2 l[lo] (mem_drop_self hln)
              omega))
        obtain ⟨r, hr⟩ : ∃ r, r = Lib.compareInt l[lo].1 e := ⟨_, rfl⟩
        rw [← hr] at HC hc1 hc2 hc3 hc4
        clear hr
        have HT := Lib.hid (fun (h : r = 0) => (show ∃ h : lo < l.length, l[lo].1 = e from ⟨hln, hc2.1 h⟩))
        have HF := Lib.hid (fun (h : r ≠ 0) => HN.out (fun q => h (hc2.2 q)))
        generalize l[lo].1 = t1 at *
        generalize l[lo].2 = t2 at *
        clear HN hc1 hc2 HI
        by_cases hr0 : r = 0
        · have z4 : (r == 0) = true := by simp [hr0]
          have HT2 := Lib.hid (HT.out hr0)
          clear HT HF hr0
          go_wp2_with fail
          refine HC.out.mono ?_
          rintro en w4 ⟨rfl, hb4⟩
          go_wp2_with fail
          go_ret2
          exact ⟨hbr.trans (hb4.mono hbr.size), lo, true, rfl, by omega, fun _ => HT2.out, fun h => by cases h⟩
        · have z4 : (r == 0) = false := by simp [hr0]
          have HF2 := Lib.hid (HF.out hr0)
          clear HT HF hr0
          go_wp2_with fail
          refine HC.out.mono ?_
          rintro en w4 ⟨rfl, hb4⟩
          go_wp2_with fail
          go_ret2
          exact ⟨hbr.trans (hb4.mono hbr.size), lo, false, rfl, by omega, fun h => (by cases h), fun _ => HF2.out⟩
      · have z2 : ¬ (lo : Int) < (l.length : Int) := by omega
        have HF2 := Lib.hid (show cf l e = 0 from cf_out fun s hs => by
          have := HI.out.1 s (by rw [List.take_of_length_le (by omega)]; exact hs); omega)
        clear HI
        go_wp2_with fail
        go_ret2
        exact ⟨hbr, lo, false, rfl, by omega, fun h => (by cases h), fun _ => HF2.out⟩
set_option maxHeartbeats 1000000 in
theorem Coef_any (vp : Value) (p : Pol) (e : Int) (w : World) (hp : PolyV w vp p) (okp : okP p) : Calls Tryz.prog 73 #[vp, .int .i64 e] w fun en w' => en = .returned (.int .i64 (cf (p.getD []) e)) ∧ Below w.heap.size w w' := by
  have hl : (p.getD []).length ≤ 1000000000 ∧ Srt (p.getD []) := by
    cases p with
    | none => exact ⟨by simp, List.Pairwise.nil⟩
    | some l => have := okp.2.len okp.1; simp only [Option.getD_some]; exact ⟨by omega, okp.1.srt⟩
  obtain ⟨hl, hsr⟩ := hl
  have HSR := Lib.hid hsr
  obtain ⟨A, c, rfl, hx⟩ := hp
  have HX := Lib.hid (fun W (hb : Below w.heap.size w W) => hx.below hb)
  clear hx okp hsr
  generalize p.isNone = b1 at *
  generalize p.getD [] = l at *
  have hb : Below w.heap.size w (w.alloc (.cells #[.bool b1, .slice A l.length c] 38)) := (Below.refl _ _).alloc (Nat.le_refl _) _
  have qp := Arr.new w 38 [.bool b1, .slice A l.length c]
  change Arr (w.alloc (.cells #[.bool b1, .slice A l.length c] 38)) w.heap.size 38 [.bool b1, .slice A l.length c] at qp
  go_enter Tryz.func73, Tryz.ntmps73
  go_upto_region 1 with fail
  generalize (w.alloc (.cells #[.bool b1, .slice A l.length c] 38)) = w3 at *
  have y1 := qp.cell 1
  have HQ := Lib.hid qp
  have HBS := Lib.hid (bsf_any A c l e w3 (HX.out w3 hb) HSR.out hl)
  have HB := Lib.hid hb
  clear qp hb
  go_wp2_with fail
  refine HBS.out.mono ?_
  rintro en w4 ⟨hb4, i, ok, rfl, hi, h1, h2⟩
  have qp := HQ.out.below hb4 HQ.out.lt
  have y1 := qp.cell 1
  have HB4 := Lib.hid (HB.out.trans (hb4.mono HB.out.size))
  have HX4 := Lib.hid (HX.out w4 HB4.out)
  clear hb4 qp HBS
  cases ok with
  | false =>
    have HE := Lib.hid (h2 rfl)
    clear h1 h2
    go_wp2_with fail
    go_ret
    exact ⟨by rw [HE.out]; rfl, HB4.out⟩
  | true =>
    obtain ⟨hil, hie⟩ := h1 rfl
    have HE := Lib.hid (show cf l e = l[i].2 from by rw [← hie]; exact cf_mem HSR.out (List.getElem_mem hil))
    obtain ⟨b, o, rfl, _, y2, y3⟩ := HX4.out.at_ hil
    have z1 : (i : Int) < (l.length : Int) := by omega
    clear h1 h2 hie y2
    generalize l[i].2 = x at *
    go_wp2_with fail
    go_ret
    exact ⟨by rw [HE.out]; rfl, HB4.out⟩
end Go.Proofs.YtbfggncmjdhapaaGreatDoor
