/- laurent.sparse. -/
/- word.Valid. -/
/- fox.Augment, laurent.Of, word.Exponents. -/
/- laurent.Mul. -/
/- laurent.Div: the state of the division in memory. -/
/- laurent.Mul at all polynomials. -/
import Derived.Test.YtnmidhlghhephaaGreatDoorWwMsp
import Derived.Shelf.AbstractIn
import Derived.Shelf.SlIterI.Nil
import Derived.Shelf.SortM.Plain
import Derived.Shelf.SortM.SortNone
import Derived.Test.YtnmidhlghhephaaGreatDoorWwPsh
import Derived.Test.YtnmidhlghhephaaGreatDoorWwPhz
import Derived.Test.YtnmidhlghhephaaGreatDoorWwPsu
import Derived.Test.YtnmidhlghhephaaGreatDoorWwEql
import Derived.Test.YtnmidhlghhephaaGreatDoorWwEnd
import Derived.Test.YtnmidhlghhephaaGreatDoorWwDvw
namespace Go.Proofs.YtnmidhlghhephaaGreatDoor
-- part: Spl
section
open Go.Maps
set_option linter.unusedVariables false
def ddp : List Int → List Int
  | [] => []
  | x :: l => if x ∈ l then ddp l else x :: ddp l
theorem ddp_mem {l : List Int} {x : Int} : x ∈ ddp l ↔ x ∈ l := by
  induction l with
  | nil => rfl
  | cons y l ih =>
    rw [ddp]
    split
    · next h =>
      rw [ih, List.mem_cons]
      constructor
      · exact .inr
      · rintro (rfl | h2)
        · exact h
        · exact h2
    · rw [List.mem_cons, List.mem_cons, ih]
theorem ddp_nodup : ∀ l : List Int, (ddp l).Nodup
  | [] => List.nodup_nil
  | y :: l => by
    rw [ddp]
    split
    · exact ddp_nodup l
    · next h => exact List.nodup_cons.2 ⟨fun k => h (ddp_mem.1 k), ddp_nodup l⟩
def keysL (done : List (Int × Int)) : List Int := (ddp (done.map (·.1))).mergeSort leI
theorem keysL_mem {done : List (Int × Int)} {x : Int} : x ∈ keysL done ↔ ∃ t ∈ done, t.1 = x := by
  unfold keysL
  rw [(List.mergeSort_perm _ leI).mem_iff, ddp_mem, List.mem_map]
theorem keysL_srt (done : List (Int × Int)) : (keysL done).Pairwise (· < ·) := by
  have tr : ∀ a b c : Int, leI a b = true → leI b c = true → leI a c = true := fun a b c h1 h2 => by simp only [leI, decide_eq_true_eq] at *; exact Int.le_trans h1 h2
  have tot : ∀ a b : Int, (leI a b || leI b a) = true := fun a b => by simp only [leI, Bool.or_eq_true, decide_eq_true_eq]; exact Int.le_total a b
  have h1 := List.pairwise_mergeSort tr tot (ddp (done.map (·.1)))
  have h2 : (keysL done).Nodup := (List.mergeSort_perm _ leI).nodup_iff.2 (ddp_nodup _)
  refine (h1.and h2).imp fun {a b} h => ?_
  have h3 : a ≤ b := by simpa [leI] using h.1
  have h4 : a ≠ b := h.2
  omega
theorem ddp_len : ∀ l : List Int, (ddp l).length ≤ l.length
  | [] => Nat.le_refl _
  | y :: l => by
    have := ddp_len l
    rw [ddp]
    split <;> simp only [List.length_cons] <;> omega
theorem keysL_len (done : List (Int × Int)) : (keysL done).length ≤ done.length := by
  unfold keysL
  rw [List.length_mergeSort]
  have := ddp_len (done.map (·.1))
  rw [List.length_map] at this
  exact this
/-- the terms at some exponents -/
def spF (F : Int → Int) : List Int → List (Int × Int)
  | [] => []
  | e :: l => (if F e = 0 then [] else [(e, F e)]) ++ spF F l
theorem spF_append (F : Int → Int) (l m : List Int) : spF F (l ++ m) = spF F l ++ spF F m := by
  induction l with
  | nil => rfl
  | cons e l ih => rw [List.cons_append, spF, spF, ih, List.append_assoc]
theorem spF_snoc (F : Int → Int) (l : List Int) (e : Int) : spF F (l ++ [e]) = spF F l ++ if F e = 0 then [] else [(e, F e)] := by rw [spF_append, spF, spF, List.append_nil]
theorem spF_mem {F : Int → Int} {l : List Int} {t : Int × Int} (h : t ∈ spF F l) : t.1 ∈ l ∧ t.2 = F t.1 ∧ t.2 ≠ 0 := by
  induction l with
  | nil => cases h
  | cons e l ih =>
    rw [spF] at h
    rcases List.mem_append.1 h with h | h
    · split at h
      · cases h
      · next h0 => rw [List.mem_singleton.1 h]; exact ⟨List.mem_cons_self .., rfl, h0⟩
    · have := ih h; exact ⟨List.mem_cons_of_mem _ this.1, this.2⟩
theorem spF_can {F : Int → Int} : ∀ {l : List Int}, l.Pairwise (· < ·) → Can (spF F l)
  | [], _ => Can.nil
  | e :: l, h => by
    obtain ⟨h1, h2⟩ := List.pairwise_cons.1 h
    have ih := spF_can (F := F) h2
    rw [spF]
    split
    · exact ih
    · next h0 =>
      refine ⟨List.pairwise_cons.2 ⟨fun s hs => h1 _ (spF_mem hs).1, ih.srt⟩, fun t ht => ?_⟩
      rcases List.mem_cons.1 ht with rfl | ht
      · exact h0
      · exact ih.nz t ht
theorem spF_cf {F : Int → Int} {l : List Int} (h : l.Pairwise (· < ·)) (x : Int) : cf (spF F l) x = if x ∈ l then F x else 0 := by
  by_cases hx : x ∈ l
  · rw [if_pos hx]
    by_cases h0 : F x = 0
    · rw [h0]; exact cf_out fun t ht e => (spF_mem ht).2.2 (by rw [(spF_mem ht).2.1, e, h0])
    · have hm : (x, F x) ∈ spF F l := by
        clear h
        induction l with
        | nil => cases hx
        | cons e l ih =>
          rw [spF]
          rcases List.mem_cons.1 hx with rfl | hx
          · exact List.mem_append_left _ (by rw [if_neg h0]; exact List.mem_cons_self ..)
          · exact List.mem_append_right _ (ih hx)
      exact cf_mem (spF_can h).srt hm
  · rw [if_neg hx]
    exact cf_out fun t ht e => hx (e ▸ (spF_mem ht).1)
/-- the end of the sparse product -/
theorem mul_ends {p q : List (Int × Int)} (hx : ∀ s ∈ p, ∀ t ∈ q, -1048576 ≤ s.1 + t.1 ∧ s.1 + t.1 ≤ 1048576) (hb : ∀ e ∈ keysL (prs p q), -1125899906842624 ≤ cv p q e ∧ cv p q e ≤ 1125899906842624) : MulP (some p) (some q) (some (spF (cv p q) (keysL (prs p q)))) := by
  refine .inl ⟨_, rfl, spF_can (keysL_srt _), ⟨fun t ht => ?_, fun t ht => ?_⟩, fun e => ?_⟩
  · rw [(spF_mem ht).2.1]; exact hb _ (spF_mem ht).1
  · obtain ⟨u, hu, he⟩ := keysL_mem.1 (spF_mem ht).1
    obtain ⟨s, hs, t', ht', rfl⟩ := prs_mem hu
    rw [← he]; exact hx s hs t' ht'
  · rw [spF_cf (keysL_srt _)]
    by_cases h : e ∈ keysL (prs p q)
    · rw [if_pos h]
    · rw [if_neg h, ← cf_prs]
      exact (cf_out fun t ht he => h (keysL_mem.2 ⟨t, ht, he⟩)).symm
/-- the keys of the map, sorted -/
theorem MD.keys {done : List (Int × Int)} {D : DataW Unit} {w : World} {g : Nat} (h : MD done D) (hown : w.ownsMap Tryz.prog 3 wElem g done.length D) {ss : List Int} (hp : ss.Perm (intKeys D)) : ss.mergeSort (fun x y => decide (x ≤ y)) = keysL done := by
  have h1 : CollectedI D (fun _ => false) (ddp (done.map (·.1))) := ⟨ddp_nodup _, fun x => by
    rw [ddp_mem, List.mem_map]
    have := h.has x
    unfold kyI at this
    rw [this]; simp⟩
  have h2 := h1.perm hown keyed_int Tryz.underlying3 (fun _ => rfl)
  exact mergeSort_of_perm_i (hp.trans h2.symm)
theorem MD.size_le {done : List (Int × Int)} {D : DataW Unit} {w : World} {g : Nat} (hown : w.ownsMap Tryz.prog 3 wElem g done.length D) : Maps.size D ≤ done.length := hown.size_le
end
-- part: Srk
section
open Go.RowKit Go.Maps Go.Sort Go.Shelf
set_option linter.unusedVariables false
theorem sortsI (m : Nat) : AnyZI.SortsIn Tryz.prog Tryz.sortedI_ren Fence.wide m :=
  ⟨fun blk off cap ss W hH hblk hsz => callsIn_wide.2 (AnyM.slices_Sort_int Tryz.sortI blk off cap ss W hH hblk hsz),
   fun p cap W => callsIn_wide.2 (AnyM.slices_Sort_int_none Tryz.sortI p cap W)⟩
theorem keys_any (mb : Option Nat) (W : World) : Calls Tryz.prog 55 #[.map mb] W fun e w' => e = .returned (.func (.func 75) #[] #[.pointer (some ⟨W.heap.size, 0, none⟩)]) ∧ w' = W.alloc (.cells #[.map mb] 94) :=
  (callsIn_wide (n := 5)).1 (AnyZI.keys_in Tryz.keysI Fence.wide 5 trivial rfl mb W)
set_option maxHeartbeats 1000000 in
theorem sorted_any (b nn : Nat) (D0 : DataW Unit) (R : Value → Option (DataW Unit × List MemPlace)) (w : World) (hown : w.ownsMap Tryz.prog 3 R b nn D0) (hmax : Maps.size D0 ≤ maxLen) (hbytes : Maps.size D0 * 8 ≤ 140737488355328) :
    Calls Tryz.prog 54 #[.func (.func 75) #[] #[.pointer (some ⟨w.heap.size, 0, none⟩)]] (w.alloc (.cells #[.map (some b)] 94)) fun e w' => ∃ (v : Value) (ss : List Int), e = .returned v ∧ ss.Perm (intKeys D0) ∧
      w'.ownsRow (w.alloc (.cells #[.map (some b)] 94)).heap.size 3 1 v ss.length ((ss.mergeSort (fun x y => decide (x ≤ y))).map encZ) ∧ (v = .slice none 0 0 ↔ ss = []) ∧ Below (w.alloc (.cells #[.map (some b)] 94)).heap.size (w.alloc (.cells #[.map (some b)] 94)) w' := by
  have hbl := hown.lt
  have hseq : SeqGives Fence.wide 2 Tryz.prog 75 #[.pointer (some ⟨w.heap.size, 0, none⟩)] encZ (fun ss => ss.Perm (intKeys D0)) (Maps.size D0) (w.alloc (.cells #[.map (some b)] 94)) :=
    AnyZI.keys_gives (ρ := Tryz.keysI_ren) { Tryz.keysI with } Fence.wide _ trivial rfl (by omega) w.heap.size b nn D0 _ (by simp) (by simp) (by
      obtain ⟨es, clock, hb, Ft, hs, hD⟩ := hown
      exact ⟨es, clock, (Below.heap_alloc _ _ b hbl).trans hb, Ft, hs, hD⟩)
  have cS := AnyZI.sorted_in Tryz.sortedI Fence.wide 5 trivial trivial trivial trivial rfl (by omega) (sortsI _) (enters_of Tryz.func74 (by kernel_rfl) rfl) 75 #[.pointer (some ⟨w.heap.size, 0, none⟩)] trivial (enters_of Tryz.func75 (by kernel_rfl) rfl) _ _ hmax hbytes _ hseq
  refine (callsIn_wide.1 cS).mono fun e w' h => ?_
  exact h
end
-- part: Sps
section
open Go.RowKit Go.Maps
set_option linter.unusedVariables false
/-- the state of a loop that appends terms to a polynomial in the box rb; all else below N stays -/
structure LSt (base N rb : Nat) (wS : World) (s : Value) (R : List (Int × Int)) (W : World) : Prop where
  own : OwnT N W s R
  rr : Arr W rb 34 [.bool false, s]
  oth : ∀ k, k < N → k ≠ rb → W.heap[k]? = wS.heap[k]?
  bel : Below base wS W
  sz : N ≤ W.heap.size
section
variable {base N rb : Nat} {wS W W' : World} {s : Value} {R : List (Int × Int)}
theorem LSt.below (h : LSt base N rb wS s R W) (hb : Below W.heap.size W W') (hN : base ≤ N) (hr : rb < N) : LSt base N rb wS s R W' :=
  ⟨h.own.below hb, h.rr.below hb h.rr.lt, fun k hk h1 => (hb.block k (Nat.lt_of_lt_of_le hk h.sz)).trans (h.oth k hk h1), h.bel.trans (hb.mono (Nat.le_trans hN h.sz)), Nat.le_trans h.sz hb.size⟩
theorem LSt.arr (h : LSt base N rb wS s R W) {k : Nat} {t : TypeId} {cs : List Value} (ha : Arr wS k t cs) (hk : k < N) (hr : k ≠ rb) : Arr W k t cs := (h.oth k hk hr).trans ha
theorem LSt.app (h : LSt base N rb wS s R W) {s' : Value} {m : Int × Int} (ho : OwnT N W' s' (R ++ [m])) (hg : Gr N W W' s.ownBlock) (hN : base ≤ rb) (hr : rb < N) : Arr W' rb 34 [.bool false, s] ∧ LSt base N rb wS s' (R ++ [m]) (W'.setCell ⟨rb, 1, none⟩ s') := by
  have a1 := h.own.apart h.rr (by decide)
  have q1 : Arr W' rb 34 [.bool false, s] := (hg.keep _ h.rr.lt a1).trans h.rr
  have hNk : ∀ k, k < N → s.ownBlock ≠ some k := fun k hk e => by have := (h.own.lt k e).1; omega
  exact ⟨q1, ho.far (p := ⟨rb, 1, none⟩) (ho.apart q1 (by decide)) _, q1.set 1 _, fun k hk h1 => (Below.heap_setCell W' ⟨rb, 1, none⟩ s' k h1).trans ((hg.keep k (Nat.lt_of_lt_of_le hk h.sz) (hNk k hk)).trans (h.oth k hk h1)), (h.bel.trans (hg.below.mono (by omega))).setCell (p := ⟨rb, 1, none⟩) hN _, by have := Nat.le_trans h.sz hg.below.size; simpa using this⟩
end
theorem clo_sparse (Mb g base : Nat) (p q : List (Int × Int)) (lp : Lim p) (kp : Can p) (lq : Lim q) (kq : Can q) (hbg : base ≤ g) (w : World) (hbw : base ≤ w.heap.size) : CloP 53 [.pointer (some ⟨Mb, 0, none⟩)] g base p q (fun d W => MapS Mb g d W ∧ base ≤ W.heap.size) where
  eg := enters_of Tryz.func53 (by kernel_rfl) rfl
  st := fun done e c rest W h hJ => by
    have hm : (e, c) ∈ prs p q := by rw [h]; simp
    obtain ⟨s, hs, t, ht, he⟩ := prs_mem hm
    have h1 := lp.ex s hs
    have h2 := lq.ex t ht
    have h3 : e = s.1 + t.1 := congrArg Prod.fst he
    have h4 : done.length ≤ 1000000000000000 := by
      have h5 := congrArg List.length h
      rw [prs_len, List.length_append] at h5
      have h6 := Nat.mul_le_mul (lp.len kp) (lq.len kq)
      omega
    exact (spclo_any Mb g base e c done W hJ.1 (by omega) h4 hbg hJ.2).mono fun en w' ⟨a, b, o⟩ => ⟨a, ⟨b, Nat.le_trans hJ.2 o.below.size⟩, o⟩
  kp := fun done W W' h hb => ⟨h.1.kp hb, Nat.le_trans h.2 hb.size⟩
theorem OwnI.keepB {e : TypeId} {base : Nat} {w w' : World} {v : Value} {xs : List Int} (h : OwnI e base w v xs) (hk : ∀ k, v.ownBlock = some k → base ≤ k → k < w.heap.size → w'.heap[k]? = w.heap[k]?) : OwnI e base w' v xs := by
  refine ⟨h.1, ?_⟩
  rcases h.2 with h0 | ⟨b, cap, cur, rfl, hg, hh, r⟩
  · exact .inl h0
  · exact .inr ⟨b, cap, cur, rfl, hg, (hk b rfl hg (Array.getElem?_eq_some_iff.1 hh).1).trans hh, r⟩
theorem MapS.keepB {Mb g : Nat} {done : List (Int × Int)} {W W' : World} (h : MapS Mb g done W) (h1 : W'.heap[Mb]? = W.heap[Mb]?) (h2 : W'.heap[g]? = W.heap[g]?) : MapS Mb g done W' := by
  obtain ⟨D, ⟨es, clock, hh, F, hs, hD⟩, h3⟩ := h.ex
  exact ⟨h1.trans h.mm, D, ⟨es, clock, h2.trans hh, F, hs, hD⟩, h3⟩
theorem smB_cases (x : Int) : (smB x = true ∧ smN x = x ∧ -1125899906842624 ≤ x ∧ x ≤ 1125899906842624) ∨ (smB x = false ∧ ¬ (-1125899906842624 ≤ x ∧ x ≤ 1125899906842624)) := by
  by_cases h : -1125899906842624 ≤ x ∧ x ≤ 1125899906842624
  · exact .inl ⟨decide_eq_true h, by unfold smN; rw [if_pos h], h⟩
  · exact .inr ⟨decide_eq_false h, h⟩
def MulR (p q : Pol) (w : World) (e : Ending) (w' : World) : Prop := ∃ v r, e = .returned v ∧ PolyV w' v r ∧ MulP p q r ∧ Below w.heap.size w w'
set_option maxHeartbeats 4000000 in
set_option maxRecDepth 100000 in
theorem sparse_any (vp vq : Value) (p q : List (Int × Int)) (w : World) (hp : PolyV w vp (some p)) (hq : PolyV w vq (some q)) (lp : Lim p) (kp : Can p) (lq : Lim q) (kq : Can q) (hx : ∀ s ∈ p, ∀ t ∈ q, -1048576 ≤ s.1 + t.1 ∧ s.1 + t.1 ≤ 1048576) :
    Calls Tryz.prog 26 #[vp, vq] w (MulR (some p) (some q) w) := by
  have HPV := Lib.hid (fun W (hb : Below w.heap.size w W) => hp.below hb)
  have HQV := Lib.hid (fun W (hb : Below w.heap.size w W) => hq.below hb)
  have HLM := Lib.hid (And.intro (And.intro lp kp) (And.intro lq kq))
  have HX := Lib.hid hx
  obtain ⟨b1, A, n, c, rfl, j1, j2⟩ := hp.parts
  obtain ⟨b2, A2, n2, c2, rfl, j3, j4⟩ := hq.parts
  clear hp hq lp kp lq kq hx j1 j2 j3 j4
  have hW : ∀ W, W = ((((((w.alloc (.cells #[.bool b1, .slice A n c] 34)).alloc (.cells #[.bool b2, .slice A2 n2 c2] 34)).alloc (.cells #[.bool false, .slice none 0 0] 34))).alloc (.map #[] 0)).alloc (.cells #[.map (some (w.heap.size + 3))] 94)) → (MapS (w.heap.size + 4) (w.heap.size + 3) [] W ∧ w.heap.size ≤ W.heap.size) ∧ Arr W w.heap.size 34 [.bool b1, .slice A n c] ∧ Arr W (w.heap.size + 1) 34 [.bool b2, .slice A2 n2 c2] ∧ Arr W (w.heap.size + 2) 34 [.bool false, .slice none 0 0] ∧ Below w.heap.size w W ∧ W.heap.size = w.heap.size + 5 := by
    intro W hW
    subst hW
    have e3 : (((w.alloc (.cells #[.bool b1, .slice A n c] 34)).alloc (.cells #[.bool b2, .slice A2 n2 c2] 34)).alloc (.cells #[.bool false, .slice none 0 0] 34)).heap.size = w.heap.size + 3 := by simp
    have hm := World.ownsMap_made (((w.alloc (.cells #[.bool b1, .slice A n c] 34)).alloc (.cells #[.bool b2, .slice A2 n2 c2] 34)).alloc (.cells #[.bool false, .slice none 0 0] 34)) Tryz.prog 3 wElem
    rw [e3] at hm
    exact ⟨⟨⟨Arr.newAt (((((w.alloc _).alloc _).alloc _)).alloc _) _ [_] _ (by simp), _, hm.alloc _, MD.start⟩, by simp; omega⟩, ((((Arr.new _ _ [_, _]).alloc _).alloc _).alloc _).alloc _, (((Arr.newAt (w.alloc _) _ [_, _] _ (by simp)).alloc _).alloc _).alloc _, ((Arr.newAt ((w.alloc _).alloc _) _ [_, _] _ (by simp)).alloc _).alloc _, (((((Below.refl _ _).alloc (Nat.le_refl _) _).alloc (by simp) _).alloc (by simp <;> omega) _).alloc (by simp <;> omega) _).alloc (by simp <;> omega) _, by simp⟩
  have hmm := @run_makeMap Tryz.prog
  go_enter Tryz.func26, Tryz.ntmps26
  go_upto_region 2 with fail
  generalize ((((((w.alloc (.cells #[.bool b1, .slice A n c] 34)).alloc (.cells #[.bool b2, .slice A2 n2 c2] 34)).alloc (.cells #[.bool false, .slice none 0 0] 34))).alloc (.map #[] 0)).alloc (.cells #[.map (some (w.heap.size + 1 + 1 + 1))] 94)) = w3 at hW ⊢
  obtain ⟨hj3, qp, qq, qr, hb3, hs3⟩ := hW w3 rfl
  have HPR := Lib.hid (products_reg1 53 (.pointer (some ⟨w.heap.size + 4, 0, none⟩)) (w.heap.size + 3) w.heap.size p q _ (clo_sparse (w.heap.size + 4) (w.heap.size + 3) w.heap.size p q HLM.out.1.1 HLM.out.1.2 HLM.out.2.1 HLM.out.2.2 (by omega) w (Nat.le_refl _)) (.agg #[.bool b1, .slice A n c]) (.agg #[.bool b2, .slice A2 n2 c2]) w3 (fun W hb => HPV.out W (hb3.trans hb)) (fun W hb => HQV.out W (hb3.trans hb)) HLM.out.1.1 HLM.out.1.2 HLM.out.2.1 HLM.out.2.2 (by omega) (by omega) hj3)
  have HQR := Lib.hid qr
  have HB3 := Lib.hid hb3
  have HS3 := Lib.hid hs3
  have y0 := qp.cell 0
  have y1 := qp.cell 1
  have y2 := qq.cell 0
  have y3 := qq.cell 1
  clear hW hj3 hb3 qp qq qr hmm hs3
  go_wp2_with fail
  refine HPR.out.mono ?_
  rintro e w4 ⟨rfl, hj4, ho4⟩
  have HJ4 := Lib.hid hj4.1
  have HB4 := Lib.hid (HB3.out.trans ho4.below)
  have HQ4 := Lib.hid (ho4.at_ HQR.out (by omega))
  have HS4 := Lib.hid (show w.heap.size + 5 ≤ w4.heap.size from by have := ho4.below.size; have := HS3.out; omega)
  clear HPR hj4 ho4 y0 y1 y2 y3 HQR HB3 HS3
  have hW5 : ∀ W, W = w4.alloc (.cells #[.bool false, .slice none 0 0] 34) → MapS (w.heap.size + 4) (w.heap.size + 3) (prs p q) W ∧ Arr W (w.heap.size + 2) 34 [.bool false, .slice none 0 0] ∧ Arr W w4.heap.size 34 [.bool false, .slice none 0 0] ∧ Below w.heap.size w W ∧ W.heap.size = w4.heap.size + 1 := by
    intro W hW
    subst hW
    have hb : Below w4.heap.size w4 (w4.alloc (.cells #[.bool false, .slice none 0 0] 34)) := (Below.refl _ _).alloc (Nat.le_refl _) _
    exact ⟨HJ4.out.kp hb, HQ4.out.below hb HQ4.out.lt, Arr.new _ _ [_, _], HB4.out.trans (hb.mono (by have := HS4.out; omega)), by simp⟩
  go_upto_region 4 with fail
  generalize (w4.alloc (.cells #[.bool false, .slice none 0 0] 34)) = w5 at hW5 ⊢
  obtain ⟨hj5, qr5, qb5, hb5, hs5⟩ := hW5 w5 rfl
  obtain ⟨rb, hrb⟩ : ∃ r, r = w4.heap.size := ⟨_, rfl⟩
  rw [← hrb] at qb5 hs5 HS4 ⊢
  obtain ⟨D, hD1, hD2⟩ := hj5.ex
  have hsize : Maps.size D ≤ 4398058045449 := by
    have h1 := MD.size_le hD1
    have h2 := Nat.mul_le_mul (HLM.out.1.1.len HLM.out.1.2) (HLM.out.2.1.len HLM.out.2.2)
    rw [prs_len] at h1
    omega
  have HSO := Lib.hid (sorted_any (w.heap.size + 3) _ D wElem w5 hD1 (by unfold maxLen; omega) (by omega))
  have HKL := Lib.hid (fun ss (h : List.Perm ss (intKeys D)) => hD2.keys hD1 h)
  have HKY := Lib.hid (keys_any (some (w.heap.size + 3)) w5)
  have HJ5 := Lib.hid hj5
  have HQ5 := Lib.hid qr5
  have HR5 := Lib.hid qb5
  have HB5 := Lib.hid hb5
  have HS5 := Lib.hid hs5
  have y0 := hj5.mm.cell 0
  clear hW5 hj5 qr5 qb5 hb5 hs5 hrb hD1 hD2 hsize HJ4 HQ4 HB4
  go_wp2_with fail
  refine HKY.out.mono ?_
  rintro e w6 ⟨rfl, rfl⟩
  go_wp2_with fail
  refine HSO.out.mono ?_
  rintro e w7 ⟨v, ss, rfl, hperm, hrow, _, hb7⟩
  have hks := HKL.out ss hperm
  have hln : ss.length = (keysL (prs p q)).length := by rw [← hks, List.length_mergeSort]
  have HOW := Lib.hid (show OwnI 3 (w5.heap.size + 1) w7 v (keysL (prs p q)) from by
    unfold OwnI
    rw [hks, hln] at hrow
    simpa [encZ] using hrow)
  have hb57 : Below w5.heap.size w5 w7 := ((Below.refl _ _).alloc (Nat.le_refl _) _).trans (hb7.mono (by simp))
  have HJ7 := Lib.hid (HJ5.out.kp hb57)
  have HQ7 := Lib.hid (HQ5.out.below hb57 HQ5.out.lt)
  have HB7 := Lib.hid (HB5.out.trans (hb57.mono HB5.out.size))
  have HS7 := Lib.hid (show w5.heap.size ≤ w7.heap.size ∧ w.heap.size + 5 ≤ rb ∧ rb < w5.heap.size from ⟨hb57.size, HS4.out, by have := HS5.out; omega⟩)
  have HST := Lib.hid (show LSt w.heap.size w7.heap.size rb w7 (.slice none 0 0) [] w7 from ⟨OwnT.nil _ _, HR5.out.below hb57 HR5.out.lt, fun _ _ _ => rfl, Below.refl _ _, Nat.le_refl _⟩)
  have HF := Lib.hid (show ∀ e, cf (prs p q) e = cv p q e from cf_prs p q)
  have HBD := Lib.hid (HLM.out.1.1.cvbd HLM.out.1.2 HLM.out.2.1 HLM.out.2.2)
  have HKX := Lib.hid (show ∀ e ∈ keysL (prs p q), -1048576 ≤ e ∧ e ≤ 1048576 from fun e he => by
    obtain ⟨u, hu, he2⟩ := keysL_mem.1 he
    obtain ⟨s, hs, t, ht, rfl⟩ := prs_mem hu
    rw [← he2]; exact HX.out s hs t ht)
  have HLN := Lib.hid (show ∀ k, (spF (cv p q) ((keysL (prs p q)).take k)).length ≤ 100000000 from fun k => by
    have h1 := srt_len (a := -1048576) (b := 1048576) (spF_can (F := cv p q) (List.Pairwise.sublist (List.take_sublist k _) (keysL_srt (prs p q)))).srt (fun t ht => HKX.out _ (List.mem_of_mem_take (spF_mem ht).1)) (by omega)
    omega)
  have HKN := Lib.hid (show (keysL (prs p q)).length ≤ 4398058045449 from by
    have h1 := keysL_len (prs p q)
    have h2 := Nat.mul_le_mul (HLM.out.1.1.len HLM.out.1.2) (HLM.out.2.1.len HLM.out.2.2)
    rw [prs_len] at h1
    omega)
  have HEND := Lib.hid (show (∀ e ∈ keysL (prs p q), -1125899906842624 ≤ cv p q e ∧ cv p q e ≤ 1125899906842624) → MulP (some p) (some q) (some (spF (cv p q) (keysL (prs p q)))) from mul_ends HX.out)
  have HBAD := Lib.hid (show ∀ e, ¬ (-1125899906842624 ≤ cv p q e ∧ cv p q e ≤ 1125899906842624) → MulP (some p) (some q) none from fun e h => mul_bad h)
  obtain ⟨KL, hKL⟩ : ∃ l, l = keysL (prs p q) := ⟨_, rfl⟩
  obtain ⟨F, hFF⟩ : ∃ f, f = cv p q := ⟨_, rfl⟩
  rw [← hKL] at HOW HKX HLN HKN HEND
  rw [← hFF] at HF HBD HLN HEND HBAD
  obtain ⟨Ak, ck, rfl⟩ := HOW.out.form
  clear hks hln hperm hrow hb7 hb57 HKL hKL hFF HSO HKY HJ5 HQ5 HR5 HB5 HS4 HS5 HX HLM HPV HQV y0
  have hkn := HKN.out
  go_wp2_with fail
  go_loopg [8, 9, 10, 20] KL.length (fun gk s8 s9 s10 s20 wr => ∃ (k : Nat) (s : Value), k ≤ KL.length ∧ gk = KL.length - k ∧ s20 = .int .i64 (k : Int) ∧ LSt w.heap.size w7.heap.size rb w7 s (spF F (KL.take k)) wr ∧ Hid (∀ e ∈ KL.take k, -1125899906842624 ≤ F e ∧ F e ≤ 1125899906842624))
  case atStart => exact ⟨0, _, Nat.zero_le _, rfl, rfl, HST.out, Lib.hid (fun e h => by simp at h)⟩
  case round =>
    clear HST
    obtain ⟨k, s, hk, rfl, rfl, hst, HK⟩ := hrel
    by_cases hlt : k < KL.length
    · have z1 : (k : Int) < (KL.length : Int) := by omega
      have h57 := HS7.out
      have HIN := Lib.hid (HOW.out.keepB (fun j _ h1 h2 => hst.oth j h2 (by omega))).ints
      have hm := HJ7.out.keepB (hst.oth (w.heap.size + 4) (by omega) (by omega)) (hst.oth (w.heap.size + 3) (by omega) (by omega))
      have hex := HKX.out _ (List.getElem_mem hlt)
      have hlk := hm.look (e := KL[k]) (by omega)
      have ym := hm.mm.cell 0
      rw [HF.out] at hlk
      have hbd := HBD.out KL[k]
      have HSM := Lib.hid (fun W => wsmall_any (F KL[k]) W (by omega) (by omega))
      have HSN := Lib.hid (show spF F (KL.take (k + 1)) = spF F (KL.take k) ++ if F KL[k] = 0 then [] else [(KL[k], F KL[k])] from by
        rw [List.take_add_one, List.getElem?_eq_getElem hlt, Option.toList_some, spF_snoc])
      have HKN2 := Lib.hid (show (-1125899906842624 ≤ F KL[k] ∧ F KL[k] ≤ 1125899906842624) → ∀ e ∈ KL.take (k + 1), -1125899906842624 ≤ F e ∧ F e ≤ 1125899906842624 from fun h e he => by
        rw [List.take_add_one, List.getElem?_eq_getElem hlt, Option.toList_some] at he
        rcases List.mem_append.1 he with he | he
        · exact HK.out e he
        · rw [List.mem_singleton.1 he]; exact h)
      obtain ⟨b, o, ⟨c', hv⟩, _, hcell⟩ := ints_atZ HIN.out hlt
      injection hv with hv1 hv2 hv3
      subst hv1 hv3
      clear hv2 HIN hm hbd HK
      have HRL := Lib.hid (HLN.out k)
      generalize hR : spF F (KL.take k) = R at *
      clear hR
      generalize KL[k] = x at *
      have qr := hst.arr HQ7.out (by omega) (by omega)
      have HB := Lib.hid (HB7.out.trans hst.bel)
      have HST := Lib.hid hst
      obtain ⟨Ax, nx, cx, rfl⟩ := hst.own.form3
      have HQ := Lib.hid qr
      clear hst qr
      rcases smB_cases (F x) with ⟨g1, g2, g3⟩ | ⟨g1, g2⟩
      · have HG3 := Lib.hid g3
        have HK3 := Lib.hid (HKN2.out g3)
        rw [g1, g2] at HSM
        clear g1 g2 HKN2
        generalize F x = cx_ at *
        go_wp2_with fail
        refine (HSM.out _).mono ?_
        rintro e w8 ⟨rfl, hb8⟩
        have hst8 := HST.out.below hb8 (by omega) (by omega)
        have HST8 := Lib.hid hst8
        clear HSM hlk ym hcell hb8 HST HB HQ
        have q1 := hst8.rr
        have y1 := q1.cell 1
        by_cases h0 : cx_ = 0
        · have z2 : (cx_ != 0) = false := by simp [h0]
          have HS2 := Lib.hid (show spF F (KL.take (k + 1)) = R by rw [HSN.out, if_pos h0, List.append_nil])
          clear h0 HSN hst8 q1 y1
          go_wp2_with fail
          go_roundg (KL.length - (k + 1))
          case measure => omega
          case rel => exact ⟨k + 1, _, by omega, rfl, by go_num, by rw [HS2.out]; exact HST8.out, HK3⟩
        · have z2 : (cx_ != 0) = true := by simp [h0]
          have HS2 := Lib.hid (show spF F (KL.take (k + 1)) = R ++ [(x, cx_)] by rw [HSN.out, if_neg h0])
          have HUU := Lib.hid (Arr.new w8 51 [.int .i64 x, .int .i64 cx_])
          have HSA := Lib.hid (hst8.below ((Below.refl _ _).alloc (Nat.le_refl _) (.cells #[.int .i64 x, .int .i64 cx_] 51)) (by omega) (by omega))
          have HSZ := Lib.hid HSA.out.sz
          have HRB := Lib.hid (show w.heap.size ≤ rb ∧ rb < w7.heap.size by omega)
          clear h0 HSN hst8 q1
          go_wp2_with (at_builtin; refine wpList_appT rfl (.tmp 37) (.tmp 41) rfl rfl HSA.out.own (m := (x, cx_)) rfl HUU.out HRL.out HSZ.out ?_; intro v' w1 hown1 hgr1; obtain ⟨q1, h2⟩ := HSA.out.app hown1 hgr1 HRB.out.1 HRB.out.2; obtain ⟨Av, nv, cv, rfl⟩ := hown1.form3; have HN := Lib.hid h2; have f1 := q1.frozen 1; have yq := q1.cell 1; clear hown1 hgr1 q1 h2)
          go_roundg (KL.length - (k + 1))
          case measure => omega
          case rel => exact ⟨k + 1, _, by omega, rfl, by go_num, by rw [HS2.out]; exact HN.out, HK3⟩
      · have HBD2 := Lib.hid (HBAD.out x g2)
        rw [g1] at HSM
        clear g1 g2 HKN2 HSN
        generalize F x = cx_ at *
        generalize smN cx_ = sn at *
        go_wp2_with fail
        refine (HSM.out _).mono ?_
        rintro e w8 ⟨rfl, hb8⟩
        have qr := HQ.out.below hb8 HQ.out.lt
        have f0 := qr.frozen 0
        have f1 := qr.frozen 1
        have x0 := qr.cell 0
        have x1 := qr.cell 1
        have HRS := Lib.hid ((qr.set 0 (.bool true)).set 1 (.slice none 0 0))
        have HBE := Lib.hid (((HB.out.trans (hb8.mono HB.out.size)).setCell (p := ⟨w.heap.size + 2, 0, none⟩) (by show w.heap.size ≤ w.heap.size + 2; omega) (.bool true)).setCell (p := ⟨w.heap.size + 2, 1, none⟩) (by show w.heap.size ≤ w.heap.size + 2; omega) (.slice none 0 0))
        clear HSM hlk ym hcell hb8 HST HB HQ qr
        go_wp2_with fail
        refine bodyPost_ret (v := .agg #[.bool true, .slice none 0 0]) (results_c Tryz.results26 _ _ (w.heap.size + 2) 34 _ _ rfl HRS.out Tryz.underlying34 rfl info_poly) rfl ?_
        exact ⟨_, _, rfl, PolyV.big _, HBD2.out, HBE.out⟩
    · have z1 : ¬ (k : Int) < (KL.length : Int) := by omega
      have hkk : KL.take k = KL := List.take_of_length_le (by omega)
      have HE := Lib.hid (HEND.out (by have := HK.out; rwa [hkk] at this))
      rw [hkk] at hst
      obtain ⟨Ax, cx, rfl⟩ := hst.own.form
      have qr := hst.arr HQ7.out (by have := HS7.out; omega) (by have := HS7.out; omega)
      have q1 := hst.rr
      have y0 := q1.cell 0
      have y1 := q1.cell 1
      have f0 := qr.frozen 0
      have f1 := qr.frozen 1
      have x0 := qr.cell 0
      have x1 := qr.cell 1
      have HRS := Lib.hid ((qr.set 0 (.bool false)).set 1 (.slice Ax (spF F KL).length cx))
      have HPB := Lib.hid ((PolyV.own hst.own).box qr (.bool false) (.slice Ax (spF F KL).length cx))
      have HBE := Lib.hid (((HB7.out.trans hst.bel).setCell (p := ⟨w.heap.size + 2, 0, none⟩) (by show w.heap.size ≤ w.heap.size + 2; omega) (.bool false)).setCell (p := ⟨w.heap.size + 2, 1, none⟩) (by show w.heap.size ≤ w.heap.size + 2; omega) (.slice Ax (spF F KL).length cx))
      clear hst qr q1 hkk
      go_wp2_with fail
      refine bodyPost_ret (v := .agg #[.bool false, .slice Ax (spF F KL).length cx]) (results_c Tryz.results26 _ _ (w.heap.size + 2) 34 _ _ rfl HRS.out Tryz.underlying34 rfl info_poly) rfl ?_
      exact ⟨_, _, rfl, HPB.out, HE.out, HBE.out⟩
end
end Go.Proofs.YtnmidhlghhephaaGreatDoor

namespace Go.Proofs.YtnmidhlghhephaaGreatDoor
open Go.RowKit
set_option linter.unusedVariables false
end Go.Proofs.YtnmidhlghhephaaGreatDoor

namespace Go.Proofs.YtnmidhlghhephaaGreatDoor
open Go.RowKit
set_option linter.unusedVariables false
theorem lowL_le {l : List (Int × Int)} (h : Srt l) : ∀ t ∈ l, lowL l ≤ t.1 := by
  cases l with
  | nil => intro t h; cases h
  | cons s l =>
    intro t ht
    show s.1 ≤ t.1
    rcases List.mem_cons.1 ht with rfl | ht
    · omega
    · have := (List.pairwise_cons.1 h).1 t ht; omega
theorem highL_ge {l : List (Int × Int)} (h : Srt l) : ∀ t ∈ l, t.1 ≤ highL l := by
  intro t ht
  have h0 : 0 < l.length := List.length_pos_of_mem ht
  rw [highL_0 h0]
  obtain ⟨i, hi, rfl⟩ := List.getElem_of_mem ht
  by_cases e : i = l.length - 1
  · subst e; exact Int.le_refl _
  · have := List.pairwise_iff_getElem.1 h i (l.length - 1) hi (by omega) (by omega); omega
theorem lowhigh {l : List (Int × Int)} (h : Srt l) : lowL l ≤ highL l := by
  cases l with
  | nil => exact Int.le_refl _
  | cons s l => exact highL_ge h s (List.mem_cons_self ..)
theorem lowL_bd {l : List (Int × Int)} (h : Lim l) : -1048576 ≤ lowL l ∧ lowL l ≤ 1048576 := by
  cases l with
  | nil => exact ⟨by decide, by decide⟩
  | cons s l => exact h.ex s (List.mem_cons_self ..)
theorem highL_bd {l : List (Int × Int)} (h : Lim l) : -1048576 ≤ highL l ∧ highL l ≤ 1048576 := by
  rcases Nat.eq_zero_or_pos l.length with h0 | h0
  · rw [List.eq_nil_of_length_eq_zero h0]; exact ⟨by decide, by decide⟩
  · rw [highL_0 h0]; exact h.ex _ (List.getElem_mem _)
end Go.Proofs.YtnmidhlghhephaaGreatDoor

namespace Go.Proofs.YtnmidhlghhephaaGreatDoor
open Go.RowKit
set_option linter.unusedVariables false
theorem mulP_none_left (q : Pol) : MulP none q none := by cases q <;> rfl
theorem mulP_none_right (p : Pol) : MulP p none none := by cases p <;> rfl
theorem mulP_nil_left (q : List (Int × Int)) : MulP (some []) (some q) (some []) := .inl ⟨[], rfl, Can.nil, Lim.nil, fun e => (cv_nil q e).symm⟩
theorem mulP_nil_right (p : List (Int × Int)) : MulP (some p) (some []) (some []) := .inl ⟨[], rfl, Can.nil, Lim.nil, fun e => rfl⟩
theorem wrow_zero (low : Int) (n : Nat) : wrow (cf []) low n = List.replicate (n * 2) (.int .u64 0) := by
  rw [List.eq_replicate_iff]
  refine ⟨wrow_len _ _ _, fun v hv => ?_⟩
  unfold wrow at hv
  obtain ⟨k, _, hk⟩ := List.mem_flatMap.1 hv
  simp only [cf_nil, wc, List.mem_cons, List.not_mem_nil, or_false] at hk
  rcases hk with rfl | rfl <;> rfl
theorem made_wide (low : Int) (n : Nat) : madeCells #[.int .u64 0, .int .u64 0] (n * 2) = rowOf (wrow (cf []) low n) := by
  rw [wrow_zero]
  unfold rowOf madeCells
  apply Array.ext
  · simp
  · intro i h1 h2
    simp only [List.getElem_toArray, List.getElem_replicate, Array.getElem_map, Array.getElem_range]
    have h3 : i % 2 = 0 ∨ i % 2 = 1 := by omega
    rcases h3 with h3 | h3 <;> simp [h3]
theorem info_wide3 : (Tryz.prog.info? 61).map (fun i => (i.zero, i.size, i.bytes)) = some (some (.agg #[.int .u64 0, .int .u64 0]), 2, 16) := by kernel_rfl
theorem run_make_wide (low : Int) (n : Nat) (hn : n ≤ 10000000) (W : World) : (Instr.makeSlice 57 (.int .i64 (n : Int)) (.int .i64 (n : Int))).run Tryz.prog W = .ok (.slice (some ⟨W.heap.size, 0, none⟩) n n) (W.alloc (.cells (rowOf (wrow (cf []) low n)) 61)) := by
  obtain ⟨i, hi, hz, hs, hby⟩ := info_parts info_wide3
  have h := run_make (P := Tryz.prog) W 57 61 i (.agg #[.int .u64 0, .int .u64 0]) Tryz.underlying57 hi hz .i64 .i64 (n : Int) (n : Int) (by omega) (Int.le_refl _) (by rw [hby]; omega) (by omega)
  rw [hs, Int.toNat_natCast, show (Value.agg #[.int .u64 0, .int .u64 0]).cells = #[.int .u64 0, .int .u64 0] from rfl, made_wide low n] at h
  exact h
theorem clo_dense (Sb Lb g n base : Nat) (low : Int) (p q : List (Int × Int)) (hin : ∀ s ∈ p, ∀ t ∈ q, low ≤ s.1 + t.1 ∧ s.1 + t.1 < low + n) (hn : n ≤ 1000000000) (hlo : -1000000000 ≤ low ∧ low ≤ 1000000000) (hgS : g ≠ Sb) (hgL : g ≠ Lb) (hbg : base ≤ g) : CloP 28 [.pointer (some ⟨Sb, 0, none⟩), .pointer (some ⟨Lb, 0, none⟩)] g base p q (fun d W => SumS Sb Lb g n low d W ∧ base ≤ W.heap.size) where
  eg := enters_of Tryz.func28 (by kernel_rfl) rfl
  st := fun done e c rest W h hJ => by
    have hm : (e, c) ∈ prs p q := by rw [h]; simp
    obtain ⟨s, hs, t, ht, he⟩ := prs_mem hm
    have h1 := hin s hs t ht
    have h3 : e = s.1 + t.1 := congrArg Prod.fst he
    exact (mulclo_any Sb Lb g n base low e c (e - low).toNat done W hJ.1 (by omega) (by omega) hn hlo hgS hgL hbg hJ.2).mono fun en w' ⟨a, b, o⟩ => ⟨a, ⟨b, Nat.le_trans hJ.2 o.below.size⟩, o⟩
  kp := fun done W W' h hb => ⟨h.1.kp hb, Nat.le_trans h.2 hb.size⟩
set_option maxHeartbeats 4000000 in
set_option maxRecDepth 100000 in
theorem Mul_some (vp vq : Value) (p q : List (Int × Int)) (w : World) (hp : PolyV w vp (some p)) (hq : PolyV w vq (some q)) (lp : Lim p) (kp : Can p) (lq : Lim q) (kq : Can q) (hnp : 0 < p.length) (hnq : 0 < q.length) :
    Calls Tryz.prog 11 #[vp, vq] w (MulR (some p) (some q) w) := by
  have HPV := Lib.hid (fun W (hb : Below w.heap.size w W) => hp.below hb)
  have HQV := Lib.hid (fun W (hb : Below w.heap.size w W) => hq.below hb)
  have HLM := Lib.hid (And.intro (And.intro lp kp) (And.intro lq kq))
  have hp2 := hp
  have hq2 := hq
  obtain ⟨A, c, rfl, _⟩ := hp2
  obtain ⟨A2, c2, rfl, _⟩ := hq2
  simp only [Option.isNone_some, Option.getD_some] at HPV HQV ⊢
  have hl1 := lowL_bd lp
  have hl2 := lowL_bd lq
  have hh1 := highL_bd lp
  have hh2 := highL_bd lq
  have HIN := Lib.hid (show ∀ s ∈ p, ∀ t ∈ q, lowL p + lowL q ≤ s.1 + t.1 ∧ s.1 + t.1 ≤ highL p + highL q from fun s hs t ht => by
    have := lowL_le kp.srt s hs
    have := lowL_le kq.srt t ht
    have := highL_ge kp.srt s hs
    have := highL_ge kq.srt t ht
    omega)
  have HEX := Lib.hid (show (∃ s ∈ p, ∃ t ∈ q, s.1 + t.1 = lowL p + lowL q) ∧ (∃ s ∈ p, ∃ t ∈ q, s.1 + t.1 = highL p + highL q) from ⟨⟨p[0], List.getElem_mem hnp, q[0], List.getElem_mem hnq, by rw [lowL_0 hnp, lowL_0 hnq]⟩, ⟨p[p.length - 1], List.getElem_mem (by omega), q[q.length - 1], List.getElem_mem (by omega), by rw [highL_0 hnp, highL_0 hnq]⟩⟩)
  have hlh := And.intro (lowhigh kp.srt) (lowhigh kq.srt)
  have hlen := And.intro (lp.len kp) (lq.len kq)
  obtain ⟨n, hn⟩ : ∃ n, n = p.length := ⟨_, rfl⟩
  obtain ⟨n2, hn2⟩ : ∃ n, n = q.length := ⟨_, rfl⟩
  rw [← hn] at HPV hlen hnp ⊢
  rw [← hn2] at HQV hlen hnq ⊢
  have HN := Lib.hid (And.intro hn hn2)
  have hW : ∀ W, W = (((w.alloc (.cells #[.bool false, .slice A n c] 34)).alloc (.cells #[.bool false, .slice A2 n2 c2] 34)).alloc (.cells #[.bool false, .slice none 0 0] 34)) → Arr W w.heap.size 34 [.bool false, .slice A n c] ∧ Arr W (w.heap.size + 1) 34 [.bool false, .slice A2 n2 c2] ∧ Arr W (w.heap.size + 2) 34 [.bool false, .slice none 0 0] ∧ Below w.heap.size w W ∧ W.heap.size = w.heap.size + 3 := by
    intro W hW
    subst hW
    exact ⟨((Arr.new _ _ [_, _]).alloc _).alloc _, (Arr.newAt (w.alloc _) _ [_, _] _ (by simp)).alloc _, Arr.newAt ((w.alloc _).alloc _) _ [_, _] _ (by simp), (((Below.refl _ _).alloc (Nat.le_refl _) _).alloc (by simp) _).alloc (by simp <;> omega) _, by simp⟩
  have zn : ((n : Int) == 0) = false := by simp; omega
  have zn2 : ((n2 : Int) == 0) = false := by simp; omega
  clear hp hq lp kp lq kq hn hn2
  go_enter Tryz.func11, Tryz.ntmps11
  go_upto_region 1 with fail
  generalize (((w.alloc (.cells #[.bool false, .slice A n c] 34)).alloc (.cells #[.bool false, .slice A2 n2 c2] 34)).alloc (.cells #[.bool false, .slice none 0 0] 34)) = w3 at hW ⊢
  obtain ⟨q0, q1, q2, hb3, hs3⟩ := hW w3 rfl
  clear hW
  have Q0 := Lib.hid q0
  have Q1 := Lib.hid q1
  have Q2 := Lib.hid q2
  have HB3 := Lib.hid hb3
  have HS3 := Lib.hid hs3
  have HLP := Lib.hid (fun W (hb : Below w3.heap.size w3 W) => Low_any (.agg #[.bool false, .slice A n c]) (some p) W (HPV.out W (hb3.trans (hb.mono hb3.size))) ⟨HLM.out.1.2, HLM.out.1.1⟩)
  have HLQ := Lib.hid (fun W (hb : Below w3.heap.size w3 W) => Low_any (.agg #[.bool false, .slice A2 n2 c2]) (some q) W (HQV.out W (hb3.trans (hb.mono hb3.size))) ⟨HLM.out.2.2, HLM.out.2.1⟩)
  have HHP := Lib.hid (fun W (hb : Below w3.heap.size w3 W) => High_any (.agg #[.bool false, .slice A n c]) (some p) W (HPV.out W (hb3.trans (hb.mono hb3.size))) ⟨HLM.out.1.2, HLM.out.1.1⟩)
  have HHQ := Lib.hid (fun W (hb : Below w3.heap.size w3 W) => High_any (.agg #[.bool false, .slice A2 n2 c2]) (some q) W (HQV.out W (hb3.trans (hb.mono hb3.size))) ⟨HLM.out.2.2, HLM.out.2.1⟩)
  simp only [Option.getD_some] at HLP HLQ HHP HHQ
  have y0 := q0.cell 0
  have y1 := q0.cell 1
  have y2 := q1.cell 0
  have y3 := q1.cell 1
  go_upto_region 5 with fail
  have HLLQ := Lib.hid (show lowL p = lowL p from rfl)
  obtain ⟨lo1, hlo1⟩ : ∃ x, x = lowL p := ⟨_, rfl⟩
  obtain ⟨lo2, hlo2⟩ : ∃ x, x = lowL q := ⟨_, rfl⟩
  obtain ⟨hi1, hhi1⟩ : ∃ x, x = highL p := ⟨_, rfl⟩
  obtain ⟨hi2, hhi2⟩ : ∃ x, x = highL q := ⟨_, rfl⟩
  rw [← hlo1] at hl1 hlh HLP HIN HEX
  rw [← hlo2] at hl2 hlh HLQ HIN HEX
  rw [← hhi1] at hh1 hlh HHP HIN HEX
  rw [← hhi2] at hh2 hlh HHQ HIN HEX
  obtain ⟨lo, hlo⟩ : ∃ x, x = lo1 + lo2 := ⟨_, rfl⟩
  obtain ⟨hi, hhi⟩ : ∃ x, x = hi1 + hi2 := ⟨_, rfl⟩
  rw [← hlo, ← hhi] at HIN HEX
  have HWL := Lib.hid (show IntKind.i64.wrap (lo1 + lo2) = lo by rw [hlo]; exact IntWalk.i64_in _ (by omega))
  have HWH := Lib.hid (show IntKind.i64.wrap (hi1 + hi2) = hi by rw [hhi]; exact IntWalk.i64_in _ (by omega))
  have hlb : -2097152 ≤ lo ∧ lo ≤ hi ∧ hi ≤ 2097152 := by omega
  clear HLLQ hlo1 hlo2 hhi1 hhi2 hlo hhi hl1 hl2 hh1 hh2 hlh q0 q1 q2 hb3 hs3 y0 y1 y2 y3
  go_cut [5, 6] (fun s5 s6 wx => ∃ g, s5 = .pointer (some ⟨g, 0, none⟩) ∧ s6 = .int .i64 hi ∧ w3.heap.size ≤ g ∧ Arr wx g 3 [.int .i64 lo] ∧ Below w3.heap.size w3 wx)
  case first =>
    refine wp_region_phil 11 (fun i => decide (i = 9) || decide (i = 12)) (by kernel_rfl) (by kernel_rfl) (by kernel_rfl) (by kernel_rfl) (by kernel_rfl) rfl (by simp) (by kernel_rfl) (fun i => ([some (.agg #[.bool false, .slice A n c]), some (.int .i64 lo1), some (.agg #[.bool false, .slice A2 n2 c2]), some (.int .i64 lo2), some (.int .i64 lo), some (.agg #[.bool false, .slice A n c]), some (.int .i64 hi1), some (.agg #[.bool false, .slice A2 n2 c2]), some (.int .i64 hi2), some (.int .i64 hi), none, none, some (.int .i64 hi)] : List (Option Value)).getD i none) (phiT (fun i => ([some (.agg #[.bool false, .slice A n c]), some (.int .i64 lo1), some (.agg #[.bool false, .slice A2 n2 c2]), some (.int .i64 lo2), some (.int .i64 lo), some (.agg #[.bool false, .slice A n c]), some (.int .i64 hi1), some (.agg #[.bool false, .slice A2 n2 c2]), some (.int .i64 hi2), some (.int .i64 hi), none, none, some (.int .i64 hi)] : List (Option Value)).getD i none) (fun i v w => (if i = 10 then (fun v w => ∃ g, v = .pointer (some ⟨g, 0, none⟩) ∧ w3.heap.size ≤ g ∧ Arr w g 3 [.int .i64 0]) v w else True))) (fun i v w w' h hb => ?_) (fun i u v w h he => ?_) (fun x W => ∃ g, x 10 = .pointer (some ⟨g, 0, none⟩) ∧ w3.heap.size ≤ g ∧ Arr W g 3 [.int .i64 lo] ∧ Below w3.heap.size w3 W) (fun x w i v hl h => ?_) ⟨?_, ?_, ?_, ?_, ?_, ?_, ?_, ?_, ?_, ?_, ?_, ?_, ?_, trivial⟩ ?_
    · unfold phiT at h ⊢
      split
      · next u hu => rw [hu] at h; exact h
      · next hu =>
        rw [hu] at h
        simp only at h ⊢
        by_cases q10 : i = 10
        · rw [if_pos q10] at h ⊢; exact by obtain ⟨g, h1, h2, h3⟩ := h; exact ⟨g, h1, h2, h3.below hb h3.lt⟩
        · rw [if_neg q10] at h ⊢
          trivial
    · exact phiT_val h he
    · simp only [Bool.or_eq_true, decide_eq_true_eq, Bool.false_eq_true] at hl
      rcases hl with rfl | rfl
      · exact by simpa [upd] using h
      · exact by simpa [upd] using h
    · intro x w1 bA hold hb
      refine ⟨fun _ _ hbel hdep => ?_, fun h => absurd h (by decide), fun h => absurd h (by decide)⟩
      have e2 : bA.tmps[2]?.getD undef = .pointer (some ⟨w.heap.size, 0, none⟩) := hb 2
      have cc0 := (Q0.out.below hbel Q0.out.lt).cell 0
      have cc1 := (Q0.out.below hbel Q0.out.lt).cell 1
      refine phi_run (.agg #[.bool false, .slice A n c]) ?_ rfl
      clear hb hdep hold
      go_simp
    · intro x w1 bA hold hb
      refine ⟨fun _ _ hbel hdep => ?_, fun h => absurd h (by decide), fun h => absurd h (by decide)⟩
      have e31 : bA.tmps[31]?.getD undef = .agg #[.bool false, .slice A n c] := (hb 31).trans (hdep 0 (by decide))
      refine phi_call ?_ ((HLP.out w1 hbel).mono fun e w' h => ⟨_, h.1, h.2, rfl⟩)
      clear hb hdep hold
      go_simp
    · intro x w1 bA hold hb
      refine ⟨fun _ _ hbel hdep => ?_, fun h => absurd h (by decide), fun h => absurd h (by decide)⟩
      have e3 : bA.tmps[3]?.getD undef = .pointer (some ⟨w.heap.size + 1, 0, none⟩) := hb 3
      have cc0 := (Q1.out.below hbel Q1.out.lt).cell 0
      have cc1 := (Q1.out.below hbel Q1.out.lt).cell 1
      refine phi_run (.agg #[.bool false, .slice A2 n2 c2]) ?_ rfl
      clear hb hdep hold
      go_simp
    · intro x w1 bA hold hb
      refine ⟨fun _ _ hbel hdep => ?_, fun h => absurd h (by decide), fun h => absurd h (by decide)⟩
      have e33 : bA.tmps[33]?.getD undef = .agg #[.bool false, .slice A2 n2 c2] := (hb 33).trans (hdep 2 (by decide))
      refine phi_call ?_ ((HLQ.out w1 hbel).mono fun e w' h => ⟨_, h.1, h.2, rfl⟩)
      clear hb hdep hold
      go_simp
    · intro x w1 bA hold hb
      refine ⟨fun _ _ hbel hdep => ?_, fun h => absurd h (by decide), fun h => absurd h (by decide)⟩
      have e32 : bA.tmps[32]?.getD undef = .int .i64 lo1 := (hb 32).trans (hdep 1 (by decide))
      have e34 : bA.tmps[34]?.getD undef = .int .i64 lo2 := (hb 34).trans (hdep 3 (by decide))
      have cw := HWL.out
      refine phi_run (.int .i64 lo) ?_ rfl
      clear hb hdep hold
      go_simp
    · intro x w1 bA hold hb
      refine ⟨fun _ _ hbel hdep => ?_, fun h => absurd h (by decide), fun h => absurd h (by decide)⟩
      have e2 : bA.tmps[2]?.getD undef = .pointer (some ⟨w.heap.size, 0, none⟩) := hb 2
      have cc0 := (Q0.out.below hbel Q0.out.lt).cell 0
      have cc1 := (Q0.out.below hbel Q0.out.lt).cell 1
      refine phi_run (.agg #[.bool false, .slice A n c]) ?_ rfl
      clear hb hdep hold
      go_simp
    · intro x w1 bA hold hb
      refine ⟨fun _ _ hbel hdep => ?_, fun h => absurd h (by decide), fun h => absurd h (by decide)⟩
      have e36 : bA.tmps[36]?.getD undef = .agg #[.bool false, .slice A n c] := (hb 36).trans (hdep 5 (by decide))
      refine phi_call ?_ ((HHP.out w1 hbel).mono fun e w' h => ⟨_, h.1, h.2, rfl⟩)
      clear hb hdep hold
      go_simp
    · intro x w1 bA hold hb
      refine ⟨fun _ _ hbel hdep => ?_, fun h => absurd h (by decide), fun h => absurd h (by decide)⟩
      have e3 : bA.tmps[3]?.getD undef = .pointer (some ⟨w.heap.size + 1, 0, none⟩) := hb 3
      have cc0 := (Q1.out.below hbel Q1.out.lt).cell 0
      have cc1 := (Q1.out.below hbel Q1.out.lt).cell 1
      refine phi_run (.agg #[.bool false, .slice A2 n2 c2]) ?_ rfl
      clear hb hdep hold
      go_simp
    · intro x w1 bA hold hb
      refine ⟨fun _ _ hbel hdep => ?_, fun h => absurd h (by decide), fun h => absurd h (by decide)⟩
      have e38 : bA.tmps[38]?.getD undef = .agg #[.bool false, .slice A2 n2 c2] := (hb 38).trans (hdep 7 (by decide))
      refine phi_call ?_ ((HHQ.out w1 hbel).mono fun e w' h => ⟨_, h.1, h.2, rfl⟩)
      clear hb hdep hold
      go_simp
    · intro x w1 bA hold hb
      refine ⟨fun h => absurd h (by decide), fun h => absurd h (by decide), fun _ hdep => ⟨.int .i64 hi, rfl, ?_, rfl⟩⟩
      have e37 : bA.tmps[37]?.getD undef = .int .i64 hi1 := (hb 37).trans (hdep 6 (by decide) _ rfl)
      have e39 : bA.tmps[39]?.getD undef = .int .i64 hi2 := (hb 39).trans (hdep 8 (by decide) _ rfl)
      have cw := HWH.out
      clear hb hdep hold
      go_simp
    · intro x w1 bA hold hb
      refine ⟨fun _ _ hbel hdep => ?_, fun h => absurd h (by decide), fun h => absurd h (by decide)⟩
      refine phi_make (.pointer (some ⟨w1.heap.size, 0, none⟩)) (w1.alloc (.cells #[.int .i64 0] 3)) ?_ ((Below.refl _ _).alloc (Nat.le_refl _) _) (⟨w1.heap.size, rfl, hbel.size, Arr.new w1 3 [.int .i64 0]⟩)
      clear hb hdep hold
      go_simp
    · intro x w1 bA hold hb
      refine ⟨fun _ h => absurd rfl h, fun _ hbel hdep => ?_, fun h => absurd h (by decide)⟩
      have p5 := hdep 10 (by decide)
      have e5 : bA.tmps[5]?.getD undef = x 10 := hb 5
      have P5 := Lib.hid (show (fun v w => ∃ g, v = .pointer (some ⟨g, 0, none⟩) ∧ w3.heap.size ≤ g ∧ Arr w g 3 [.int .i64 0]) (x 10) w1 from p5)
      clear p5
      have e35 : bA.tmps[35]?.getD undef = .int .i64 lo := (hb 35).trans (hdep 4 (by decide))
      clear hb hdep hold
      obtain ⟨g, e5b, hg, ag⟩ := P5.out
      rw [e5b] at e5
      have c0 := ag.cell 0
      have f0 := ag.frozen 0
      have AG := Lib.hid ag
      have HX5 := Lib.hid e5b
      have HBL := Lib.hid hbel
      clear ag e5b P5 hbel
      refine phl_st (R := fun x W => ∃ g, x 10 = .pointer (some ⟨g, 0, none⟩) ∧ w3.heap.size ≤ g ∧ Arr W g 3 [.int .i64 lo] ∧ Below w3.heap.size w3 W) (w1.setCell ⟨g, 0, none⟩ (.int .i64 lo)) ?_ rfl (fun v => ⟨g, (by simpa [upd] using HX5.out), hg, AG.out.set 0 _, HBL.out.setCell (p := ⟨g, 0, none⟩) hg _⟩) rfl
      go_simp
    · intro x w1 bA hold hb
      refine ⟨fun h => absurd h (by decide), fun h => absurd h (by decide), fun _ hdep => ⟨.int .i64 hi, rfl, ?_, rfl⟩⟩
      have e40 : bA.tmps[40]?.getD undef = .int .i64 hi := (hb 40).trans (hdep 9 (by decide) _ rfl)
      clear hb hdep hold
      go_simp
    intro x w1 hR hall
    have x0e : x 0 = .agg #[.bool false, .slice A n c] := hall 0 _ (by simp) rfl
    have x1e : x 1 = .int .i64 lo1 := hall 1 _ (by simp) rfl
    have x2e : x 2 = .agg #[.bool false, .slice A2 n2 c2] := hall 2 _ (by simp) rfl
    have x3e : x 3 = .int .i64 lo2 := hall 3 _ (by simp) rfl
    have x4e : x 4 = .int .i64 lo := hall 4 _ (by simp) rfl
    have x5e : x 5 = .agg #[.bool false, .slice A n c] := hall 5 _ (by simp) rfl
    have x6e : x 6 = .int .i64 hi1 := hall 6 _ (by simp) rfl
    have x7e : x 7 = .agg #[.bool false, .slice A2 n2 c2] := hall 7 _ (by simp) rfl
    have x8e : x 8 = .int .i64 hi2 := hall 8 _ (by simp) rfl
    have x9e : x 9 = .int .i64 hi := hall 9 _ (by simp) rfl
    have x12e : x 12 = .int .i64 hi := hall 12 _ (by simp) rfl
    simp only [putAll, dstOf, Act.put, List.map_cons, List.map_nil, List.setIfInBounds_toArray, List.set_cons_succ, List.set_cons_zero, Nat.reduceAdd, x0e, x1e, x2e, x3e, x4e, x5e, x6e, x7e, x8e, x9e, x12e]
    clear x0e x1e x2e x3e x4e x5e x6e x7e x8e x9e x12e hall
    obtain ⟨g, hx5, hg, ag, hbl⟩ := hR
    rw [hx5]
    go_wp2_with fail
    go_meet
    exact ⟨g, rfl, rfl, hg, ag, hbl⟩
  case rest =>
    clear HWL HWH HLP HLQ HHP HHQ
    obtain ⟨g, rfl, rfl, hg, ag, hbl⟩ := hcut
    have HQ2 := Lib.hid (Q2.out.below hbl Q2.out.lt)
    have HB4 := Lib.hid (HB3.out.trans (hbl.mono HB3.out.size))
    have HG := Lib.hid (show w.heap.size + 3 ≤ g from by have := HS3.out; omega)
    have q0 := Q0.out.below hbl Q0.out.lt
    have q1 := Q1.out.below hbl Q1.out.lt
    have HQ0 := Lib.hid q0
    have HQ1 := Lib.hid q1
    have HAG := Lib.hid ag
    have y0 := q0.cell 0
    have y1 := q0.cell 1
    have y2 := q1.cell 0
    have y3 := q1.cell 1
    have yg := ag.cell 0
    clear q0 q1 ag hbl hg Q0 Q1 Q2 HB3 HS3
    have HFB := Lib.hid (show ∀ wr : World, Below w.heap.size w wr → Arr wr (w.heap.size + 2) 34 [.bool false, .slice none 0 0] → Arr ((wr.setCell ⟨w.heap.size + 2, 0, none⟩ (.bool true)).setCell ⟨w.heap.size + 2, 1, none⟩ (.slice none 0 0)) (w.heap.size + 2) 34 [.bool true, .slice none 0 0] ∧ Below w.heap.size w ((wr.setCell ⟨w.heap.size + 2, 0, none⟩ (.bool true)).setCell ⟨w.heap.size + 2, 1, none⟩ (.slice none 0 0)) from fun wr hb hq => ⟨(hq.set 0 (.bool true)).set 1 (.slice none 0 0), (hb.setCell (p := ⟨w.heap.size + 2, 0, none⟩) (by show w.heap.size ≤ w.heap.size + 2; omega) (.bool true)).setCell (p := ⟨w.heap.size + 2, 1, none⟩) (by show w.heap.size ≤ w.heap.size + 2; omega) (.slice none 0 0)⟩)
    by_cases c1 : lo < -1048576
    · have HBAD := Lib.hid (show MulP (some p) (some q) none from .inr ⟨rfl, .inr (by obtain ⟨s, hs, t, ht, he⟩ := HEX.out.1; exact ⟨s, hs, t, ht, .inl (by omega)⟩)⟩)
      obtain ⟨hr, hb⟩ := HFB.out _ HB4.out HQ2.out
      have HR := Lib.hid hr
      have HB := Lib.hid hb
      have f0 := HQ2.out.frozen 0
      have f1 := HQ2.out.frozen 1
      have x0 := HQ2.out.cell 0
      have x1 := HQ2.out.cell 1
      clear hr hb y0 y1 y2 y3 HFB
      go_wp2_with fail
      refine bodyPost_ret (v := .agg #[.bool true, .slice none 0 0]) (results_c Tryz.results11 _ _ (w.heap.size + 2) 34 _ _ rfl HR.out Tryz.underlying34 rfl info_poly) rfl ?_
      exact ⟨_, _, rfl, PolyV.big _, HBAD.out, HB.out⟩
    by_cases c2 : hi > 1048576
    · have HBAD := Lib.hid (show MulP (some p) (some q) none from .inr ⟨rfl, .inr (by obtain ⟨s, hs, t, ht, he⟩ := HEX.out.2; exact ⟨s, hs, t, ht, .inr (by omega)⟩)⟩)
      obtain ⟨hr, hb⟩ := HFB.out _ HB4.out HQ2.out
      have HR := Lib.hid hr
      have HB := Lib.hid hb
      have f0 := HQ2.out.frozen 0
      have f1 := HQ2.out.frozen 1
      have x0 := HQ2.out.cell 0
      have x1 := HQ2.out.cell 1
      clear hr hb y0 y1 y2 y3 HFB
      go_wp2_with fail
      refine bodyPost_ret (v := .agg #[.bool true, .slice none 0 0]) (results_c Tryz.results11 _ _ (w.heap.size + 2) 34 _ _ rfl HR.out Tryz.underlying34 rfl info_poly) rfl ?_
      exact ⟨_, _, rfl, PolyV.big _, HBAD.out, HB.out⟩
    have c3 : -1048576 ≤ lo := by omega
    have c4 : hi ≤ 1048576 := by omega
    clear c1 c2
    have HT0 := Lib.hid (show ∀ x : Int, x = x from fun _ => rfl)
    clear HT0
    by_cases hT : wrap64 (64 + wrap64 (4 * (n : Int) * (n2 : Int))) < hi - lo
    · have HSP := Lib.hid (sparse_any (.agg #[.bool false, .slice A n c]) (.agg #[.bool false, .slice A2 n2 c2]) p q wc (HPV.out wc HB4.out) (HQV.out wc HB4.out) HLM.out.1.1 HLM.out.1.2 HLM.out.2.1 HLM.out.2.2 (fun s hs t ht => by have := HIN.out s hs t ht; omega))
      clear HFB
      go_wp2_with fail
      refine HSP.out.mono ?_
      rintro e w5 ⟨v, r, rfl, hv, hr, hb5⟩
      have q5 := HQ2.out.below hb5 HQ2.out.lt
      have HB5 := Lib.hid (HB4.out.trans (hb5.mono HB4.out.size))
      have HV := Lib.hid (fun u1 u2 => hv.box q5 u1 u2)
      have HR := Lib.hid hr
      obtain ⟨b5, A5, n5, c5, rfl, j5, j6⟩ := hv.parts
      clear j5 j6 hv hr y0 y1 y2 y3 yg hb5 HSP hT
      have x0 := q5.cell 0
      have x1 := q5.cell 1
      have f0 := q5.frozen 0
      have f1 := q5.frozen 1
      have hres := Lib.hid ((q5.set 0 (.bool b5)).set 1 (.slice A5 n5 c5))
      clear q5
      go_wp2_with fail
      refine bodyPost_ret (v := .agg #[.bool b5, .slice A5 n5 c5]) (results_c Tryz.results11 _ _ (w.heap.size + 2) 34 _ _ rfl hres.out Tryz.underlying34 rfl info_poly) rfl ?_
      exact ⟨_, r, rfl, HV.out _ _, HR.out, (HB5.out.setCell (p := ⟨w.heap.size + 2, 0, none⟩) (by show w.heap.size ≤ w.heap.size + 2; omega) _).setCell (p := ⟨w.heap.size + 2, 1, none⟩) (by show w.heap.size ≤ w.heap.size + 2; omega) _⟩
    · obtain ⟨N, hN⟩ : ∃ N : Nat, hi - lo + 1 = (N : Int) := ⟨(hi - lo + 1).toNat, by omega⟩
      have hNb : N ≤ 4194305 := by omega
      have hmk := run_make_wide lo N (by omega) wc
      have hW5 : ∀ W, W = ((wc.alloc (.cells (rowOf (wrow (cf []) lo N)) 61)).alloc (.cells #[.slice (some ⟨wc.heap.size, 0, none⟩) N N] 57)) → SumS (wc.heap.size + 1) g wc.heap.size N lo [] W ∧ Arr W w.heap.size 34 [.bool false, .slice A n c] ∧ Arr W (w.heap.size + 1) 34 [.bool false, .slice A2 n2 c2] ∧ Arr W (w.heap.size + 2) 34 [.bool false, .slice none 0 0] ∧ Below wc.heap.size wc W ∧ W.heap.size = wc.heap.size + 2 := by
        intro W hW
        subst hW
        exact ⟨⟨Arr.newAt (wc.alloc _) _ [_] _ (by simp), (HAG.out.alloc _).alloc _, (Arr.new _ _ _).alloc _⟩, (HQ0.out.alloc _).alloc _, (HQ1.out.alloc _).alloc _, (HQ2.out.alloc _).alloc _, ((Below.refl _ _).alloc (Nat.le_refl _) _).alloc (by simp) _, by simp⟩
      clear HFB
      go_upto_region 11 with fail
      generalize ((wc.alloc (.cells (rowOf (wrow (cf []) lo N)) 61)).alloc (.cells #[.slice (some ⟨wc.heap.size, 0, none⟩) N N] 57)) = w5 at hW5 ⊢
      obtain ⟨hj5, q0, q1, q2, hb5, hs5⟩ := hW5 w5 rfl
      have hgw : g < wc.heap.size := HAG.out.lt
      have hwz : w.heap.size + 3 ≤ wc.heap.size := by have := HG.out; omega
      obtain ⟨gb, hgb⟩ : ∃ b, b = wc.heap.size := ⟨_, rfl⟩
      rw [← hgb] at hj5 hs5 hgw hwz ⊢
      have hb05 := HB4.out.trans (hb5.mono HB4.out.size)
      have HIN2 := Lib.hid (show ∀ s ∈ p, ∀ t ∈ q, lo ≤ s.1 + t.1 ∧ s.1 + t.1 < lo + N from fun s hs t ht => by have := HIN.out s hs t ht; omega)
      have HPR := Lib.hid (products_reg2 28 (.pointer (some ⟨gb + 1, 0, none⟩)) (.pointer (some ⟨g, 0, none⟩)) gb w.heap.size p q _ (clo_dense (gb + 1) g gb N w.heap.size lo p q HIN2.out (by omega) (by omega) (by omega) (by omega) (by omega)) (.agg #[.bool false, .slice A n c]) (.agg #[.bool false, .slice A2 n2 c2]) w5 (fun W hb => HPV.out W (hb05.trans hb)) (fun W hb => HQV.out W (hb05.trans hb)) HLM.out.1.1 HLM.out.1.2 HLM.out.2.1 HLM.out.2.2 (by omega) (by omega) ⟨hj5, by omega⟩)
      have y0 := q0.cell 0
      have y1 := q0.cell 1
      have y2 := q1.cell 0
      have y3 := q1.cell 1
      have HQ5 := Lib.hid q2
      have HB5 := Lib.hid hb05
      have HGB := Lib.hid (show g < gb ∧ w.heap.size + 3 ≤ gb ∧ gb + 2 ≤ w5.heap.size from ⟨hgw, hwz, by omega⟩)
      clear hW5 hj5 q0 q1 q2 hb5 hs5 hgw hwz hgb hb05 hmk HAG HQ0 HQ1 HQ2 HB4 yg hT HG
      go_wp2_with fail
      refine HPR.out.mono ?_
      rintro e w6 ⟨rfl, hj6, ho6⟩
      have HJ6 := Lib.hid hj6.1
      have HB6 := Lib.hid (HB5.out.trans ho6.below)
      have HQ6 := Lib.hid (ho6.at_ HQ5.out (by have := HGB.out; omega))
      have HS6 := Lib.hid (show gb + 2 ≤ w6.heap.size from by have := ho6.below.size; have := HGB.out; omega)
      clear HPR hj6 ho6 y0 y1 y2 y3 HQ5 HB5
      have hW7 : ∀ W, W = w6.alloc (.cells #[.bool false, .slice none 0 0] 34) → SumS (gb + 1) g gb N lo (prs p q) W ∧ Arr W (w.heap.size + 2) 34 [.bool false, .slice none 0 0] ∧ Arr W w6.heap.size 34 [.bool false, .slice none 0 0] ∧ Below w.heap.size w W ∧ W.heap.size = w6.heap.size + 1 := by
        intro W hW
        subst hW
        have hb : Below w6.heap.size w6 (w6.alloc (.cells #[.bool false, .slice none 0 0] 34)) := (Below.refl _ _).alloc (Nat.le_refl _) _
        exact ⟨HJ6.out.kp hb, HQ6.out.below hb HQ6.out.lt, Arr.new _ _ [_, _], HB6.out.trans (hb.mono (by have := HS6.out; have := HGB.out; omega)), by simp⟩
      go_upto_region 13 with fail
      generalize (w6.alloc (.cells #[.bool false, .slice none 0 0] 34)) = w7 at hW7 ⊢
      obtain ⟨hj7, qr7, qb7, hb7, hs7⟩ := hW7 w7 rfl
      obtain ⟨rb, hrb⟩ : ∃ r, r = w6.heap.size := ⟨_, rfl⟩
      rw [← hrb] at qb7 hs7 HS6 ⊢
      have HJ7 := Lib.hid hj7
      have HQ7 := Lib.hid qr7
      have HB7 := Lib.hid hb7
      have HS7 := Lib.hid (show gb + 2 ≤ rb ∧ rb < w7.heap.size ∧ w.heap.size + 3 ≤ gb ∧ g < gb from ⟨HS6.out, by omega, HGB.out.2.1, HGB.out.1⟩)
      have HST := Lib.hid (show LSt w.heap.size w7.heap.size rb w7 (.slice none 0 0) [] w7 from ⟨OwnT.nil _ _, qb7, fun _ _ _ => rfl, Below.refl _ _, Nat.le_refl _⟩)
      have HF := Lib.hid (show ∀ e, cf (prs p q) e = cv p q e from cf_prs p q)
      have HBD := Lib.hid (HLM.out.1.1.cvbd HLM.out.1.2 HLM.out.2.1 HLM.out.2.2)
      have HEND := Lib.hid (show (∀ i : Nat, i < N → -1125899906842624 ≤ cv p q (lo + i) ∧ cv p q (lo + i) ≤ 1125899906842624) → MulP (some p) (some q) (some (dense (cv p q) lo N)) from fun h => mul_end (by omega) (by omega) HIN2.out h)
      have HBAD := Lib.hid (show ∀ e, ¬ (-1125899906842624 ≤ cv p q e ∧ cv p q e ≤ 1125899906842624) → MulP (some p) (some q) none from fun e h => mul_bad h)
      obtain ⟨F, hFF⟩ : ∃ f, f = cv p q := ⟨_, rfl⟩
      rw [← hFF] at HF HBD HEND HBAD
      have y0 := hj7.ss.cell 0
      have HLOB := Lib.hid (show -1048576 ≤ lo ∧ lo + N ≤ 1048577 by omega)
      clear hW7 hj7 qr7 qb7 hb7 hs7 hrb hFF HJ6 HQ6 HB6 HS6 HGB HIN HIN2 HEX HLM HPV HQV HN hlen
      go_wp2_with fail
      clear y0
      go_loopg [9, 10, 11, 12, 75] N (fun gk s9 s10 s11 s12 s75 wr => ∃ (k : Nat) (s : Value), k ≤ N ∧ gk = N - k ∧ s75 = .int .i64 (k : Int) ∧ LSt w.heap.size w7.heap.size rb w7 s (dense F lo k) wr ∧ Hid (∀ i : Nat, i < k → -1125899906842624 ≤ F (lo + i) ∧ F (lo + i) ≤ 1125899906842624))
      case atStart => exact ⟨0, _, Nat.zero_le _, rfl, rfl, HST.out, Lib.hid (fun i h => by omega)⟩
      case round =>
        clear HST
        obtain ⟨k, s, hk, rfl, rfl, hst, HK⟩ := hrel
        have h57 := HS7.out
        have hlob := HLOB.out
        by_cases hlt : k < N
        · have z1 : (k : Int) < (N : Int) := by omega
          have hss := hst.arr HJ7.out.ss (by omega) (by omega)
          have hll := hst.arr HJ7.out.ll (by omega) (by omega)
          have hrow := hst.arr HJ7.out.row (by omega) (by omega)
          have rr0 := hrow.cell (k * 2)
          have rr1 := hrow.cell (k * 2 + 1)
          rw [(wrow_get _ lo N k hlt).1, HF.out] at rr0
          rw [(wrow_get _ lo N k hlt).2, HF.out] at rr1
          have hbd := HBD.out (lo + (k : Int))
          have HSM := Lib.hid (fun W => wsmall_any (F (lo + (k : Int))) W (by omega) (by omega))
          have HSN := Lib.hid (show dense F lo (k + 1) = dense F lo k ++ if F (lo + (k : Int)) = 0 then [] else [(lo + (k : Int), F (lo + (k : Int)))] from rfl)
          have HKN2 := Lib.hid (show (-1125899906842624 ≤ F (lo + (k : Int)) ∧ F (lo + (k : Int)) ≤ 1125899906842624) → ∀ i : Nat, i < k + 1 → -1125899906842624 ≤ F (lo + i) ∧ F (lo + i) ≤ 1125899906842624 from fun h i hi => by
            by_cases q : i = k
            · rw [q]; exact h
            · exact HK.out i (by omega))
          have HRL := Lib.hid (show (dense F lo k).length ≤ 100000000 from by have := dense_len F lo k; omega)
          have HLL := Lib.hid hll
          generalize dense F lo k = R at *
          have HST := Lib.hid hst
          have HB := Lib.hid (HB7.out.trans hst.bel)
          have HQ := Lib.hid (hst.arr HQ7.out (by omega) (by omega))
          obtain ⟨Ax, nx, cx, rfl⟩ := hst.own.form3
          have HBX := Lib.hid (HBAD.out (lo + (k : Int)))
          have HCS := Lib.hid (smB_cases (F (lo + (k : Int))))
          obtain ⟨fv, hfv⟩ : ∃ v, v = F (lo + (k : Int)) := ⟨_, rfl⟩
          rw [← hfv] at rr0 rr1 HSM HSN HKN2 HBX HCS
          clear hst hss hll hrow hbd HK hfv
          have hW8 : ∀ W, W = wr.alloc (.cells #[.int .u64 ((hiN (rs fv) : Nat) : Int), .int .u64 ((loN (rs fv) : Nat) : Int)] 61) → Arr W wr.heap.size 61 [.int .u64 ((hiN (rs fv) : Nat) : Int), .int .u64 ((loN (rs fv) : Nat) : Int)] ∧ Below wr.heap.size wr W := by
            intro W hW
            subst hW
            exact ⟨Arr.new _ _ [_, _], (Below.refl _ _).alloc (Nat.le_refl _) _⟩
          go_upto_region 16 with fail
          generalize (wr.alloc (.cells #[.int .u64 ((hiN (rs fv) : Nat) : Int), .int .u64 ((loN (rs fv) : Nat) : Int)] 61)) = w8 at hW8 ⊢
          obtain ⟨qw, hb8⟩ := hW8 w8 rfl
          have hst8 := HST.out.below hb8 (by omega) (by omega)
          have HST8 := Lib.hid hst8
          have HB8 := Lib.hid (HB.out.trans (hb8.mono HB.out.size))
          have HQ8 := Lib.hid (HQ.out.below hb8 HQ.out.lt)
          have HL8 := Lib.hid (HLL.out.below hb8 HLL.out.lt)
          have yw0 := qw.cell 0
          have yw1 := qw.cell 1
          clear hW8 rr0 rr1 hb8 qw hst8 HST HB HQ HLL
          rcases HCS.out with ⟨g1, g2, g3⟩ | ⟨g1, g2⟩
          · have HG3 := Lib.hid g3
            have HK3 := Lib.hid (HKN2.out g3)
            rw [g1, g2] at HSM
            clear g1 g2 HKN2 HBX HCS
            go_wp2_with fail
            refine (HSM.out _).mono ?_
            rintro e w9 ⟨rfl, hb9⟩
            have hst9 := HST8.out.below hb9 (by omega) (by omega)
            have HST9 := Lib.hid hst9
            have q1 := hst9.rr
            have y1 := q1.cell 1
            have yl := (HL8.out.below hb9 HL8.out.lt).cell 0
            clear HSM yw0 yw1 hb9 HST8 HB8 HQ8 HL8
            by_cases h0 : fv = 0
            · have z2 : (fv != 0) = false := by simp [h0]
              have HS2 := Lib.hid (show dense F lo (k + 1) = R by rw [HSN.out, if_pos h0, List.append_nil])
              clear h0 HSN hst9 q1 y1 yl
              go_wp2_with fail
              go_roundg (N - (k + 1))
              case measure => omega
              case rel => exact ⟨k + 1, _, by omega, rfl, by go_num, by rw [HS2.out]; exact HST9.out, HK3⟩
            · have z2 : (fv != 0) = true := by simp [h0]
              have HS2 := Lib.hid (show dense F lo (k + 1) = R ++ [(lo + (k : Int), fv)] by rw [HSN.out, if_neg h0])
              have HUU := Lib.hid (Arr.new w9 51 [.int .i64 (lo + (k : Int)), .int .i64 fv])
              have HSA := Lib.hid (hst9.below ((Below.refl _ _).alloc (Nat.le_refl _) (.cells #[.int .i64 (lo + (k : Int)), .int .i64 fv] 51)) (by omega) (by omega))
              have HSZ := Lib.hid HSA.out.sz
              have HRB := Lib.hid (show w.heap.size ≤ rb ∧ rb < w7.heap.size by omega)
              clear h0 HSN hst9 q1
              go_wp2_with (at_builtin; refine wpList_appT rfl (.tmp 91) (.tmp 97) rfl rfl HSA.out.own (m := (lo + (k : Int), fv)) rfl HUU.out HRL.out HSZ.out ?_; intro v' w1 hown1 hgr1; obtain ⟨q1, h2⟩ := HSA.out.app hown1 hgr1 HRB.out.1 HRB.out.2; obtain ⟨Av, nv, cv_, rfl⟩ := hown1.form3; have HNX := Lib.hid h2; have f1 := q1.frozen 1; have yq := q1.cell 1; clear hown1 hgr1 q1 h2)
              go_roundg (N - (k + 1))
              case measure => omega
              case rel => exact ⟨k + 1, _, by omega, rfl, by go_num, by rw [HS2.out]; exact HNX.out, HK3⟩
          · have HBD2 := Lib.hid (HBX.out g2)
            rw [g1] at HSM
            clear g1 g2 HKN2 HSN HBX HCS
            generalize smN fv = sn at *
            go_wp2_with fail
            refine (HSM.out _).mono ?_
            rintro e w9 ⟨rfl, hb9⟩
            have qr := HQ8.out.below hb9 HQ8.out.lt
            have f0 := qr.frozen 0
            have f1 := qr.frozen 1
            have x0 := qr.cell 0
            have x1 := qr.cell 1
            have HRS := Lib.hid ((qr.set 0 (.bool true)).set 1 (.slice none 0 0))
            have HBE := Lib.hid (((HB8.out.trans (hb9.mono HB8.out.size)).setCell (p := ⟨w.heap.size + 2, 0, none⟩) (by show w.heap.size ≤ w.heap.size + 2; omega) (.bool true)).setCell (p := ⟨w.heap.size + 2, 1, none⟩) (by show w.heap.size ≤ w.heap.size + 2; omega) (.slice none 0 0))
            clear HSM yw0 yw1 hb9 HST8 HB8 HQ8 HL8 qr
            go_wp2_with fail
            refine bodyPost_ret (v := .agg #[.bool true, .slice none 0 0]) (results_c Tryz.results11 _ _ (w.heap.size + 2) 34 _ _ rfl HRS.out Tryz.underlying34 rfl info_poly) rfl ?_
            exact ⟨_, _, rfl, PolyV.big _, HBD2.out, HBE.out⟩
        · have z1 : ¬ (k : Int) < (N : Int) := by omega
          obtain rfl : k = N := by omega
          have HE := Lib.hid (HEND.out HK.out)
          obtain ⟨Ax, cx, rfl⟩ := hst.own.form
          have qr := hst.arr HQ7.out (by omega) (by omega)
          have q1 := hst.rr
          have y0 := q1.cell 0
          have y1 := q1.cell 1
          have f0 := qr.frozen 0
          have f1 := qr.frozen 1
          have x0 := qr.cell 0
          have x1 := qr.cell 1
          have HRS := Lib.hid ((qr.set 0 (.bool false)).set 1 (.slice Ax (dense F lo k).length cx))
          have HPB := Lib.hid ((PolyV.own hst.own).box qr (.bool false) (.slice Ax (dense F lo k).length cx))
          have HBE := Lib.hid (((HB7.out.trans hst.bel).setCell (p := ⟨w.heap.size + 2, 0, none⟩) (by show w.heap.size ≤ w.heap.size + 2; omega) (.bool false)).setCell (p := ⟨w.heap.size + 2, 1, none⟩) (by show w.heap.size ≤ w.heap.size + 2; omega) (.slice Ax (dense F lo k).length cx))
          clear hst qr q1
          go_wp2_with fail
          refine bodyPost_ret (v := .agg #[.bool false, .slice Ax (dense F lo k).length cx]) (results_c Tryz.results11 _ _ (w.heap.size + 2) 34 _ _ rfl HRS.out Tryz.underlying34 rfl info_poly) rfl ?_
          exact ⟨_, _, rfl, HPB.out, HE.out, HBE.out⟩
end Go.Proofs.YtnmidhlghhephaaGreatDoor

namespace Go.Proofs.YtnmidhlghhephaaGreatDoor
open Go.RowKit
set_option linter.unusedVariables false
/-- the boxes and the row of wide integers -/
structure DvR (w : World) (gb : Nat) (lp : Int) (n : Nat) (cp cq : List Value) (F : Int → Int) (W : World) : Prop where
  row : Arr W gb 61 (wrow F lp n)
  pp : Arr W w.heap.size 34 cp
  qq : Arr W (w.heap.size + 1) 34 cq
  res : Arr W (w.heap.size + 2) 34 [.bool false, .slice none 0 0]
  bel : Below w.heap.size w W
  hgb : w.heap.size + 3 ≤ gb
section
variable {w : World} {gb rb N n : Nat} {lp : Int} {cp cq : List Value} {F G : Int → Int} {s : Value} {R : List (Int × Int)} {W W' : World}
theorem DvR.below (h : DvR w gb lp n cp cq F W) (hb : Below W.heap.size W W') : DvR w gb lp n cp cq F W' :=
  ⟨h.row.below hb h.row.lt, h.pp.below hb h.pp.lt, h.qq.below hb h.qq.lt, h.res.below hb h.res.lt, h.bel.trans (hb.mono h.bel.size), h.hgb⟩
theorem DvR.drewN (h : DvR w gb lp n cp cq F W) (k : Nat) : DvR w gb lp n cp cq F (W.drewN k) := h.below (bdrewN (Below.refl _ _) k)
/-- one element is written -/
theorem DvR.put (h : DvR w gb lp n cp cq F W) {k : Nat} (hk : k < n) (hG : ∀ j : Nat, j < n → j ≠ k → G (lp + (j : Int)) = F (lp + (j : Int))) : DvR w gb lp n cp cq G ((W.setCell ⟨gb, k * 2, none⟩ (.int .u64 ((hiN (rs (G (lp + (k : Int)))) : Nat) : Int))).setCell ⟨gb, k * 2 + 1, none⟩ (.int .u64 ((loN (rs (G (lp + (k : Int)))) : Nat) : Int))) := by
  have hg := h.hgb
  have r := (h.row.set (k * 2) (.int .u64 ((hiN (rs (G (lp + (k : Int)))) : Nat) : Int))).set (k * 2 + 1) (.int .u64 ((loN (rs (G (lp + (k : Int)))) : Nat) : Int))
  rw [wrow_set F G lp n k hk hG] at r
  exact ⟨r, (h.pp.far (p := ⟨gb, k * 2, none⟩) (by show w.heap.size ≠ gb; omega) _).far (p := ⟨gb, k * 2 + 1, none⟩) (by show w.heap.size ≠ gb; omega) _, (h.qq.far (p := ⟨gb, k * 2, none⟩) (by show w.heap.size + 1 ≠ gb; omega) _).far (p := ⟨gb, k * 2 + 1, none⟩) (by show w.heap.size + 1 ≠ gb; omega) _, (h.res.far (p := ⟨gb, k * 2, none⟩) (by show w.heap.size + 2 ≠ gb; omega) _).far (p := ⟨gb, k * 2 + 1, none⟩) (by show w.heap.size + 2 ≠ gb; omega) _, (h.bel.setCell (p := ⟨gb, k * 2, none⟩) (by show w.heap.size ≤ gb; omega) _).setCell (p := ⟨gb, k * 2 + 1, none⟩) (by show w.heap.size ≤ gb; omega) _, hg⟩
/-- with the polynomial that is being made -/
structure DvS (w : World) (gb rb N : Nat) (lp : Int) (n : Nat) (cp cq : List Value) (F : Int → Int) (s : Value) (R : List (Int × Int)) (W : World) : Prop where
  r : DvR w gb lp n cp cq F W
  own : OwnT N W s R
  rr : Arr W rb 34 [.bool false, s]
  hgr : gb < rb
  hrN : rb < N
  sz : N ≤ W.heap.size
theorem DvS.below (h : DvS w gb rb N lp n cp cq F s R W) (hb : Below W.heap.size W W') : DvS w gb rb N lp n cp cq F s R W' :=
  ⟨h.r.below hb, h.own.below hb, h.rr.below hb h.rr.lt, h.hgr, h.hrN, Nat.le_trans h.sz hb.size⟩
theorem DvS.drewN (h : DvS w gb rb N lp n cp cq F s R W) (k : Nat) : DvS w gb rb N lp n cp cq F s R (W.drewN k) := h.below (bdrewN (Below.refl _ _) k)
theorem DvS.put (h : DvS w gb rb N lp n cp cq F s R W) {k : Nat} (hk : k < n) (hG : ∀ j : Nat, j < n → j ≠ k → G (lp + (j : Int)) = F (lp + (j : Int))) : DvS w gb rb N lp n cp cq G s R ((W.setCell ⟨gb, k * 2, none⟩ (.int .u64 ((hiN (rs (G (lp + (k : Int)))) : Nat) : Int))).setCell ⟨gb, k * 2 + 1, none⟩ (.int .u64 ((loN (rs (G (lp + (k : Int)))) : Nat) : Int))) := by
  have h1 := h.hgr
  have h2 := h.hrN
  have ap : s.ownBlock ≠ some gb := fun e => by have := (h.own.lt gb e).1; omega
  exact ⟨h.r.put hk hG, (h.own.far (p := ⟨gb, k * 2, none⟩) ap _).far (p := ⟨gb, k * 2 + 1, none⟩) ap _, (h.rr.far (p := ⟨gb, k * 2, none⟩) (by show rb ≠ gb; omega) _).far (p := ⟨gb, k * 2 + 1, none⟩) (by show rb ≠ gb; omega) _, h1, h2, by have := h.sz; simpa using this⟩
/-- a term is appended -/
theorem DvS.app (h : DvS w gb rb N lp n cp cq F s R W) {s' : Value} {m : Int × Int} (ho : OwnT N W' s' (R ++ [m])) (hg : Gr N W W' s.ownBlock) : Arr W' rb 34 [.bool false, s] ∧ DvS w gb rb N lp n cp cq F s' (R ++ [m]) (W'.setCell ⟨rb, 1, none⟩ s') := by
  have a1 := h.own.apart h.rr (by decide)
  have q1 : Arr W' rb 34 [.bool false, s] := (hg.keep _ h.rr.lt a1).trans h.rr
  have hNk : ∀ k, k < N → s.ownBlock ≠ some k := fun k hk e => by have := (h.own.lt k e).1; omega
  have h1 := h.hgr
  have h2 := h.hrN
  have h3 := h.r.hgb
  have kp : ∀ k t cs, k < N → k ≠ rb → Arr W k t cs → Arr (W'.setCell ⟨rb, 1, none⟩ s') k t cs := fun k t cs hk hr ha =>
    ((Below.heap_setCell W' ⟨rb, 1, none⟩ s' k hr).trans (hg.keep k (Nat.lt_of_lt_of_le hk h.sz) (hNk k hk))).trans ha
  exact ⟨q1, ⟨kp _ _ _ (by omega) (by omega) h.r.row, kp _ _ _ (by omega) (by omega) h.r.pp, kp _ _ _ (by omega) (by omega) h.r.qq, kp _ _ _ (by omega) (by omega) h.r.res, (h.r.bel.trans (hg.below.mono (by omega))).setCell (p := ⟨rb, 1, none⟩) (by show w.heap.size ≤ rb; omega) _, h3⟩, ho.far (p := ⟨rb, 1, none⟩) (ho.apart q1 (by decide)) _, q1.set 1 _, h1, h2, by have := Nat.le_trans h.sz hg.below.size; simpa using this⟩
end
/-- the row of zeros, and the row of a polynomial's coefficients -/
theorem cf_take_at {l : List (Int × Int)} (h : Srt l) {i : Nat} (hi : i < l.length) : cf (l.take (i + 1)) l[i].1 = l[i].2 := by
  rw [cf_take_succ hi, if_pos rfl, cf_out fun t ht => by have := (srt_drop h hi).1 t ht; omega]; omega
theorem cf_take_ne {l : List (Int × Int)} {i : Nat} (hi : i < l.length) {e : Int} (he : e ≠ l[i].1) : cf (l.take (i + 1)) e = cf (l.take i) e := by
  rw [cf_take_succ hi, if_neg (fun h => he h.symm)]; omega
/-- what is left while step i runs, after j terms of the divisor -/
def rsT (F : Int → Int) (v : Int) (q : List (Int × Int)) (o : Int) (j : Nat) (e : Int) : Int := F e - v * cf (q.take j) (e - o)
theorem rsT_0 (F : Int → Int) (v : Int) (q : List (Int × Int)) (o e : Int) : rsT F v q o 0 e = F e := by
  unfold rsT; rw [List.take_zero, cf_nil]; omega
theorem rsT_at {F : Int → Int} {v : Int} {q : List (Int × Int)} {o : Int} {j : Nat} (h : Srt q) (hj : j < q.length) : rsT F v q o (j + 1) (o + q[j].1) = rsT F v q o j (o + q[j].1) + -v * q[j].2 := by
  unfold rsT
  rw [show o + q[j].1 - o = q[j].1 by omega, cf_take_at h hj, cf_out fun t ht => by have := (srt_drop h hj).1 t ht; omega, Int.neg_mul]
  omega
theorem rsT_ne {F : Int → Int} {v : Int} {q : List (Int × Int)} {o : Int} {j : Nat} (hj : j < q.length) {e : Int} (he : e ≠ o + q[j].1) : rsT F v q o (j + 1) e = rsT F v q o j e := by
  unfold rsT
  rw [cf_take_ne hj (by omega)]
theorem rsT_end {P : Int → Int} {lp lq : Int} {q : List (Int × Int)} (i : Nat) (e : Int) : rsT (RS P lp lq q i) (RS P lp lq q i (lp + i)) q (lp + i - lq) q.length e = RS P lp lq q (i + 1) e := by
  unfold rsT
  rw [RS, List.take_length, show e - (lp + (i : Int)) + lq = e - (lp + i - lq) by omega]
/-- what Div answers -/
def DivR (p q : List (Int × Int)) (w : World) (e : Ending) (w' : World) : Prop := Below w.heap.size w w' ∧
  ((∃ (s : Nat) (v : Value), (s : Int) = highL p - lowL p - (highL q - lowL q) ∧ (∀ j : Nat, s < j → (j : Int) ≤ highL p - lowL p → RS (cf p) (lowL p) (lowL q) q (s + 1) (lowL p + j) = 0) ∧ e = .returned (.tuple #[v, .int .i64 0]) ∧ PolyV w' v (some (rL (cf p) (lowL p) (lowL q) q (s + 1)))) ∨
   (e = .returned (.tuple #[.agg #[.bool false, .slice none 0 0], .int .i64 10]) ∧ ((highL p - lowL p - (highL q - lowL q) < 0) ∨ ∃ (s j : Nat), (s : Int) = highL p - lowL p - (highL q - lowL q) ∧ s < j ∧ (j : Int) ≤ highL p - lowL p ∧ RS (cf p) (lowL p) (lowL q) q (s + 1) (lowL p + j) ≠ 0)))
end Go.Proofs.YtnmidhlghhephaaGreatDoor

namespace Go.Proofs.YtnmidhlghhephaaGreatDoor
open Go.RowKit
set_option linter.unusedVariables false
def mulSm (b1 b2 : Bool) (n n2 : Nat) : Option Bool := if b1 = true then some true else if b2 = true then some true else if n = 0 then some false else if n2 = 0 then some false else none
set_option maxHeartbeats 2000000 in
set_option maxRecDepth 100000 in
theorem mul_small (b1 b2 R : Bool) (A A2 : Option Addr) (n c n2 c2 : Nat) (w : World) (h : mulSm b1 b2 n n2 = some R) :
    Calls Tryz.prog 11 #[.agg #[.bool b1, .slice A n c], .agg #[.bool b2, .slice A2 n2 c2]] w fun e w' => e = .returned (.agg #[.bool R, .slice none 0 0]) ∧ Below w.heap.size w w' := by
  have hW : ∀ b1 b2 W, W = (((w.alloc (.cells #[.bool b1, .slice A n c] 34)).alloc (.cells #[.bool b2, .slice A2 n2 c2] 34)).alloc (.cells #[.bool false, .slice none 0 0] 34)) → Arr W w.heap.size 34 [.bool b1, .slice A n c] ∧ Arr W (w.heap.size + 1) 34 [.bool b2, .slice A2 n2 c2] ∧ Arr W (w.heap.size + 2) 34 [.bool false, .slice none 0 0] ∧ Below w.heap.size w W ∧ W.heap.size = w.heap.size + 3 := by
    intro b1 b2 W hW
    subst hW
    exact ⟨((Arr.new _ _ [_, _]).alloc _).alloc _, (Arr.newAt (w.alloc _) _ [_, _] _ (by simp)).alloc _, Arr.newAt ((w.alloc _).alloc _) _ [_, _] _ (by simp), (((Below.refl _ _).alloc (Nat.le_refl _) _).alloc (by simp) _).alloc (by simp <;> omega) _, by simp⟩
  replace hW := hW b1 b2
  have HM := Lib.hid h
  clear h
  have key : ∀ (R : Bool) wr, Below w.heap.size w wr → Arr wr (w.heap.size + 2) 34 [.bool false, .slice none 0 0] → Arr ((wr.setCell ⟨w.heap.size + 2, 0, none⟩ (.bool R)).setCell ⟨w.heap.size + 2, 1, none⟩ (.slice none 0 0)) (w.heap.size + 2) 34 [.bool R, .slice none 0 0] ∧ Below w.heap.size w ((wr.setCell ⟨w.heap.size + 2, 0, none⟩ (.bool R)).setCell ⟨w.heap.size + 2, 1, none⟩ (.slice none 0 0)) := fun R wr hb hq => ⟨(hq.set 0 (.bool R)).set 1 (.slice none 0 0), (hb.setCell (p := ⟨w.heap.size + 2, 0, none⟩) (by show w.heap.size ≤ w.heap.size + 2; omega) (.bool R)).setCell (p := ⟨w.heap.size + 2, 1, none⟩) (by show w.heap.size ≤ w.heap.size + 2; omega) (.slice none 0 0)⟩
  have HKEY := Lib.hid key
  clear key
  go_enter Tryz.func11, Tryz.ntmps11
  go_upto_region 1 with fail
  generalize (((w.alloc (.cells #[.bool b1, .slice A n c] 34)).alloc (.cells #[.bool b2, .slice A2 n2 c2] 34)).alloc (.cells #[.bool false, .slice none 0 0] 34)) = w3 at hW ⊢
  obtain ⟨q0, q1, q2, hb3, hs3⟩ := hW w3 rfl
  have HR := Lib.hid (HKEY.out R w3 hb3 q2)
  have y0 := q0.cell 0
  have y1 := q0.cell 1
  have y2 := q1.cell 0
  have y3 := q1.cell 1
  have x0 := q2.cell 0
  have x1 := q2.cell 1
  have f0 := q2.frozen 0
  have f1 := q2.frozen 1
  clear hW HKEY q0 q1 q2 hb3 hs3
  cases b1 with
  | true =>
    obtain rfl : true = R := by have := HM.out; unfold mulSm at this; simpa using this
    clear HM
    go_wp2_with fail
    refine bodyPost_ret (v := .agg #[.bool true, .slice none 0 0]) (results_c Tryz.results11 _ _ (w.heap.size + 2) 34 _ _ rfl HR.out.1 Tryz.underlying34 rfl info_poly) rfl ?_
    exact ⟨rfl, HR.out.2⟩
  | false =>
    cases b2 with
    | true =>
      obtain rfl : true = R := by have := HM.out; unfold mulSm at this; simpa using this
      clear HM
      go_wp2_with fail
      refine bodyPost_ret (v := .agg #[.bool true, .slice none 0 0]) (results_c Tryz.results11 _ _ (w.heap.size + 2) 34 _ _ rfl HR.out.1 Tryz.underlying34 rfl info_poly) rfl ?_
      exact ⟨rfl, HR.out.2⟩
    | false =>
      by_cases h1 : n = 0
      · obtain rfl : false = R := by have := HM.out; unfold mulSm at this; simpa [h1] using this
        have z1 : ((n : Int) == 0) = true := by simp [h1]
        clear HM h1
        go_wp2_with fail
        refine bodyPost_ret (v := .agg #[.bool false, .slice none 0 0]) (results_c Tryz.results11 _ _ (w.heap.size + 2) 34 _ _ rfl HR.out.1 Tryz.underlying34 rfl info_poly) rfl ?_
        exact ⟨rfl, HR.out.2⟩
      · have z1 : ((n : Int) == 0) = false := by simp; omega
        by_cases h2 : n2 = 0
        · obtain rfl : false = R := by have := HM.out; unfold mulSm at this; simpa [h1, h2] using this
          have z2 : ((n2 : Int) == 0) = true := by simp [h2]
          clear HM h1 h2
          go_wp2_with fail
          refine bodyPost_ret (v := .agg #[.bool false, .slice none 0 0]) (results_c Tryz.results11 _ _ (w.heap.size + 2) 34 _ _ rfl HR.out.1 Tryz.underlying34 rfl info_poly) rfl ?_
          exact ⟨rfl, HR.out.2⟩
        · exfalso
          have := HM.out
          unfold mulSm at this
          simp [h1, h2] at this
theorem Mul_any (vp vq : Value) (p q : Pol) (w : World) (hp : PolyV w vp p) (hq : PolyV w vq q) (okp : okP p) (okq : okP q) :
    Calls Tryz.prog 11 #[vp, vq] w (MulR p q w) := by
  have hp0 := hp
  have hq0 := hq
  obtain ⟨A, c, rfl, _⟩ := hp0
  obtain ⟨A2, c2, rfl, _⟩ := hq0
  cases p with
  | none => exact (mul_small true _ true A A2 0 c _ c2 w (by unfold mulSm; rw [if_pos rfl])).mono fun e w' h => ⟨_, none, h.1, PolyV.big _, mulP_none_left q, h.2⟩
  | some p =>
    cases q with
    | none => exact (mul_small false true true A A2 _ c 0 c2 w (by unfold mulSm; rw [if_neg (by simp), if_pos rfl])).mono fun e w' h => ⟨_, none, h.1, PolyV.big _, mulP_none_right _, h.2⟩
    | some q =>
      by_cases h1 : p.length = 0
      · obtain rfl := List.eq_nil_of_length_eq_zero h1
        exact (mul_small false false false A A2 0 c _ c2 w (by unfold mulSm; rw [if_neg (by simp), if_neg (by simp), if_pos rfl])).mono fun e w' h => ⟨_, some [], h.1, PolyV.zero _, mulP_nil_left q, h.2⟩
      · by_cases h2 : q.length = 0
        · obtain rfl := List.eq_nil_of_length_eq_zero h2
          exact (mul_small false false false A A2 p.length c 0 c2 w (by unfold mulSm; rw [if_neg (by simp), if_neg (by simp), if_neg h1, if_pos rfl])).mono fun e w' h => ⟨_, some [], h.1, PolyV.zero _, mulP_nil_right p, h.2⟩
        · exact Mul_some _ _ p q w hp hq okp.2 okp.1 okq.2 okq.1 (by omega) (by omega)
end Go.Proofs.YtnmidhlghhephaaGreatDoor
