/- laurent.sparse. -/
/- A region that draws its order, with one store into memory that it has made, and operations that compute alone before or behind it. -/
/- laurent.Term within the limits; terms of package fox in memory; parts of lists of terms (plain). -/
/- fox.sum: the closure part. -/
/- word.Valid. -/
/- fox.Augment, laurent.Of, word.Exponents. -/
import Derived.Test.YtjeklcgfffibpaaGreatDoorZMsp
import Derived.Shelf.AbstractIn
import Derived.Shelf.SlIterI.Nil
import Derived.Shelf.SortM.Plain
import Derived.Shelf.SortM.SortNone
import Derived.Test.YtjeklcgfffibpaaGreatDoorZOfp
import Derived.Test.YtjeklcgfffibpaaGreatDoorZTab
import Derived.Test.YtjeklcgfffibpaaGreatDoorZPad
import Derived.Test.YtjeklcgfffibpaaGreatDoorZPhs
import Derived.Test.YtjeklcgfffibpaaGreatDoorZDia
import Derived.Test.YtjeklcgfffibpaaGreatDoorZOwn
namespace Go.Proofs.YtjeklcgfffibpaaGreatDoor
-- part: Spl
section
open Go.Maps
set_option linter.unusedVariables false

def ddp : List Int → List Int
  | [] => []
  | x :: l => if x ∈ l then ddp l else x :: ddp l
theorem ddp_mem {l : List Int} {x : Int} : x ∈ ddp l ↔ x ∈ l := by
  induction l with
  | nil => rfl
  | cons y l ih =>
    rw [ddp]
    split
    · next h =>
      rw [ih, List.mem_cons]
      constructor
      · exact .inr
      · rintro (rfl | h2)
        · exact h
        · exact h2
    · rw [List.mem_cons, List.mem_cons, ih]
theorem ddp_nodup : ∀ l : List Int, (ddp l).Nodup
  | [] => List.nodup_nil
  | y :: l => by
    rw [ddp]
    split
    · exact ddp_nodup l
    · next h => exact List.nodup_cons.2 ⟨fun k => h (ddp_mem.1 k), ddp_nodup l⟩
def keysL (done : List (Int × Int)) : List Int := (ddp (done.map (·.1))).mergeSort leI
theorem keysL_mem {done : List (Int × Int)} {x : Int} : x ∈ keysL done ↔ ∃ t ∈ done, t.1 = x := by
  unfold keysL
  rw [(List.mergeSort_perm _ leI).mem_iff, ddp_mem, List.mem_map]
theorem keysL_srt (done : List (Int × Int)) : (keysL done).Pairwise (· < ·) := by
  have tr : ∀ a b c : Int, leI a b = true → leI b c = true → leI a c = true := fun a b c h1 h2 => by simp only [leI, decide_eq_true_eq] at *; exact Int.le_trans h1 h2
  have tot : ∀ a b : Int, (leI a b || leI b a) = true := fun a b => by simp only [leI, Bool.or_eq_true, decide_eq_true_eq]; exact Int.le_total a b
  have h1 := List.pairwise_mergeSort tr tot (ddp (done.map (·.1)))
  have h2 : (keysL done).Nodup := (List.mergeSort_perm _ leI).nodup_iff.2 (ddp_nodup _)
  refine (h1.and h2).imp fun {a b} h => ?_
  have h3 : a ≤ b := by simpa [leI] using h.1
  have h4 : a ≠ b := h.2
  omega
theorem ddp_len : ∀ l : List Int, (ddp l).length ≤ l.length
  | [] => Nat.le_refl _
  | y :: l => by
    have := ddp_len l
    rw [ddp]
    split <;> simp only [List.length_cons] <;> omega
theorem keysL_len (done : List (Int × Int)) : (keysL done).length ≤ done.length := by
  unfold keysL
  rw [List.length_mergeSort]
  have := ddp_len (done.map (·.1))
  rw [List.length_map] at this
  exact this
/-- the terms at some exponents -/
def spF (F : Int → Int) : List Int → List (Int × Int)
  | [] => []
  | e :: l => (if F e = 0 then [] else [(e, F e)]) ++ spF F l
theorem spF_append (F : Int → Int) (l m : List Int) : spF F (l ++ m) = spF F l ++ spF F m := by
  induction l with
  | nil => rfl
  | cons e l ih => rw [List.cons_append, spF, spF, ih, List.append_assoc]
theorem spF_snoc (F : Int → Int) (l : List Int) (e : Int) : spF F (l ++ [e]) = spF F l ++ if F e = 0 then [] else [(e, F e)] := by rw [spF_append, spF, spF, List.append_nil]
theorem spF_mem {F : Int → Int} {l : List Int} {t : Int × Int} (h : t ∈ spF F l) : t.1 ∈ l ∧ t.2 = F t.1 ∧ t.2 ≠ 0 := by
  induction l with
  | nil => cases h
  | cons e l ih =>
    rw [spF] at h
    rcases List.mem_append.1 h with h | h
    · split at h
      · cases h
      · next h0 => rw [List.mem_singleton.1 h]; exact ⟨List.mem_cons_self .., rfl, h0⟩
    · have := ih h; exact ⟨List.mem_cons_of_mem _ this.1, this.2⟩
theorem spF_len (F : Int → Int) : ∀ l : List Int, (spF F l).length ≤ l.length
  | [] => Nat.le_refl _
  | e :: l => by
    have := spF_len F l
    rw [spF, List.length_append]
    split <;> simp <;> omega
theorem spF_can {F : Int → Int} : ∀ {l : List Int}, l.Pairwise (· < ·) → Can (spF F l)
  | [], _ => Can.nil
  | e :: l, h => by
    obtain ⟨h1, h2⟩ := List.pairwise_cons.1 h
    have ih := spF_can (F := F) h2
    rw [spF]
    split
    · exact ih
    · next h0 =>
      refine ⟨List.pairwise_cons.2 ⟨fun s hs => h1 _ (spF_mem hs).1, ih.srt⟩, fun t ht => ?_⟩
      rcases List.mem_cons.1 ht with rfl | ht
      · exact h0
      · exact ih.nz t ht
theorem spF_cf {F : Int → Int} {l : List Int} (h : l.Pairwise (· < ·)) (x : Int) : cf (spF F l) x = if x ∈ l then F x else 0 := by
  by_cases hx : x ∈ l
  · rw [if_pos hx]
    by_cases h0 : F x = 0
    · rw [h0]; exact cf_out fun t ht e => (spF_mem ht).2.2 (by rw [(spF_mem ht).2.1, e, h0])
    · have hm : (x, F x) ∈ spF F l := by
        clear h
        induction l with
        | nil => cases hx
        | cons e l ih =>
          rw [spF]
          rcases List.mem_cons.1 hx with rfl | hx
          · exact List.mem_append_left _ (by rw [if_neg h0]; exact List.mem_cons_self ..)
          · exact List.mem_append_right _ (ih hx)
      exact cf_mem (spF_can h).srt hm
  · rw [if_neg hx]
    exact cf_out fun t ht e => hx (e ▸ (spF_mem ht).1)
/-- the end of the sparse product -/
theorem mul_ends {p q : List (Int × Int)} (hx : ∀ s ∈ p, ∀ t ∈ q, -1048576 ≤ s.1 + t.1 ∧ s.1 + t.1 ≤ 1048576) (hb : ∀ e ∈ keysL (prs p q), -1125899906842624 ≤ cv p q e ∧ cv p q e ≤ 1125899906842624) : MulP (some p) (some q) (some (spF (cv p q) (keysL (prs p q)))) := by
  refine .inl ⟨_, rfl, spF_can (keysL_srt _), ⟨fun t ht => ?_, fun t ht => ?_⟩, fun e => ?_⟩
  · rw [(spF_mem ht).2.1]; exact hb _ (spF_mem ht).1
  · obtain ⟨u, hu, he⟩ := keysL_mem.1 (spF_mem ht).1
    obtain ⟨s, hs, t', ht', rfl⟩ := prs_mem hu
    rw [← he]; exact hx s hs t' ht'
  · rw [spF_cf (keysL_srt _)]
    by_cases h : e ∈ keysL (prs p q)
    · rw [if_pos h]
    · rw [if_neg h, ← cf_prs]
      exact (cf_out fun t ht he => h (keysL_mem.2 ⟨t, ht, he⟩)).symm
/-- the keys of the map, sorted -/
theorem MD.keys {done : List (Int × Int)} {D : DataW Unit} {w : World} {g : Nat} (h : MD done D) (hown : w.ownsMap Tryz.prog 3 wElem g done.length D) {ss : List Int} (hp : ss.Perm (intKeys D)) : ss.mergeSort (fun x y => decide (x ≤ y)) = keysL done := by
  have h1 : CollectedI D (fun _ => false) (ddp (done.map (·.1))) := ⟨ddp_nodup _, fun x => by
    rw [ddp_mem, List.mem_map]
    have := h.has x
    unfold kyI at this
    rw [this]; simp⟩
  have h2 := h1.perm hown keyed_int Tryz.underlying3 (fun _ => rfl)
  exact mergeSort_of_perm_i (hp.trans h2.symm)
theorem MD.size_le {done : List (Int × Int)} {D : DataW Unit} {w : World} {g : Nat} (hown : w.ownsMap Tryz.prog 3 wElem g done.length D) : Maps.size D ≤ done.length := hown.size_le
end
-- part: Srk
section
open Go.RowKit Go.Maps Go.Sort Go.Shelf
set_option linter.unusedVariables false

theorem sortsI (m : Nat) : AnyZI.SortsIn Tryz.prog Tryz.sortedI_ren Fence.wide m :=
  ⟨fun blk off cap ss W hH hblk hsz => callsIn_wide.2 (AnyM.slices_Sort_int Tryz.sortI blk off cap ss W hH hblk hsz),
   fun p cap W => callsIn_wide.2 (AnyM.slices_Sort_int_none Tryz.sortI p cap W)⟩
theorem keys_any (mb : Option Nat) (W : World) : Calls Tryz.prog 65 #[.map mb] W fun e w' => e = .returned (.func (.func 84) #[] #[.pointer (some ⟨W.heap.size, 0, none⟩)]) ∧ w' = W.alloc (.cells #[.map mb] 104) :=
  (callsIn_wide (n := 5)).1 (AnyZI.keys_in Tryz.keysI Fence.wide 5 trivial rfl mb W)
set_option maxHeartbeats 1000000 in
theorem sorted_any (b nn : Nat) (D0 : DataW Unit) (R : Value → Option (DataW Unit × List MemPlace)) (w : World) (hown : w.ownsMap Tryz.prog 3 R b nn D0) (hmax : Maps.size D0 ≤ maxLen) (hbytes : Maps.size D0 * 8 ≤ 140737488355328) :
    Calls Tryz.prog 64 #[.func (.func 84) #[] #[.pointer (some ⟨w.heap.size, 0, none⟩)]] (w.alloc (.cells #[.map (some b)] 104)) fun e w' => ∃ (v : Value) (ss : List Int), e = .returned v ∧ ss.Perm (intKeys D0) ∧
      w'.ownsRow (w.alloc (.cells #[.map (some b)] 104)).heap.size 3 1 v ss.length ((ss.mergeSort (fun x y => decide (x ≤ y))).map encZ) ∧ (v = .slice none 0 0 ↔ ss = []) ∧ Below (w.alloc (.cells #[.map (some b)] 104)).heap.size (w.alloc (.cells #[.map (some b)] 104)) w' := by
  have hbl := hown.lt
  have hseq : SeqGives Fence.wide 2 Tryz.prog 84 #[.pointer (some ⟨w.heap.size, 0, none⟩)] encZ (fun ss => ss.Perm (intKeys D0)) (Maps.size D0) (w.alloc (.cells #[.map (some b)] 104)) :=
    AnyZI.keys_gives (ρ := Tryz.keysI_ren) { Tryz.keysI with } Fence.wide _ trivial rfl (by omega) w.heap.size b nn D0 _ (by simp) (by simp) (by
      obtain ⟨es, clock, hb, Ft, hs, hD⟩ := hown
      exact ⟨es, clock, (Below.heap_alloc _ _ b hbl).trans hb, Ft, hs, hD⟩)
  have cS := AnyZI.sorted_in Tryz.sortedI Fence.wide 5 trivial trivial trivial trivial rfl (by omega) (sortsI _) (enters_of Tryz.func83 (by kernel_rfl) rfl) 84 #[.pointer (some ⟨w.heap.size, 0, none⟩)] trivial (enters_of Tryz.func84 (by kernel_rfl) rfl) _ _ hmax hbytes _ hseq
  refine (callsIn_wide.1 cS).mono fun e w' h => ?_
  exact h
end
-- part: Sps
section
open Go.RowKit Go.Maps
set_option linter.unusedVariables false

/-- the state of a loop that appends terms to a polynomial in the box rb; all else below N stays -/
structure LSt (base N rb : Nat) (wS : World) (s : Value) (R : List (Int × Int)) (W : World) : Prop where
  own : OwnT N W s R
  rr : Arr W rb 39 [.bool false, s]
  oth : ∀ k, k < N → k ≠ rb → W.heap[k]? = wS.heap[k]?
  bel : Below base wS W
  sz : N ≤ W.heap.size
section
variable {base N rb : Nat} {wS W W' : World} {s : Value} {R : List (Int × Int)}
theorem LSt.below (h : LSt base N rb wS s R W) (hb : Below W.heap.size W W') (hN : base ≤ N) (hr : rb < N) : LSt base N rb wS s R W' :=
  ⟨h.own.below hb, h.rr.below hb h.rr.lt, fun k hk h1 => (hb.block k (Nat.lt_of_lt_of_le hk h.sz)).trans (h.oth k hk h1), h.bel.trans (hb.mono (Nat.le_trans hN h.sz)), Nat.le_trans h.sz hb.size⟩
theorem LSt.arr (h : LSt base N rb wS s R W) {k : Nat} {t : TypeId} {cs : List Value} (ha : Arr wS k t cs) (hk : k < N) (hr : k ≠ rb) : Arr W k t cs := (h.oth k hk hr).trans ha
theorem LSt.app (h : LSt base N rb wS s R W) {s' : Value} {m : Int × Int} (ho : OwnT N W' s' (R ++ [m])) (hg : Gr N W W' s.ownBlock) (hN : base ≤ rb) (hr : rb < N) : Arr W' rb 39 [.bool false, s] ∧ LSt base N rb wS s' (R ++ [m]) (W'.setCell ⟨rb, 1, none⟩ s') := by
  have a1 := h.own.apart h.rr (by decide)
  have q1 : Arr W' rb 39 [.bool false, s] := (hg.keep _ h.rr.lt a1).trans h.rr
  have hNk : ∀ k, k < N → s.ownBlock ≠ some k := fun k hk e => by have := (h.own.lt k e).1; omega
  exact ⟨q1, ho.far (p := ⟨rb, 1, none⟩) (ho.apart q1 (by decide)) _, q1.set 1 _, fun k hk h1 => (Below.heap_setCell W' ⟨rb, 1, none⟩ s' k h1).trans ((hg.keep k (Nat.lt_of_lt_of_le hk h.sz) (hNk k hk)).trans (h.oth k hk h1)), (h.bel.trans (hg.below.mono (by omega))).setCell (p := ⟨rb, 1, none⟩) hN _, by have := Nat.le_trans h.sz hg.below.size; simpa using this⟩
end
theorem clo_sparse (Mb g base : Nat) (p q : List (Int × Int)) (lp : Lim p) (kp : Can p) (lq : Lim q) (kq : Can q) (hbg : base ≤ g) (w : World) (hbw : base ≤ w.heap.size) : CloP 63 [.pointer (some ⟨Mb, 0, none⟩)] g base p q (fun d W => MapS Mb g d W ∧ base ≤ W.heap.size) where
  eg := enters_of Tryz.func63 (by kernel_rfl) rfl
  st := fun done e c rest W h hJ => by
    have hm : (e, c) ∈ prs p q := by rw [h]; simp
    obtain ⟨s, hs, t, ht, he⟩ := prs_mem hm
    have h1 := lp.ex s hs
    have h2 := lq.ex t ht
    have h3 : e = s.1 + t.1 := congrArg Prod.fst he
    have h4 : done.length ≤ 1000000000000000 := by
      have h5 := congrArg List.length h
      rw [prs_len, List.length_append] at h5
      have h6 := Nat.mul_le_mul (lp.len kp) (lq.len kq)
      omega
    exact (spclo_any Mb g base e c done W hJ.1 (by omega) h4 hbg hJ.2).mono fun en w' ⟨a, b, o⟩ => ⟨a, ⟨b, Nat.le_trans hJ.2 o.below.size⟩, o⟩
  kp := fun done W W' h hb => ⟨h.1.kp hb, Nat.le_trans h.2 hb.size⟩
theorem OwnI.keepB {e : TypeId} {base : Nat} {w w' : World} {v : Value} {xs : List Int} (h : OwnI e base w v xs) (hk : ∀ k, v.ownBlock = some k → base ≤ k → k < w.heap.size → w'.heap[k]? = w.heap[k]?) : OwnI e base w' v xs := by
  refine ⟨h.1, ?_⟩
  rcases h.2 with h0 | ⟨b, cap, cur, rfl, hg, hh, r⟩
  · exact .inl h0
  · exact .inr ⟨b, cap, cur, rfl, hg, (hk b rfl hg (Array.getElem?_eq_some_iff.1 hh).1).trans hh, r⟩
theorem MapS.keepB {Mb g : Nat} {done : List (Int × Int)} {W W' : World} (h : MapS Mb g done W) (h1 : W'.heap[Mb]? = W.heap[Mb]?) (h2 : W'.heap[g]? = W.heap[g]?) : MapS Mb g done W' := by
  obtain ⟨D, ⟨es, clock, hh, F, hs, hD⟩, h3⟩ := h.ex
  exact ⟨h1.trans h.mm, D, ⟨es, clock, h2.trans hh, F, hs, hD⟩, h3⟩
theorem smB_cases (x : Int) : (smB x = true ∧ smN x = x ∧ -1125899906842624 ≤ x ∧ x ≤ 1125899906842624) ∨ (smB x = false ∧ ¬ (-1125899906842624 ≤ x ∧ x ≤ 1125899906842624)) := by
  by_cases h : -1125899906842624 ≤ x ∧ x ≤ 1125899906842624
  · exact .inl ⟨decide_eq_true h, by unfold smN; rw [if_pos h], h⟩
  · exact .inr ⟨decide_eq_false h, h⟩
def MulR (p q : Pol) (w : World) (e : Ending) (w' : World) : Prop := ∃ v r, e = .returned v ∧ PolyV w' v r ∧ MulP p q r ∧ Below w.heap.size w w'
set_option maxHeartbeats 4000000 in
set_option maxRecDepth 100000 in
theorem sparse_any (vp vq : Value) (p q : List (Int × Int)) (w : World) (hp : PolyV w vp (some p)) (hq : PolyV w vq (some q)) (lp : Lim p) (kp : Can p) (lq : Lim q) (kq : Can q) (hx : ∀ s ∈ p, ∀ t ∈ q, -1048576 ≤ s.1 + t.1 ∧ s.1 + t.1 ≤ 1048576) :
    Calls Tryz.prog 37 #[vp, vq] w (MulR (some p) (some q) w) := by
  have HPV := Lib.hid (fun W (hb : Below w.heap.size w W) => hp.below hb)
  have HQV := Lib.hid (fun W (hb : Below w.heap.size w W) => hq.below hb)
  have HLM := Lib.hid (And.intro (And.intro lp kp) (And.intro lq kq))
  have HX := Lib.hid hx
  obtain ⟨b1, A, n, c, rfl, j1, j2⟩ := hp.parts
  obtain ⟨b2, A2, n2, c2, rfl, j3, j4⟩ := hq.parts
  clear hp hq lp kp lq kq hx j1 j2 j3 j4
  have hW : ∀ W, W = ((((((w.alloc (.cells #[.bool b1, .slice A n c] 39)).alloc (.cells #[.bool b2, .slice A2 n2 c2] 39)).alloc (.cells #[.bool false, .slice none 0 0] 39))).alloc (.map #[] 0)).alloc (.cells #[.map (some (w.heap.size + 3))] 104)) → (MapS (w.heap.size + 4) (w.heap.size + 3) [] W ∧ w.heap.size ≤ W.heap.size) ∧ Arr W w.heap.size 39 [.bool b1, .slice A n c] ∧ Arr W (w.heap.size + 1) 39 [.bool b2, .slice A2 n2 c2] ∧ Arr W (w.heap.size + 2) 39 [.bool false, .slice none 0 0] ∧ Below w.heap.size w W ∧ W.heap.size = w.heap.size + 5 := by
    intro W hW
    subst hW
    have e3 : (((w.alloc (.cells #[.bool b1, .slice A n c] 39)).alloc (.cells #[.bool b2, .slice A2 n2 c2] 39)).alloc (.cells #[.bool false, .slice none 0 0] 39)).heap.size = w.heap.size + 3 := by simp
    have hm := World.ownsMap_made (((w.alloc (.cells #[.bool b1, .slice A n c] 39)).alloc (.cells #[.bool b2, .slice A2 n2 c2] 39)).alloc (.cells #[.bool false, .slice none 0 0] 39)) Tryz.prog 3 wElem
    rw [e3] at hm
    exact ⟨⟨⟨Arr.newAt (((((w.alloc _).alloc _).alloc _)).alloc _) _ [_] _ (by simp), _, hm.alloc _, MD.start⟩, by simp; omega⟩, ((((Arr.new _ _ [_, _]).alloc _).alloc _).alloc _).alloc _, (((Arr.newAt (w.alloc _) _ [_, _] _ (by simp)).alloc _).alloc _).alloc _, ((Arr.newAt ((w.alloc _).alloc _) _ [_, _] _ (by simp)).alloc _).alloc _, (((((Below.refl _ _).alloc (Nat.le_refl _) _).alloc (by simp) _).alloc (by simp <;> omega) _).alloc (by simp <;> omega) _).alloc (by simp <;> omega) _, by simp⟩
  have hmm := @run_makeMap Tryz.prog
  go_enter Tryz.func37, Tryz.ntmps37
  go_upto_region 2 with fail
  generalize ((((((w.alloc (.cells #[.bool b1, .slice A n c] 39)).alloc (.cells #[.bool b2, .slice A2 n2 c2] 39)).alloc (.cells #[.bool false, .slice none 0 0] 39))).alloc (.map #[] 0)).alloc (.cells #[.map (some (w.heap.size + 1 + 1 + 1))] 104)) = w3 at hW ⊢
  obtain ⟨hj3, qp, qq, qr, hb3, hs3⟩ := hW w3 rfl
  have HPR := Lib.hid (products_reg1 63 (.pointer (some ⟨w.heap.size + 4, 0, none⟩)) (w.heap.size + 3) w.heap.size p q _ (clo_sparse (w.heap.size + 4) (w.heap.size + 3) w.heap.size p q HLM.out.1.1 HLM.out.1.2 HLM.out.2.1 HLM.out.2.2 (by omega) w (Nat.le_refl _)) (.agg #[.bool b1, .slice A n c]) (.agg #[.bool b2, .slice A2 n2 c2]) w3 (fun W hb => HPV.out W (hb3.trans hb)) (fun W hb => HQV.out W (hb3.trans hb)) HLM.out.1.1 HLM.out.1.2 HLM.out.2.1 HLM.out.2.2 (by omega) (by omega) hj3)
  have HQR := Lib.hid qr
  have HB3 := Lib.hid hb3
  have HS3 := Lib.hid hs3
  have y0 := qp.cell 0
  have y1 := qp.cell 1
  have y2 := qq.cell 0
  have y3 := qq.cell 1
  clear hW hj3 hb3 qp qq qr hmm hs3
  go_wp2_with fail
  refine HPR.out.mono ?_
  rintro e w4 ⟨rfl, hj4, ho4⟩
  have HJ4 := Lib.hid hj4.1
  have HB4 := Lib.hid (HB3.out.trans ho4.below)
  have HQ4 := Lib.hid (ho4.at_ HQR.out (by omega))
  have HS4 := Lib.hid (show w.heap.size + 5 ≤ w4.heap.size from by have := ho4.below.size; have := HS3.out; omega)
  clear HPR hj4 ho4 y0 y1 y2 y3 HQR HB3 HS3
  have hW5 : ∀ W, W = w4.alloc (.cells #[.bool false, .slice none 0 0] 39) → MapS (w.heap.size + 4) (w.heap.size + 3) (prs p q) W ∧ Arr W (w.heap.size + 2) 39 [.bool false, .slice none 0 0] ∧ Arr W w4.heap.size 39 [.bool false, .slice none 0 0] ∧ Below w.heap.size w W ∧ W.heap.size = w4.heap.size + 1 := by
    intro W hW
    subst hW
    have hb : Below w4.heap.size w4 (w4.alloc (.cells #[.bool false, .slice none 0 0] 39)) := (Below.refl _ _).alloc (Nat.le_refl _) _
    exact ⟨HJ4.out.kp hb, HQ4.out.below hb HQ4.out.lt, Arr.new _ _ [_, _], HB4.out.trans (hb.mono (by have := HS4.out; omega)), by simp⟩
  go_upto_region 4 with fail
  generalize (w4.alloc (.cells #[.bool false, .slice none 0 0] 39)) = w5 at hW5 ⊢
  obtain ⟨hj5, qr5, qb5, hb5, hs5⟩ := hW5 w5 rfl
  obtain ⟨rb, hrb⟩ : ∃ r, r = w4.heap.size := ⟨_, rfl⟩
  rw [← hrb] at qb5 hs5 HS4 ⊢
  obtain ⟨D, hD1, hD2⟩ := hj5.ex
  have hsize : Maps.size D ≤ 4398058045449 := by
    have h1 := MD.size_le hD1
    have h2 := Nat.mul_le_mul (HLM.out.1.1.len HLM.out.1.2) (HLM.out.2.1.len HLM.out.2.2)
    rw [prs_len] at h1
    omega
  have HSO := Lib.hid (sorted_any (w.heap.size + 3) _ D wElem w5 hD1 (by unfold maxLen; omega) (by omega))
  have HKL := Lib.hid (fun ss (h : List.Perm ss (intKeys D)) => hD2.keys hD1 h)
  have HKY := Lib.hid (keys_any (some (w.heap.size + 3)) w5)
  have HJ5 := Lib.hid hj5
  have HQ5 := Lib.hid qr5
  have HR5 := Lib.hid qb5
  have HB5 := Lib.hid hb5
  have HS5 := Lib.hid hs5
  have y0 := hj5.mm.cell 0
  clear hW5 hj5 qr5 qb5 hb5 hs5 hrb hD1 hD2 hsize HJ4 HQ4 HB4
  go_wp2_with fail
  refine HKY.out.mono ?_
  rintro e w6 ⟨rfl, rfl⟩
  go_wp2_with fail
  refine HSO.out.mono ?_
  rintro e w7 ⟨v, ss, rfl, hperm, hrow, _, hb7⟩
  have hks := HKL.out ss hperm
  have hln : ss.length = (keysL (prs p q)).length := by rw [← hks, List.length_mergeSort]
  have HOW := Lib.hid (show OwnI 3 (w5.heap.size + 1) w7 v (keysL (prs p q)) from by
    unfold OwnI
    rw [hks, hln] at hrow
    simpa [encZ] using hrow)
  have hb57 : Below w5.heap.size w5 w7 := ((Below.refl _ _).alloc (Nat.le_refl _) _).trans (hb7.mono (by simp))
  have HJ7 := Lib.hid (HJ5.out.kp hb57)
  have HQ7 := Lib.hid (HQ5.out.below hb57 HQ5.out.lt)
  have HB7 := Lib.hid (HB5.out.trans (hb57.mono HB5.out.size))
  have HS7 := Lib.hid (show w5.heap.size ≤ w7.heap.size ∧ w.heap.size + 5 ≤ rb ∧ rb < w5.heap.size from ⟨hb57.size, HS4.out, by have := HS5.out; omega⟩)
  have HST := Lib.hid (show LSt w.heap.size w7.heap.size rb w7 (.slice none 0 0) [] w7 from ⟨OwnT.nil _ _, HR5.out.below hb57 HR5.out.lt, fun _ _ _ => rfl, Below.refl _ _, Nat.le_refl _⟩)
  have HF := Lib.hid (show ∀ e, cf (prs p q) e = cv p q e from cf_prs p q)
  have HBD := Lib.hid (HLM.out.1.1.cvbd HLM.out.1.2 HLM.out.2.1 HLM.out.2.2)
  have HKX := Lib.hid (show ∀ e ∈ keysL (prs p q), -1048576 ≤ e ∧ e ≤ 1048576 from fun e he => by
    obtain ⟨u, hu, he2⟩ := keysL_mem.1 he
    obtain ⟨s, hs, t, ht, rfl⟩ := prs_mem hu
    rw [← he2]; exact HX.out s hs t ht)
  have HLN := Lib.hid (show ∀ k, (spF (cv p q) ((keysL (prs p q)).take k)).length ≤ 100000000 from fun k => by
    have h1 := srt_len (a := -1048576) (b := 1048576) (spF_can (F := cv p q) (List.Pairwise.sublist (List.take_sublist k _) (keysL_srt (prs p q)))).srt (fun t ht => HKX.out _ (List.mem_of_mem_take (spF_mem ht).1)) (by omega)
    omega)
  have HKN := Lib.hid (show (keysL (prs p q)).length ≤ 4398058045449 from by
    have h1 := keysL_len (prs p q)
    have h2 := Nat.mul_le_mul (HLM.out.1.1.len HLM.out.1.2) (HLM.out.2.1.len HLM.out.2.2)
    rw [prs_len] at h1
    omega)
  have HEND := Lib.hid (show (∀ e ∈ keysL (prs p q), -1125899906842624 ≤ cv p q e ∧ cv p q e ≤ 1125899906842624) → MulP (some p) (some q) (some (spF (cv p q) (keysL (prs p q)))) from mul_ends HX.out)
  have HBAD := Lib.hid (show ∀ e, ¬ (-1125899906842624 ≤ cv p q e ∧ cv p q e ≤ 1125899906842624) → MulP (some p) (some q) none from fun e h => mul_bad h)
  obtain ⟨KL, hKL⟩ : ∃ l, l = keysL (prs p q) := ⟨_, rfl⟩
  obtain ⟨F, hFF⟩ : ∃ f, f = cv p q := ⟨_, rfl⟩
  rw [← hKL] at HOW HKX HLN HKN HEND
  rw [← hFF] at HF HBD HLN HEND HBAD
  obtain ⟨Ak, ck, rfl⟩ := HOW.out.form
  clear hks hln hperm hrow hb7 hb57 HKL hKL hFF HSO HKY HJ5 HQ5 HR5 HB5 HS4 HS5 HX HLM HPV HQV y0
  have hkn := HKN.out
  go_wp2_with fail
  go_loopg [8, 9, 10, 20] KL.length (fun gk s8 s9 s10 s20 wr => ∃ (k : Nat) (s : Value), k ≤ KL.length ∧ gk = KL.length - k ∧ s20 = .int .i64 (k : Int) ∧ LSt w.heap.size w7.heap.size rb w7 s (spF F (KL.take k)) wr ∧ Hid (∀ e ∈ KL.take k, -1125899906842624 ≤ F e ∧ F e ≤ 1125899906842624))
  case atStart => exact ⟨0, _, Nat.zero_le _, rfl, rfl, HST.out, Lib.hid (fun e h => by simp at h)⟩
  case round =>
    clear HST
    obtain ⟨k, s, hk, rfl, rfl, hst, HK⟩ := hrel
    by_cases hlt : k < KL.length
    · have z1 : (k : Int) < (KL.length : Int) := by omega
      have h57 := HS7.out
      have HIN := Lib.hid (HOW.out.keepB (fun j _ h1 h2 => hst.oth j h2 (by omega))).ints
      have hm := HJ7.out.keepB (hst.oth (w.heap.size + 4) (by omega) (by omega)) (hst.oth (w.heap.size + 3) (by omega) (by omega))
      have hex := HKX.out _ (List.getElem_mem hlt)
      have hlk := hm.look (e := KL[k]) (by omega)
      have ym := hm.mm.cell 0
      rw [HF.out] at hlk
      have hbd := HBD.out KL[k]
      have HSM := Lib.hid (fun W => wsmall_any (F KL[k]) W (by omega) (by omega))
      have HSN := Lib.hid (show spF F (KL.take (k + 1)) = spF F (KL.take k) ++ if F KL[k] = 0 then [] else [(KL[k], F KL[k])] from by
        rw [List.take_add_one, List.getElem?_eq_getElem hlt, Option.toList_some, spF_snoc])
      have HKN2 := Lib.hid (show (-1125899906842624 ≤ F KL[k] ∧ F KL[k] ≤ 1125899906842624) → ∀ e ∈ KL.take (k + 1), -1125899906842624 ≤ F e ∧ F e ≤ 1125899906842624 from fun h e he => by
        rw [List.take_add_one, List.getElem?_eq_getElem hlt, Option.toList_some] at he
        rcases List.mem_append.1 he with he | he
        · exact HK.out e he
        · rw [List.mem_singleton.1 he]; exact h)
      obtain ⟨b, o, ⟨c', hv⟩, _, hcell⟩ := ints_atZ HIN.out hlt
      injection hv with hv1 hv2 hv3
      subst hv1 hv3
      clear hv2 HIN hm hbd HK
      have HRL := Lib.hid (HLN.out k)
      generalize hR : spF F (KL.take k) = R at *
      clear hR
      generalize KL[k] = x at *
      have qr := hst.arr HQ7.out (by omega) (by omega)
      have HB := Lib.hid (HB7.out.trans hst.bel)
      have HST := Lib.hid hst
      obtain ⟨Ax, nx, cx, rfl⟩ := hst.own.form3
      have HQ := Lib.hid qr
      clear hst qr
      rcases smB_cases (F x) with ⟨g1, g2, g3⟩ | ⟨g1, g2⟩
      · have HG3 := Lib.hid g3
        have HK3 := Lib.hid (HKN2.out g3)
        rw [g1, g2] at HSM
        clear g1 g2 HKN2
        generalize F x = cx_ at *
        go_wp2_with fail
        refine (HSM.out _).mono ?_
        rintro e w8 ⟨rfl, hb8⟩
        have hst8 := HST.out.below hb8 (by omega) (by omega)
        have HST8 := Lib.hid hst8
        clear HSM hlk ym hcell hb8 HST HB HQ
        have q1 := hst8.rr
        have y1 := q1.cell 1
        by_cases h0 : cx_ = 0
        · have z2 : (cx_ != 0) = false := by simp [h0]
          have HS2 := Lib.hid (show spF F (KL.take (k + 1)) = R by rw [HSN.out, if_pos h0, List.append_nil])
          clear h0 HSN hst8 q1 y1
          go_wp2_with fail
          go_roundg (KL.length - (k + 1))
          case measure => omega
          case rel => exact ⟨k + 1, _, by omega, rfl, by go_num, by rw [HS2.out]; exact HST8.out, HK3⟩
        · have z2 : (cx_ != 0) = true := by simp [h0]
          have HS2 := Lib.hid (show spF F (KL.take (k + 1)) = R ++ [(x, cx_)] by rw [HSN.out, if_neg h0])
          have HUU := Lib.hid (Arr.new w8 68 [.int .i64 x, .int .i64 cx_])
          have HSA := Lib.hid (hst8.below ((Below.refl _ _).alloc (Nat.le_refl _) (.cells #[.int .i64 x, .int .i64 cx_] 68)) (by omega) (by omega))
          have HSZ := Lib.hid HSA.out.sz
          have HRB := Lib.hid (show w.heap.size ≤ rb ∧ rb < w7.heap.size by omega)
          clear h0 HSN hst8 q1
          go_wp2_with (at_builtin; refine wpList_appT rfl (.tmp 37) (.tmp 41) rfl rfl HSA.out.own (m := (x, cx_)) rfl HUU.out HRL.out HSZ.out ?_; intro v' w1 hown1 hgr1; obtain ⟨q1, h2⟩ := HSA.out.app hown1 hgr1 HRB.out.1 HRB.out.2; obtain ⟨Av, nv, cv, rfl⟩ := hown1.form3; have HN := Lib.hid h2; have f1 := q1.frozen 1; have yq := q1.cell 1; clear hown1 hgr1 q1 h2)
          go_roundg (KL.length - (k + 1))
          case measure => omega
          case rel => exact ⟨k + 1, _, by omega, rfl, by go_num, by rw [HS2.out]; exact HN.out, HK3⟩
      · have HBD2 := Lib.hid (HBAD.out x g2)
        rw [g1] at HSM
        clear g1 g2 HKN2 HSN
        generalize F x = cx_ at *
        generalize smN cx_ = sn at *
        go_wp2_with fail
        refine (HSM.out _).mono ?_
        rintro e w8 ⟨rfl, hb8⟩
        have qr := HQ.out.below hb8 HQ.out.lt
        have f0 := qr.frozen 0
        have f1 := qr.frozen 1
        have x0 := qr.cell 0
        have x1 := qr.cell 1
        have HRS := Lib.hid ((qr.set 0 (.bool true)).set 1 (.slice none 0 0))
        have HBE := Lib.hid (((HB.out.trans (hb8.mono HB.out.size)).setCell (p := ⟨w.heap.size + 2, 0, none⟩) (by show w.heap.size ≤ w.heap.size + 2; omega) (.bool true)).setCell (p := ⟨w.heap.size + 2, 1, none⟩) (by show w.heap.size ≤ w.heap.size + 2; omega) (.slice none 0 0))
        clear HSM hlk ym hcell hb8 HST HB HQ qr
        go_wp2_with fail
        refine bodyPost_ret (v := .agg #[.bool true, .slice none 0 0]) (results_c Tryz.results37 _ _ (w.heap.size + 2) 39 _ _ rfl HRS.out Tryz.underlying39 rfl info_poly) rfl ?_
        exact ⟨_, _, rfl, PolyV.big _, HBD2.out, HBE.out⟩
    · have z1 : ¬ (k : Int) < (KL.length : Int) := by omega
      have hkk : KL.take k = KL := List.take_of_length_le (by omega)
      have HE := Lib.hid (HEND.out (by have := HK.out; rwa [hkk] at this))
      rw [hkk] at hst
      obtain ⟨Ax, cx, rfl⟩ := hst.own.form
      have qr := hst.arr HQ7.out (by have := HS7.out; omega) (by have := HS7.out; omega)
      have q1 := hst.rr
      have y0 := q1.cell 0
      have y1 := q1.cell 1
      have f0 := qr.frozen 0
      have f1 := qr.frozen 1
      have x0 := qr.cell 0
      have x1 := qr.cell 1
      have HRS := Lib.hid ((qr.set 0 (.bool false)).set 1 (.slice Ax (spF F KL).length cx))
      have HPB := Lib.hid ((PolyV.own hst.own).box qr (.bool false) (.slice Ax (spF F KL).length cx))
      have HBE := Lib.hid (((HB7.out.trans hst.bel).setCell (p := ⟨w.heap.size + 2, 0, none⟩) (by show w.heap.size ≤ w.heap.size + 2; omega) (.bool false)).setCell (p := ⟨w.heap.size + 2, 1, none⟩) (by show w.heap.size ≤ w.heap.size + 2; omega) (.slice Ax (spF F KL).length cx))
      clear hst qr q1 hkk
      go_wp2_with fail
      refine bodyPost_ret (v := .agg #[.bool false, .slice Ax (spF F KL).length cx]) (results_c Tryz.results37 _ _ (w.heap.size + 2) 39 _ _ rfl HRS.out Tryz.underlying39 rfl info_poly) rfl ?_
      exact ⟨_, _, rfl, HPB.out, HE.out, HBE.out⟩
end
end Go.Proofs.YtjeklcgfffibpaaGreatDoor

namespace Go.Proofs.YtjeklcgfffibpaaGreatDoor
open Go.RowKit
set_option linter.unusedVariables false

/-- every operation but the late ones is needed by the store -/
def needL (ops : Array Oper) (n : Nat) (late : Nat → Bool) : Bool := (List.range ops.size).all fun i => decide (i = n) || late i || (List.range ops.size).any fun j => (decide (j = n) || (!late j && decide (i < j))) && (depsAt ops j).contains i
theorem needL_all {ops : Array Oper} {n : Nat} {late : Nat → Bool} (h : needL ops n late = true) {D : Nat → Bool} (hcl : ∀ j, D j = true → ∀ k ∈ depsAt ops j, D k = true) (hn : D n = true) : ∀ q i, i < ops.size → ops.size - i ≤ q → late i = false → D i = true := by
  intro q
  induction q with
  | zero => intro i h1 h2; omega
  | succ q ih =>
    intro i h1 h2 hl
    by_cases e : i = n
    · rw [e]; exact hn
    · have h3 := List.all_eq_true.1 h i (by simpa using h1)
      simp only [Bool.or_eq_true, decide_eq_true_eq, e, hl, false_or, Bool.false_eq_true] at h3
      obtain ⟨j, hj, h4⟩ := List.any_eq_true.1 h3
      simp only [Bool.and_eq_true, Bool.or_eq_true, decide_eq_true_eq, List.contains_iff_mem, Bool.not_eq_true'] at h4
      simp only [List.mem_range] at hj
      rcases h4.1 with e2 | e2
      · subst e2; exact hcl j hn i h4.2
      · exact hcl j (ih j hj (by omega) e2.1) i h4.2
section
variable {P : Program} {Q : Exit → Act → World → Prop}
structure PhlI (w0 : World) (n : Nat) (e : Nat → Option Value) (Φ : Nat → Value → World → Prop) (R : (Nat → Value) → World → Prop) (x0 : Nat → Value) (D : Nat → Bool) (x : Nat → Value) (w : World) : Prop where
  val : ∀ i v, D i = true → e i = some v → x i = v
  old : ∀ i, D i = false → x i = x0 i
  st : if D n = true then R x w else Below w0.heap.size w0 w ∧ ∀ i, D i = true → Φ i (x i) w
theorem wp_region_phil {id : Nat} {l : List Oper} {a : Act} {w0 : World} (n : Nat) (late : Nat → Bool) (hm : P.follows .mixedOrders = true) (hd : apartD (dstOf l.toArray) = true) (hb : backD l.toArray = true) (hg : l.all (fun o => o.guard.isNone) = true) (hn : inD a.tmps.size (dstOf l.toArray) = true)
    (hlt : late n = false) (hnl2 : n < l.length) (hneed : needL l.toArray n late = true)
    (e : Nat → Option Value) (Φ : Nat → Value → World → Prop) (hΦ : ∀ i v w w', Φ i v w → Below w.heap.size w w' → Φ i v w') (hv : ∀ i u v w, Φ i u w → e i = some v → u = v) (R : (Nat → Value) → World → Prop) (hRl : ∀ x w i v, late i = true → R x w → R (upd x i v) w)
    (hstep : AllOps (fun i o => ∀ (x : Nat → Value) w (b : Act), (∀ j, i ∈ depsAt l.toArray j → x j = slotV a ((dstOf l.toArray).getD (j - 0) none)) → (∀ t : Nat, b.tmps[t]?.getD undef = look (dstOf l.toArray) x a t) →
      (late i = false → i ≠ n → Below w0.heap.size w0 w → (∀ j ∈ deps o, Φ j (x j) w) → o.wp P b w (PhiPost w Φ i b o.dst) NoQ) ∧
      (i = n → Below w0.heap.size w0 w → (∀ j ∈ deps o, Φ j (x j) w) → o.wp P b w (fun a' w' => ∃ v, a' = b.put o.dst v ∧ R (upd x n v) w' ∧ ∀ u, e n = some u → v = u) NoQ) ∧
      (late i = true → (∀ j ∈ deps o, ∀ v, e j = some v → x j = v) → ∃ v, e i = some v ∧ (execOp b.eval o).run P w = .ok (.value v) w ∧ Φ i v w)) 0 l)
    (hend : ∀ (x : Nat → Value) w, R x w → (∀ i v, i < l.length → e i = some v → x i = v) → Q .normal (putAll (dstOf l.toArray) 0 x a) w) : (Code.region id l.toArray true).wp P Q a w0 := by
  refine wp_region_facts2U hm hd hb hg hn (PhlI w0 n e Φ R (fun j => slotV a ((dstOf l.toArray).getD (j - 0) none))) ⟨fun i v h => Bool.noConfusion h, fun _ _ => rfl, by rw [if_neg (by simp)]; exact ⟨(Below.refl _ _).drew, fun i h => Bool.noConfusion h⟩⟩ ?_ ?_
  · have key : ∀ k o, l[k]? = some o → ∀ D x W (b : Act), PhlI w0 n e Φ R (fun j => slotV a ((dstOf l.toArray).getD (j - 0) none)) D x W → D k = false → (∀ j ∈ deps o, D j = true) → (∀ j, D j = true → ∀ q ∈ depsAt l.toArray j, D q = true) → (∀ t : Nat, b.tmps[t]?.getD undef = look (dstOf l.toArray) x a t) → o.wp P b W (StepPost (PhlI w0 n e Φ R (fun j => slotV a ((dstOf l.toArray).getD (j - 0) none))) D x k b o.dst) NoQ := by
      intro k o ho D x W b hI hD hdep hcl hbt
      have hklt : k < l.length := (List.getElem?_eq_some_iff.1 ho).1
      have hs := hstep.get _ _ k o ho x W b (fun j hj => hI.old j (by
        cases h : D j with
        | false => rfl
        | true =>
          rw [Nat.zero_add] at hj
          have := hcl j h k hj
          rw [hD] at this; cases this)) hbt
      rw [Nat.zero_add] at hs
      obtain ⟨s1, s2, s3⟩ := hs
      have hold : ∀ v, ∀ i, upd D k true i = false → upd x k v i = slotV a ((dstOf l.toArray).getD (i - 0) none) := fun v i hi => by
        by_cases q : i = k
        · subst q; rw [upd_same] at hi; cases hi
        · rw [upd_ne _ _ q] at hi ⊢; exact hI.old i hi
      have hval : ∀ v, (∀ u, e k = some u → v = u) → ∀ i u, upd D k true i = true → e i = some u → upd x k v i = u := fun v hvk i u hi hu => by
        by_cases q : i = k
        · subst q; rw [upd_same]; exact hvk u hu
        · rw [upd_ne _ _ q] at hi ⊢; exact hI.val i u hi hu
      have hst := hI.st
      by_cases hkn : k = n
      · subst hkn
        rw [hD, if_neg (by simp)] at hst
        refine Oper.wp_mono ?_ (s2 rfl hst.1 (fun j hj => hst.2 j (hdep j hj)))
        rintro a' w' ⟨v, rfl, hR, hvk⟩
        exact ⟨v, rfl, hval v hvk, hold v, by rw [upd_same, if_pos rfl]; exact hR⟩
      · cases hl : late k with
        | true =>
          obtain ⟨v, hev, hrun, hΦv⟩ := s3 hl (fun j hj u hu => hI.val j u (hdep j hj) hu)
          unfold Oper.wp
          rw [hrun]
          refine ⟨v, rfl, hval v (fun u hu => by rw [hev] at hu; injection hu), hold v, ?_⟩
          rw [upd_ne _ _ (Ne.symm hkn)]
          by_cases hDn : D n = true
          · rw [if_pos hDn] at hst ⊢; exact hRl _ _ _ _ hl hst
          · rw [if_neg hDn] at hst ⊢
            refine ⟨hst.1, fun i hi => ?_⟩
            by_cases q : i = k
            · subst q; rw [upd_same]; exact hΦv
            · rw [upd_ne _ _ q] at hi ⊢; exact hst.2 i hi
        | false =>
          have hDn : ¬ D n = true := fun hDn => by
            have := needL_all hneed hcl hDn _ k (by simpa using hklt) (Nat.le_refl _) hl
            rw [hD] at this; cases this
          rw [if_neg hDn] at hst
          refine Oper.wp_mono ?_ (s1 hl hkn hst.1 (fun j hj => hst.2 j (hdep j hj)))
          rintro a' w' ⟨v, rfl, hb', hv'⟩
          refine ⟨v, rfl, hval v (fun u hu => hv _ _ _ _ hv' hu), hold v, ?_⟩
          rw [upd_ne _ _ (Ne.symm hkn), if_neg hDn]
          refine ⟨hst.1.trans (hb'.mono hst.1.size), fun i hi => ?_⟩
          by_cases q : i = k
          · subst q; rw [upd_same]; exact hv'
          · rw [upd_ne _ _ q] at hi ⊢
            exact hΦ i (x i) W w' (hst.2 i hi) hb'
    have aux : ∀ (r : List Oper) (s : Nat), (∀ k, r[k]? = l[s + k]?) → AllOps (fun i o => ∀ D x W (b : Act), PhlI w0 n e Φ R (fun j => slotV a ((dstOf l.toArray).getD (j - 0) none)) D x W → D i = false → (∀ j ∈ deps o, D j = true) → (∀ j, D j = true → ∀ q ∈ depsAt l.toArray j, D q = true) → (∀ t : Nat, b.tmps[t]?.getD undef = look (dstOf l.toArray) x a t) → o.wp P b W (StepPost (PhlI w0 n e Φ R (fun j => slotV a ((dstOf l.toArray).getD (j - 0) none))) D x i b o.dst) NoQ) s r := by
      intro r
      induction r with
      | nil => intro s _; trivial
      | cons o r ih =>
        intro s hr
        refine ⟨key s o (by have := hr 0; simpa using this.symm), ih (s + 1) (fun k => ?_)⟩
        have := hr (k + 1)
        rw [List.getElem?_cons_succ] at this
        rw [this]; congr 1; omega
    exact aux l 0 (fun k => by rw [Nat.zero_add])
  · intro D x W hI hall
    have hst := hI.st
    have hnl : n < l.length ∨ ¬ n < l.length := by omega
    by_cases hDn : D n = true
    · rw [if_pos hDn] at hst
      exact hend x W hst (fun i v hi hv2 => hI.val i v (hall i hi) hv2)
    · rcases hnl with h | h
      · exact absurd (hall n h) hDn
      · exact absurd hnl2 h
theorem phiT_val {ev : Nat → Option Value} {Ψ : Nat → Value → World → Prop} {i : Nat} {v u : Value} {w : World} (h : phiT ev Ψ i v w) (he : ev i = some u) : v = u := by
  unfold phiT at h; rw [he] at h; exact h
theorem phl_st {R : (Nat → Value) → World → Prop} {x : Nat → Value} {n : Nat} {o : Oper} {b : Act} {w : World} (W : World) (h : (execOp b.eval o).run P w = .ok .skip W) (ho : o.dst = none) (hR : ∀ v, R (upd x n v) W) {e : Option Value} (he : e = none) : o.wp P b w (fun a' w' => ∃ v, a' = b.put o.dst v ∧ R (upd x n v) w' ∧ ∀ u, e = some u → v = u) NoQ := by
  unfold Oper.wp; rw [h]; exact ⟨undef, by rw [ho], hR _, fun u hu => by rw [he] at hu; cases hu⟩
end
end Go.Proofs.YtjeklcgfffibpaaGreatDoor

namespace Go.Proofs.YtjeklcgfffibpaaGreatDoor
open Go.RowKit
set_option linter.unusedVariables false

/-- a part of a list -/
def sl (ts : List (Int × Int)) (lo hi : Nat) : List (Int × Int) := (ts.take hi).drop lo
theorem sl_split {ts : List (Int × Int)} {lo mid hi : Nat} (h1 : lo ≤ mid) (h2 : mid ≤ hi) (h3 : hi ≤ ts.length) : sl ts lo hi = sl ts lo mid ++ sl ts mid hi := by
  unfold sl
  have e : ts.take hi = ts.take mid ++ (ts.take hi).drop mid := by
    conv => lhs; rw [← List.take_append_drop mid (ts.take hi)]
    rw [List.take_take, Nat.min_eq_left h2]
  conv => lhs; rw [e]
  rw [List.drop_append_of_le_length (by simp; omega)]
theorem sl_one {ts : List (Int × Int)} {lo : Nat} (h : lo < ts.length) : sl ts lo (lo + 1) = [ts[lo]] := by
  unfold sl
  rw [List.take_add_one, List.getElem?_eq_getElem h, List.drop_append_of_le_length (by simp; omega)]
  simp
theorem sl_nil (ts : List (Int × Int)) (lo : Nat) : sl ts lo lo = [] := by unfold sl; simp
theorem sl_all (ts : List (Int × Int)) : sl ts 0 ts.length = ts := by unfold sl; simp
theorem sl_len {ts : List (Int × Int)} {lo hi : Nat} (h : hi ≤ ts.length) : (sl ts lo hi).length = hi - lo := by unfold sl; simp; omega
theorem sl_mem {ts : List (Int × Int)} {lo hi : Nat} : ∀ t ∈ sl ts lo hi, t ∈ ts := fun t ht => List.mem_of_mem_take (List.mem_of_mem_drop ht)
/-- coefficients 1 and -1 -/
def Unit1 (ts : List (Int × Int)) : Prop := ∀ t ∈ ts, (t.2 = 1 ∨ t.2 = -1) ∧ -1048576 ≤ t.1 ∧ t.1 ≤ 1048576
theorem cf_unit {ts : List (Int × Int)} (h : Unit1 ts) (e : Int) : -(ts.length : Int) ≤ cf ts e ∧ cf ts e ≤ ts.length := by
  induction ts with
  | nil => simp [cf]
  | cons t l ih =>
    have h1 := (h t (List.mem_cons_self ..)).1
    have h2 := ih (fun s hs => h s (List.mem_cons_of_mem _ hs))
    rw [cf_cons, List.length_cons]
    split <;> omega
/-- the terms of package fox: coefficient, exponent -/
def fc (t : Int × Int) : List Value := [.int .i64 t.2, .int .i64 t.1]
def FTm (w : World) (v : Value) (l : List (Int × Int)) : Prop :=
  ∃ A c, v = .slice A l.length c ∧ ∀ k (h : k < l.length), ∃ b o, A = some ⟨b, o, none⟩ ∧ w.cell? ⟨b, o + k * 2, none⟩ = some (.int .i64 l[k].2) ∧ w.cell? ⟨b, o + k * 2 + 1, none⟩ = some (.int .i64 l[k].1)
theorem FTm.below {w w' : World} {v : Value} {l : List (Int × Int)} (h : FTm w v l) (hb : Below w.heap.size w w') : FTm w' v l := by
  obtain ⟨A, c, hv, hx⟩ := h
  refine ⟨A, c, hv, fun k hk => ?_⟩
  obtain ⟨b, o, hA, h1, h2⟩ := hx k hk
  exact ⟨b, o, hA, (hb.cell (block_lt_of_cell h1)).trans h1, (hb.cell (block_lt_of_cell h2)).trans h2⟩
/-- what part returns -/
def PartR (ts : List (Int × Int)) (lo hi : Nat) (w : World) (e : Ending) (w' : World) : Prop := ∃ v r, e = .returned v ∧ PolyV w' v (some r) ∧ Can r ∧ Lim r ∧ (∀ x, cf r x = cf (sl ts lo hi) x) ∧ Below w.heap.size w w'
theorem part_join {ts r1 r2 : List (Int × Int)} {lo mid hi : Nat} {r : Pol} (hu : Unit1 ts) (hl : ts.length ≤ 100000) (h1 : lo ≤ mid) (h2 : mid ≤ hi) (h3 : hi ≤ ts.length) (e1 : ∀ x, cf r1 x = cf (sl ts lo mid) x) (e2 : ∀ x, cf r2 x = cf (sl ts mid hi) x) (h : CombP (fun a b => a + b) (some r1) (some r2) r) : ∃ l, r = some l ∧ Can l ∧ Lim l ∧ ∀ x, cf l x = cf (sl ts lo hi) x := by
  have key : ∀ x, cf r1 x + cf r2 x = cf (sl ts lo hi) x := fun x => by rw [e1, e2, sl_split h1 h2 h3, cf_append]
  rcases h with ⟨l, rfl, hc, hli, hx⟩ | ⟨_, x, hx⟩
  · exact ⟨l, rfl, hc, hli, fun x => by rw [hx]; exact key x⟩
  · exfalso
    apply hx
    have h4 := cf_unit (ts := sl ts lo hi) (fun t ht => hu t (sl_mem t ht)) x
    rw [sl_len h3] at h4
    show _ ≤ cf r1 x + cf r2 x ∧ cf r1 x + cf r2 x ≤ _
    rw [key]; omega
end Go.Proofs.YtjeklcgfffibpaaGreatDoor

namespace Go.Proofs.YtjeklcgfffibpaaGreatDoor
open Go.RowKit
set_option linter.unusedVariables false

theorem FTm.at_ {w : World} {A : Option Addr} {n c k : Nat} {l : List (Int × Int)} (h : FTm w (.slice A n c) l) (hk : k < l.length) :
    ∃ b o, A = some ⟨b, o, none⟩ ∧ n = l.length ∧ w.cell? ⟨b, o + k * 2, none⟩ = some (.int .i64 l[k].2) ∧ w.cell? ⟨b, o + k * 2 + 1, none⟩ = some (.int .i64 l[k].1) := by
  obtain ⟨A', c', hv, hx⟩ := h
  injection hv with e1 e2 e3
  subst e1
  obtain ⟨b, o, hA, h1, h2⟩ := hx k hk
  exact ⟨b, o, hA, e2, h1, h2⟩
end Go.Proofs.YtjeklcgfffibpaaGreatDoor

namespace Go.Proofs.YtjeklcgfffibpaaGreatDoor
open Go.RowKit
set_option linter.unusedVariables false

/-- a letter that is none for the rank -/
def badL (rank x : Int) : Bool := decide (rank < 1) || x == 0 || decide (rank < x) || decide (x < -rank)
def vldW (ws : List Int) (rank : Int) : Bool := !(ws.any (badL rank))
theorem badL_true {rank x : Int} (h : rank < 1 ∨ x = 0 ∨ rank < x ∨ x < -rank) : badL rank x = true := by
  unfold badL
  rcases h with h | h | h | h <;> simp [h]
theorem badL_false {rank x : Int} (h : ¬ (rank < 1 ∨ x = 0 ∨ rank < x ∨ x < -rank)) : badL rank x = false := by
  unfold badL
  have h1 : ¬ rank < 1 := fun e => h (.inl e)
  have h2 : ¬ x = 0 := fun e => h (.inr (.inl e))
  have h3 : ¬ rank < x := fun e => h (.inr (.inr (.inl e)))
  have h4 : ¬ x < -rank := fun e => h (.inr (.inr (.inr e)))
  simp [h1, h2, h3, h4]
theorem vldW_iff {ws : List Int} {rank : Int} : vldW ws rank = true ↔ ∀ x ∈ ws, 1 ≤ rank ∧ x ≠ 0 ∧ x ≤ rank ∧ -rank ≤ x := by
  unfold vldW
  rw [Bool.not_eq_true', List.any_eq_false]
  constructor
  · intro h x hx
    have h1 := h x hx
    have : ¬ (rank < 1 ∨ x = 0 ∨ rank < x ∨ x < -rank) := fun e => h1 (badL_true e)
    omega
  · intro h x hx
    have h1 := h x hx
    rw [badL_false (by omega)]; simp
theorem any_take_bad {ws : List Int} {rank : Int} {k : Nat} (hk : k < ws.length) (h : badL rank ws[k] = true) : vldW ws rank = false := by
  unfold vldW
  rw [Bool.not_eq_false', List.any_eq_true]
  exact ⟨_, List.getElem_mem hk, h⟩
end Go.Proofs.YtjeklcgfffibpaaGreatDoor

namespace Go.Proofs.YtjeklcgfffibpaaGreatDoor
open Go.RowKit
set_option linter.unusedVariables false

theorem lowL_le {l : List (Int × Int)} (h : Srt l) : ∀ t ∈ l, lowL l ≤ t.1 := by
  cases l with
  | nil => intro t h; cases h
  | cons s l =>
    intro t ht
    show s.1 ≤ t.1
    rcases List.mem_cons.1 ht with rfl | ht
    · omega
    · have := (List.pairwise_cons.1 h).1 t ht; omega
theorem highL_ge {l : List (Int × Int)} (h : Srt l) : ∀ t ∈ l, t.1 ≤ highL l := by
  intro t ht
  have h0 : 0 < l.length := List.length_pos_of_mem ht
  rw [highL_0 h0]
  obtain ⟨i, hi, rfl⟩ := List.getElem_of_mem ht
  by_cases e : i = l.length - 1
  · subst e; exact Int.le_refl _
  · have := List.pairwise_iff_getElem.1 h i (l.length - 1) hi (by omega) (by omega); omega
theorem lowhigh {l : List (Int × Int)} (h : Srt l) : lowL l ≤ highL l := by
  cases l with
  | nil => exact Int.le_refl _
  | cons s l => exact highL_ge h s (List.mem_cons_self ..)
theorem lowL_bd {l : List (Int × Int)} (h : Lim l) : -1048576 ≤ lowL l ∧ lowL l ≤ 1048576 := by
  cases l with
  | nil => exact ⟨by decide, by decide⟩
  | cons s l => exact h.ex s (List.mem_cons_self ..)
theorem highL_bd {l : List (Int × Int)} (h : Lim l) : -1048576 ≤ highL l ∧ highL l ≤ 1048576 := by
  rcases Nat.eq_zero_or_pos l.length with h0 | h0
  · rw [List.eq_nil_of_length_eq_zero h0]; exact ⟨by decide, by decide⟩
  · rw [highL_0 h0]; exact h.ex _ (List.getElem_mem _)
end Go.Proofs.YtjeklcgfffibpaaGreatDoor
