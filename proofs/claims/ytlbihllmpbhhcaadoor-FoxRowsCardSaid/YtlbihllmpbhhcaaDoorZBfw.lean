/- diagram.label: the walk. -/
import Derived.Test.YtlbihllmpbhhcaaDoorZQue
namespace Go.Proofs.YtlbihllmpbhhcaaDoor
open Go.RowKit
set_option linter.unusedVariables false

/-- integers as cells -/
def ic (l : List Int) : List Value := l.map (Value.int .i64)
theorem ic_get {l : List Int} {i : Nat} (h : i < l.length) : (ic l)[i]? = some (.int .i64 (gi l i)) := by
  unfold ic gi; rw [List.getElem?_map, List.getElem?_eq_getElem h]; rfl
theorem ic_set (l : List Int) (i : Nat) (x : Int) : (ic l).set i (.int .i64 x) = ic (l.set i x) := by unfold ic; rw [List.map_set]
/-- the first k are -1, the others 0 -/
def mi (n k : Nat) : List Int := (List.range n).map fun i => if i < k then -1 else 0
theorem mi_length (n k : Nat) : (mi n k).length = n := by simp [mi]
theorem mi_zero (n : Nat) : ic (mi n 0) = List.replicate n (.int .i64 0) := by
  apply List.ext_getElem?
  intro i
  unfold ic mi
  simp [List.getElem?_replicate]
  by_cases h : i < n <;> simp [h]
theorem mi_step {n k : Nat} (h : k < n) : (mi n k).set k (-1) = mi n (k + 1) := by
  apply List.ext_getElem?
  intro i
  unfold mi
  rw [List.getElem?_set]
  by_cases e : k = i
  · subst e; simp [h]
  · by_cases hi : i < n
    · simp [e, hi]
      by_cases h1 : i < k
      · rw [if_pos h1, if_pos (by omega)]
      · rw [if_neg h1, if_neg (by omega)]
    · simp [e, hi]
theorem gi_mi {n k i : Nat} (hi : i < n) : gi (mi n k) i = if i < k then -1 else 0 := by
  unfold gi mi; rw [List.getElem?_map, List.getElem?_range hi]; rfl
theorem part_start {S M : List Int} {L : Int} (k : Ok S M L) : PartO M S.length (mi S.length S.length) 0 0 := by
  refine ⟨mi_length _ _, ?_, ?_, ?_, ?_⟩
  · intro b hb; left; rw [gi_mi hb, if_pos hb]
  · intro a b hab h0
    have hl := hab.lt k.rg
    rw [gi_mi hl.1, if_pos hl.1] at h0; omega
  · intro q hq; omega
  · intro b hb; omega
theorem part_next {M pl : List Int} {n p c : Nat} (h : PartO M n pl p c) (h0 : 0 ≤ gi pl c) : PartO M n pl p (c + 1) :=
  ⟨h.len, h.rng, h.clo, h.root, fun b hb => by
    rcases Nat.lt_or_ge b c with q | q
    · exact h.low b q
    · have : b = c := by omega
      subst this; exact h0⟩
theorem QI.far {e : TypeId} {base : Nat} {w : World} {v : Value} {xs : List Int} (h : QI e base w v xs) {p : Addr} (hp : p.block < base) (u : Value) : QI e base (w.setCell p u) v xs := by
  obtain ⟨g, o, c, cur, hv, hb, hg, r⟩ := h
  exact ⟨g, o, c, cur, hv, hb, (Below.heap_setCell w p u g (by omega)).trans hg, r⟩
/-- a queue of numbers -/
def qi (q : List Nat) : List Int := q.map fun x => Int.ofNat x
theorem qi_snoc (q : List Nat) (a : Nat) : qi q ++ [(a : Int)] = qi (q ++ [a]) := by simp [qi]
theorem qi_length (q : List Nat) : (qi q).length = q.length := by simp [qi]

set_option maxHeartbeats 4000000 in
set_option maxRecDepth 100000 in
theorem label_code (vs vm : Value) (S M : List Int) (L : Int) (w : World) (hS : Ints w vs S) (hM : Ints w vm M) (k : Ok S M L) :
    Calls Tryd.prog 89 #[.agg #[vs, vm, .int .i64 L]] w fun e w' => ∃ g pl p, e = .returned (.tuple #[.slice (some ⟨g, 0, none⟩) S.length S.length, .int .i64 (p : Nat)]) ∧ w.heap.size ≤ g ∧ Arr w' g 3 (ic pl) ∧ PartO M S.length pl p S.length ∧ p ≤ S.length ∧ Below w.heap.size w w' := by
  obtain ⟨i0, hi0, hz0, hz1, hz2⟩ := info_parts info_int
  have hn := k.n
  have hmk := fun W => run_make_one (P := Tryd.prog) 22 3 i0 (.int .i64 0) Tryd.underlying22 hi0 hz0 hz1 rfl (by rw [hz2]; decide) S.length (by omega) W
  have hM0 := hM
  obtain ⟨A, c, rfl, hc, hx⟩ := hS
  obtain ⟨A2, c2, rfl, hc2, hx2⟩ := hM
  have T2 := Lib.hid k.m
  have KK := Lib.hid k
  have hml : M.length ≤ 256 := by have := k.m; omega
  clear hx hx2 k
  go_enter Tryd.func89, Tryd.ntmps89
  go_upto_region 1 with fail
  have hW : Arr (w.alloc (.cells #[.slice A S.length c, .slice A2 M.length c2, .int .i64 L] 61)) w.heap.size 61 [.slice A S.length c, .slice A2 M.length c2, .int .i64 L] ∧ Below w.heap.size w (w.alloc (.cells #[.slice A S.length c, .slice A2 M.length c2, .int .i64 L] 61)) := ⟨Arr.new w _ _, (Below.refl _ _).alloc (Nat.le_refl _) _⟩
  generalize (w.alloc (.cells #[.slice A S.length c, .slice A2 M.length c2, .int .i64 L] 61)) = w4 at hW ⊢
  obtain ⟨q0, hb4⟩ := hW
  have y0 := q0.cell 0
  go_wp2_with fail
  have hW : Arr (w4.alloc (.cells (rowOf (List.replicate S.length (Value.int .i64 0))) 3)) w4.heap.size 3 (ic (mi S.length 0)) ∧ Arr (w4.alloc (.cells (rowOf (List.replicate S.length (Value.int .i64 0))) 3)) w.heap.size 61 [.slice A S.length c, .slice A2 M.length c2, .int .i64 L] ∧ Below w.heap.size w (w4.alloc (.cells (rowOf (List.replicate S.length (Value.int .i64 0))) 3)) :=
    ⟨by rw [mi_zero]; exact Arr.new w4 _ _, q0.alloc _, hb4.alloc hb4.size _⟩
  have lw := q0.lt
  clear y0 q0 hb4 hmk
  generalize hB : w4.heap.size = B at *
  generalize w4.alloc (.cells (rowOf (List.replicate S.length (Value.int .i64 0))) 3) = w5 at hW ⊢
  clear hB
  obtain ⟨a0, p0, hb5⟩ := hW
  go_loopg [5, 18] S.length (fun gk s5 s18 wr => ∃ k : Nat, k ≤ S.length ∧ gk = S.length - k ∧ s18 = .int .i64 (k : Int) ∧ Arr wr B 3 (ic (mi S.length k)) ∧ Arr wr w.heap.size 61 [.slice A S.length c, .slice A2 M.length c2, .int .i64 L] ∧ Below w.heap.size w wr)
  case atStart => exact ⟨0, Nat.zero_le _, rfl, rfl, a0, p0, hb5⟩
  case round =>
    clear a0 p0 hb5
    obtain ⟨k, hk, rfl, rfl, a0, p0, hb5⟩ := hrel
    by_cases hlt : k < S.length
    · have z1 : (k : Int) < (S.length : Int) := by omega
      have zc := (a0.cell k).trans (ic_get (by rw [mi_length]; exact hlt))
      have zf := a0.frozen k
      go_wp2_with fail
      go_roundg (S.length - (k + 1))
      case measure => omega
      case rel => exact ⟨k + 1, by omega, rfl, by go_num, by rw [← mi_step hlt, ← ic_set]; exact a0.set k _, p0.far (p := ⟨B, k, none⟩) (Nat.ne_of_lt lw) _, hb5.setCell (p := ⟨B, k, none⟩) (Nat.le_of_lt lw) _⟩
    · have z1 : ¬ ((k : Int) < (S.length : Int)) := by omega
      have a1 : Arr wr B 3 (ic (mi S.length S.length)) := by
        have hkn : k = S.length := by omega
        rw [hkn] at a0; exact a0
      clear a0
      go_wp2_with fail
      obtain ⟨wo, rfl⟩ : ∃ wo : World, wo = wr := ⟨_, rfl⟩
      go_loopg [6, 7, 8, 9, 10, 11, 27, 49] S.length (fun gk s6 s7 s8 s9 s10 s11 s27 s49 wi => ∃ (c' p : Nat) (pl : List Int), c' ≤ S.length ∧ p ≤ c' ∧ gk = S.length - c' ∧ s27 = .int .i64 (c' : Int) ∧ s6 = .int .i64 (p : Int) ∧ Arr wi B 3 (ic pl) ∧ Arr wi w.heap.size 61 [.slice A S.length c, .slice A2 M.length c2, .int .i64 L] ∧ Below w.heap.size w wi ∧ Hid (PartO M S.length pl p c'))
      case atStart => exact ⟨0, 0, _, Nat.zero_le _, Nat.le_refl _, rfl, rfl, rfl, a1, p0, hb5, Lib.hid (part_start KK.out)⟩
      case round =>
        clear a1 p0 hb5 hlt hk z1
        obtain ⟨x, p, pl, hx, hpx, rfl, rfl, rfl, a1, p0, hb5, HP⟩ := hrel
        have hpl := HP.out.len
        by_cases hlt : x < S.length
        · have z1 : (x : Int) < (S.length : Int) := by omega
          have zc := (a1.cell x).trans (ic_get (by omega))
          have zf := a1.frozen x
          by_cases hg0 : 0 ≤ gi pl x
          · have HP2 := Lib.hid (part_next HP.out hg0)
            generalize gi pl x = y at *
            have hg1 : y ≥ 0 := hg0
            go_wp2_with fail
            go_roundg (S.length - (x + 1))
            case measure => omega
            case rel => exact ⟨x + 1, p, pl, by omega, by omega, rfl, by go_num, rfl, a1, p0, hb5, HP2⟩
          · have hg1 : ¬ (gi pl x ≥ 0) := hg0
            have HS := Lib.hid (bf_start HP.out hlt (by omega))
            clear hg0 HP
            generalize gi pl x = y at *
            go_wp2_with fail
            have lB := a1.lt
            have hsz := ((Below.refl 0 wr).setCell (p := ⟨B, x, none⟩) (Nat.zero_le _) (.int .i64 (p : Int))).size
            have hse : (wr.setCell ⟨B, x, none⟩ (.int .i64 (p : Int))).heap.size = wr.heap.size := by simp
            have hW : ∀ W, W = (wr.setCell ⟨B, x, none⟩ (.int .i64 (p : Int))).alloc (.cells #[.int .i64 (x : Int)] 3) → Arr W B 3 (ic (pl.set x (p : Int))) ∧ Arr W w.heap.size 61 [.slice A S.length c, .slice A2 M.length c2, .int .i64 L] ∧ Below w.heap.size w W ∧ QI 3 (B + 1) W (.slice (some ⟨wr.heap.size, 0, none⟩) 1 1) (qi [x]) := by
              intro W hW
              subst hW
              refine ⟨?_, ((p0.far (p := ⟨B, x, none⟩) (Nat.ne_of_lt lw) _).alloc _), ((hb5.setCell (p := ⟨B, x, none⟩) (Nat.le_of_lt lw) _).alloc (Nat.le_trans hb5.size hsz) _), ?_⟩
              · rw [← ic_set]; exact (a1.set x _).alloc _
              · have := QI.one (wr.setCell ⟨B, x, none⟩ (.int .i64 (p : Int))) 3 (B + 1) (by omega) (x : Int)
                rw [hse] at this; exact this
            generalize hWW : (wr.setCell ⟨B, x, none⟩ (.int .i64 (p : Int))).alloc (.cells #[.int .i64 (x : Int)] 3) = W at *
            obtain ⟨a2, p2, hb2, q2⟩ := hW W rfl
            generalize wr.heap.size = G at *
            have lB2 : B + 1 ≤ W.heap.size := a2.lt
            have hl2 : (pl.set x (p : Int)).length = S.length := by rw [List.length_set]; exact hpl
            clear hW hsz hse a1 p0 hb5 zc zf hWW lB hpl
            generalize pl.set x (p : Int) = pl at *
            have hun := unl_le pl
            go_loopg [8, 9, 10, 11, 49] (unl pl + 1) (fun gk s8 s9 s10 s11 s49 wi => ∃ (pl : List Int) (q : List Nat), unl pl + q.length ≤ gk ∧ gk ≤ S.length + 1 ∧ QI 3 (B + 1) wi s8 (qi q) ∧ Arr wi B 3 (ic pl) ∧ Arr wi w.heap.size 61 [.slice A S.length c, .slice A2 M.length c2, .int .i64 L] ∧ Below w.heap.size w wi ∧ Hid (BF M S.length pl p x ∧ Wh M S.length pl p q))
            case atStart => exact ⟨pl, [x], Nat.le_refl _, by omega, q2, a2, p2, hb2, HS⟩
            case round =>
              clear q2 a2 p2 hb2 HS lB2 hl2 hun pl
              obtain ⟨gm, rfl⟩ : ∃ g : Nat, g = gk := ⟨_, rfl⟩
              obtain ⟨pl, q, hun0, hun, q2, a2, p2, hb2, HS⟩ := hrel
              have hl2 := HS.out.1.len
              cases q with
              | nil =>
                obtain ⟨g, o, c8, cur, rfl, r8⟩ := id q2
                clear r8
                have HP2 := Lib.hid (wh_end KK.out HS.out.1 HS.out.2)
                go_wp2_with fail
                go_roundg (S.length - (x + 1))
                case measure => omega
                case rel => exact ⟨x + 1, p + 1, pl, by omega, by omega, rfl, by go_num, by go_num, a2, p2, hb2, HP2⟩
              | cons a q =>
                obtain ⟨g, o, c8, rfl, hc8, y8⟩ := QI.head (x := (a : Int)) (xs := qi q) q2
                have q3 : ∀ A, (A = some ⟨g, o, none⟩ ∧ c8 - 1 = 0 ∨ A = some ⟨g, o + 1, none⟩) → QI 3 (B + 1) wr (.slice A ((qi q).length + 1 - 1) (c8 - 1)) (qi q) := fun A hA => QI.tail (x := (a : Int)) (xs := qi q) q2 A hA
                have Q3 := Lib.hid q3
                clear q3 q2
                generalize hq : qi q = qs at *
                have HQ := Lib.hid hq
                clear hq
                go_upto_region 17 with fail
                have q4 : QI 3 (B + 1) wr (.slice (if c8 = 1 then some ⟨g, o, none⟩ else some ⟨g, o + 1, none⟩) qs.length (c8 - 1)) qs := by
                  refine Q3.out _ ?_
                  by_cases h1 : c8 = 1
                  · left; rw [if_pos h1]; exact ⟨rfl, by omega⟩
                  · right; rw [if_neg h1]
                generalize (if c8 = 1 then some (⟨g, o, none⟩ : Addr) else some ⟨g, o + 1, none⟩) = A8 at q4 ⊢
                generalize c8 - 1 = c9 at q4 ⊢
                have q5 : QI 3 (B + 1) wr (.slice A8 qs.length c9) (qi q) := by rw [HQ.out]; exact q4
                have hlq : q.length = qs.length := by rw [← HQ.out, qi_length]
                have HF := Lib.hid (And.intro HS.out.1 (wh_pop HS.out.2))
                have hal := HF.out.2.2.1
                clear q4 Q3 HQ y8 HS hc8
                have hU1 : unl pl + q.length + 1 ≤ gm := by simp only [List.length_cons] at hun0; omega
                clear hun0 hlq
                go_wp2_with fail
                obtain ⟨wo, rfl⟩ : ∃ wo : World, wo = wr := ⟨_, rfl⟩
                go_loopg [8, 10, 11, 49] 4 (fun gk s8 s10 s11 s49 wi => ∃ (pl : List Int) (q : List Nat) (s : Nat), s ≤ 4 ∧ gk = 4 - s ∧ s49 = .int .i64 (s : Int) ∧ unl pl + q.length + 1 ≤ gm ∧ QI 3 (B + 1) wi s8 (qi q) ∧ Arr wi B 3 (ic pl) ∧ Arr wi w.heap.size 61 [.slice A S.length c, .slice A2 M.length c2, .int .i64 L] ∧ Below w.heap.size w wi ∧ Hid (BF M S.length pl p x ∧ Fo M S.length pl p q a s))
                case atStart => exact ⟨pl, q, 0, by omega, rfl, rfl, hU1, q5, a2, p2, hb2, HF⟩
                case round =>
                  clear q5 a2 p2 hb2 HF hU1 hl2
                  obtain ⟨pl, q, s, hs, rfl, rfl, hU1, q5, a2, p2, hb2, HF⟩ := hrel
                  have hl2 := HF.out.1.len
                  by_cases hs4 : s < 4
                  · have z2 : (s : Int) < 4 := by omega
                    have hin : 4 * a + s < M.length := by have := T2.out; omega
                    obtain ⟨b, o2, rfl, hbl, hcell⟩ := (hM0.below hb2).at_ hin
                    have hpos := KK.out.pos _ hin
                    have hmlt := KK.out.lt _ hin
                    have hmt : mt M (4 * a + s) = M[4 * a + s].toNat := by unfold mt; rw [getD_lt hin]
                    obtain ⟨m, hm⟩ : ∃ m : Nat, M[4 * a + s] = (m : Int) := ⟨M[4 * a + s].toNat, by omega⟩
                    rw [hm] at hcell hmt
                    have hmt2 : mt M (4 * a + s) = m := by omega
                    have HM := Lib.hid hmt2
                    have hm4 : m / 4 < S.length := by have := T2.out; omega
                    have e5 : (m : Int) / 4 = ((m / 4 : Nat) : Int) := by omega
                    have HS0 := Lib.hid HF.out.1
                    have FO := Lib.hid (fun h0 => fo_old KK.out HF.out.1 HF.out.2 hs4 h0)
                    have FN := Lib.hid (fun h0 => fo_new KK.out HF.out.1 HF.out.2 hs4 h0)
                    rw [HM.out] at FO FN
                    have UN := Lib.hid (fun h0 => unl_set pl (m / 4) (p : Int) (by omega) h0 (by omega))
                    clear hpos hmlt hmt hm hmt2 HM
                    generalize m / 4 = t at *
                    have zc := (a2.cell t).trans (ic_get (by omega))
                    have zf := a2.frozen t
                    have y1 := p2.cell 1
                    have z3 : (4 : Int) * (a : Int) + (s : Int) < (M.length : Int) := by omega
                    have z4 : (t : Int) < (S.length : Int) := by omega
                    by_cases hg0 : gi pl t < 0
                    · have FN2 := Lib.hid (FN.out hg0)
                      have UN2 := UN.out hg0
                      clear FN FO UN HF
                      generalize gi pl t = v at *
                      go_upto_region 23 with fail
                      have lB := a2.lt
                      have hse : (wr.setCell ⟨B, t, none⟩ (.int .i64 (p : Int))).heap.size = wr.heap.size := by simp
                      have hW : ∀ W, W = wr.setCell ⟨B, t, none⟩ (.int .i64 (p : Int)) → Arr W B 3 (ic (pl.set t (p : Int))) ∧ Arr W w.heap.size 61 [.slice A S.length c, .slice (some ⟨b, o2, none⟩) M.length c2, .int .i64 L] ∧ Below w.heap.size w W ∧ QI 3 (B + 1) W u8 (qi q) ∧ W.heap.size = wr.heap.size := by
                        intro W hW
                        subst hW
                        exact ⟨by rw [← ic_set]; exact a2.set t _, p2.far (p := ⟨B, t, none⟩) (Nat.ne_of_lt lw) _, hb2.setCell (p := ⟨B, t, none⟩) (Nat.le_of_lt lw) _, q5.far (p := ⟨B, t, none⟩) (Nat.lt_succ_self _) _, hse⟩
                      generalize hWW : wr.setCell ⟨B, t, none⟩ (.int .i64 (p : Int)) = W at *
                      obtain ⟨a3, p3, hb3, q6, hsW⟩ := hW W rfl
                      have lW : B + 1 ≤ W.heap.size := a3.lt
                      clear hW hse hWW a2 p2 hb2 q5 zc zf y1 hcell hsW
                      go_wp2_with (at_builtin; refine wpList_appQ rfl _ _ 22 rfl Tryd.underlying22 hi0 hz0 hz1 hz2 rfl (q6.alloc _) rfl (cell_one_new _ _ _ 0 _ rfl) (by rw [qi_length]; omega) (by simp; omega) ?_; intro v8 w8 q8 hb8 hk8 hsz8 hv8)
                      clear hk8 hv8
                      have hB8 := (Below.refl w.heap.size W).alloc (Nat.le_of_lt (Nat.lt_of_lt_of_le lw (Nat.le_of_succ_le lW))) (.cells #[.int .i64 (t : Int)] 3)
                      go_roundg (4 - (s + 1))
                      case measure => omega
                      case rel => exact ⟨pl.set t (p : Int), q ++ [t], s + 1, by omega, rfl, by go_num, by rw [List.length_append, List.length_singleton]; omega, by rw [← qi_snoc]; exact q8, (a3.alloc _).below hb8 (Nat.lt_succ_self _), (p3.alloc _).below hb8 (Nat.lt_succ_of_lt lw), hb3.trans (hB8.trans (hb8.mono (Nat.le_of_lt (Nat.lt_succ_of_lt lw)))), FN2⟩
                    · have FO2 := Lib.hid (FO.out (by omega))
                      clear FN UN FO HF
                      have hg1 : ¬ (gi pl t < 0) := hg0
                      generalize gi pl t = v at *
                      go_wp2_with fail
                      go_roundg (4 - (s + 1))
                      case measure => omega
                      case rel => exact ⟨pl, q, s + 1, by omega, rfl, by go_num, hU1, q5, a2, p2, hb2, Lib.hid ⟨HS0.out, FO2.out⟩⟩
                  · have z2 : ¬ ((s : Int) < 4) := by omega
                    have hs4' : s = 4 := by omega
                    have HF2 : Hid (BF M S.length pl p x ∧ Wh M S.length pl p q) := Lib.hid ⟨HF.out.1, fo_end KK.out (by have := HF.out.2; rw [hs4'] at this; exact this)⟩
                    clear HF hs4'
                    go_wp2_with fail
                    go_roundg (unl pl + q.length)
                    case measure => omega
                    case rel => exact ⟨pl, q, Nat.le_refl _, by omega, q5, a2, p2, hb2, HF2⟩
        · have z1 : ¬ ((x : Int) < (S.length : Int)) := by omega
          have hxn : x = S.length := by omega
          have HP2 := Lib.hid (show PartO M S.length pl p S.length by have := HP.out; rw [hxn] at this; exact this)
          clear hxn HP
          go_wp2_with fail
          go_ret2
          exact ⟨B, pl, p, rfl, Nat.le_of_lt lw, a1, HP2.out, by omega, hb5⟩
end Go.Proofs.YtlbihllmpbhhcaaDoor
