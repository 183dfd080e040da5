/- bivariate: polynomials told by a list of terms. -/
/- unravellaw13.of, small. -/
import Derived.Test.YtbfggncmjdhapaaGreatDoorZBmu
namespace Go.Proofs.YtbfggncmjdhapaaGreatDoor
open Go.RowKit Go.Maps
set_option linter.unusedVariables false

set_option maxHeartbeats 2000000 in
set_option maxRecDepth 100000 in
theorem bmul_zero (A A2 : Option Addr) (n c n2 c2 : Nat) (w : World) (h : n = 0 ∨ n2 = 0) :
    Calls Tryz.prog 14 #[.agg #[.bool false, .slice A n c], .agg #[.bool false, .slice A2 n2 c2]] w fun e w' => e = .returned (.agg #[.bool false, .slice none 0 0]) ∧ Below w.heap.size w w' := by
  have hW : ∀ W, W = (((w.alloc (.cells #[.bool false, .slice A n c] 27)).alloc (.cells #[.bool false, .slice A2 n2 c2] 27)).alloc (.cells #[.bool false, .slice none 0 0] 27)) → Arr W w.heap.size 27 [.bool false, .slice A n c] ∧ Arr W (w.heap.size + 1) 27 [.bool false, .slice A2 n2 c2] ∧ Arr W (w.heap.size + 2) 27 [.bool false, .slice none 0 0] ∧ Below w.heap.size w W ∧ W.heap.size = w.heap.size + 3 := by
    intro W hW
    subst hW
    exact ⟨((Arr.new _ _ [_, _]).alloc _).alloc _, (Arr.newAt (w.alloc _) _ [_, _] _ (by simp)).alloc _, Arr.newAt ((w.alloc _).alloc _) _ [_, _] _ (by simp), (((Below.refl _ _).alloc (Nat.le_refl _) _).alloc (by simp) _).alloc (by simp <;> omega) _, by simp⟩
  go_enter Tryz.func14, Tryz.ntmps14
  go_upto_region 1 with fail
  generalize (((w.alloc (.cells #[.bool false, .slice A n c] 27)).alloc (.cells #[.bool false, .slice A2 n2 c2] 27)).alloc (.cells #[.bool false, .slice none 0 0] 27)) = w3 at hW ⊢
  obtain ⟨q0, q1, q2, hb3, hs3⟩ := hW w3 rfl
  have HR := Lib.hid (show Arr ((w3.setCell ⟨w.heap.size + 2, 0, none⟩ (.bool false)).setCell ⟨w.heap.size + 2, 1, none⟩ (.slice none 0 0)) (w.heap.size + 2) 27 [.bool false, .slice none 0 0] ∧ Below w.heap.size w ((w3.setCell ⟨w.heap.size + 2, 0, none⟩ (.bool false)).setCell ⟨w.heap.size + 2, 1, none⟩ (.slice none 0 0)) from
    ⟨(q2.set 0 (.bool false)).set 1 (.slice none 0 0), (hb3.setCell (p := ⟨w.heap.size + 2, 0, none⟩) (by simp) _).setCell (p := ⟨w.heap.size + 2, 1, none⟩) (by simp) _⟩)
  have y0 := q0.cell 0
  have y1 := q0.cell 1
  have y2 := q1.cell 0
  have y3 := q1.cell 1
  have x0 := q2.cell 0
  have x1 := q2.cell 1
  have f0 := q2.frozen 0
  have f1 := q2.frozen 1
  clear hW q0 q1 q2 hb3 hs3
  by_cases h1 : n = 0
  · have z1 : ((n : Int) == 0) = true := by simp [h1]
    clear h h1
    go_wp2_with fail
    refine bodyPost_ret (v := .agg #[.bool false, .slice none 0 0]) (results_c Tryz.results14 _ _ (w.heap.size + 2) 27 _ _ rfl HR.out.1 Tryz.underlying27 rfl info_polyB) rfl ?_
    exact ⟨rfl, HR.out.2⟩
  · have h2 : n2 = 0 := by rcases h with h | h; exact absurd h h1; exact h
    have z1 : ((n : Int) == 0) = false := by simp; omega
    have z2 : ((n2 : Int) == 0) = true := by simp [h2]
    clear h h1 h2
    go_wp2_with fail
    refine bodyPost_ret (v := .agg #[.bool false, .slice none 0 0]) (results_c Tryz.results14 _ _ (w.heap.size + 2) 27 _ _ rfl HR.out.1 Tryz.underlying27 rfl info_polyB) rfl ?_
    exact ⟨rfl, HR.out.2⟩
/-- a list of terms within bounds -/
structure Bd2 (S N : Nat) (L : List T2) : Prop where
  su : asum2 L ≤ S
  eb : Ebd N L
  ln : L.length ≤ 1000000
theorem Bd2.nil (S N : Nat) : Bd2 S N [] := ⟨Nat.zero_le _, Ebd.nil N, Nat.zero_le _⟩
theorem Bd2.mono {S S' N N' : Nat} {L : List T2} (h : Bd2 S N L) (h1 : S ≤ S') (h2 : N ≤ N') : Bd2 S' N' L := ⟨Nat.le_trans h.su h1, h.eb.mono h2, h.ln⟩
/-- the value v is the polynomial that the terms L sum up to -/
def PL (w : World) (v : Value) (L : List T2) : Prop := ∃ l, PolyB w v (some l) ∧ Can2 l ∧ Lim2 l ∧ ∀ e, cg2 l e = cg2 L e
theorem PL.below {w w' : World} {v : Value} {L : List T2} (h : PL w v L) (hb : Below w.heap.size w w') : PL w' v L := by
  obtain ⟨l, h1, h2⟩ := h
  exact ⟨l, h1.below hb, h2⟩
theorem PL.congr {w : World} {v : Value} {L M : List T2} (h : PL w v L) (he : ∀ e, cg2 L e = cg2 M e) : PL w v M := by
  obtain ⟨l, h1, h2, h3, h4⟩ := h
  exact ⟨l, h1, h2, h3, fun e => (h4 e).trans (he e)⟩
theorem PL.form {w : World} {v : Value} {L : List T2} (h : PL w v L) : ∃ A n c, v = .agg #[.bool false, .slice A n c] := by
  obtain ⟨l, h1, _⟩ := h
  obtain ⟨b, A, n, c, rfl, j, _⟩ := h1.parts
  exact ⟨A, n, c, by rw [j]; rfl⟩
theorem keys_len {l L : List T2} (k : Can2 l) (h : ∀ e, cg2 l e = cg2 L e) : l.length ≤ L.length := by
  have hs : ∀ x ∈ l.map (·.1), x ∈ L.map (·.1) := fun x hx => by
    obtain ⟨t, ht, rfl⟩ := List.mem_map.1 hx
    obtain ⟨s, hs, e⟩ := cg2_ne (l := L) (e := t.1) (by rw [← h]; exact k.ne ht)
    exact List.mem_map.2 ⟨s, hs, e⟩
  have hn : (l.map (·.1)).Nodup := by
    rw [List.nodup_iff_pairwise_ne, List.pairwise_map]
    exact k.srt.nodup
  have := List.Nodup.length_le_of_subset hn hs
  simpa using this
theorem can_bd {l L : List T2} {S N : Nat} (k : Can2 l) (h : ∀ e, cg2 l e = cg2 L e) (hb : Bd2 S N L) : asum2 l ≤ S ∧ Ebd N l ∧ l.length ≤ 1000000 := by
  refine ⟨Nat.le_trans (k.asum h) hb.su, fun t ht => ?_, Nat.le_trans (keys_len k h) hb.ln⟩
  obtain ⟨s, hs, e⟩ := cg2_ne (l := L) (e := t.1) (by rw [← h]; exact k.ne ht)
  have := hb.eb s hs
  rw [e] at this
  exact this
/-- no coefficient is out of bounds -/
theorem gth_fits {L : List T2} {F : K2 → Int} {r : PolB} {S N : Nat} (h : GthP F r) (hF : ∀ e, F e = cg2 L e) (hb : Bd2 S N L) (hS : S ≤ 1125899906842624) (hN : N ≤ 1048576) : ∃ l, r = some l ∧ Can2 l ∧ Lim2 l ∧ ∀ e, cg2 l e = cg2 L e := by
  rcases h with ⟨l, rfl, h1, h2, h3⟩ | ⟨_, e, h1, h2⟩
  · exact ⟨l, rfl, h1, h2, fun e => (h3 e).trans (hF e)⟩
  · exfalso
    rw [hF] at h1 h2
    obtain ⟨s, hs, he⟩ := cg2_ne h1
    have h3 := hb.eb s hs
    rw [he] at h3
    have h4 := cg2_asum L e
    have h5 := hb.su
    exact h2 ⟨⟨by omega, by omega⟩, ⟨by omega, by omega⟩, by omega, by omega⟩
def PLR (L : List T2) (w : World) (e : Ending) (w' : World) : Prop := ∃ v, e = .returned v ∧ Below w.heap.size w w' ∧ PL w' v L
theorem AddPL {S S2 N : Nat} (vp vq : Value) (L M : List T2) (w : World) (hp : PL w vp L) (hq : PL w vq M) (bp : Bd2 S N L) (bq : Bd2 S2 N M) (hS : S + S2 ≤ 1125899906842624) (hN : N ≤ 1048576) (hl : L.length + M.length ≤ 1000000) :
    Calls Tryz.prog 12 #[vp, vq] w (PLR (L ++ M) w) := by
  obtain ⟨l, h1, h2, h3, h4⟩ := hp
  obtain ⟨m, k1, k2, k3, k4⟩ := hq
  refine (bAdd_any vp vq (some l) (some m) w h1 k1 ⟨h2, h3⟩ ⟨k2, k3⟩ (by have := keys_len h2 h4; have := keys_len k2 k4; unfold lenB; simp only [Option.getD_some]; omega)).mono ?_
  rintro e w' ⟨v, r, rfl, hv, hr, hb⟩
  obtain ⟨r', rfl, r1, r2, r3⟩ := gth_fits (L := L ++ M) (S := S + S2) (N := N) hr (fun e => by simp only; rw [cg2_append, h4, k4, Int.one_mul]) ⟨by rw [asum2_append]; have := bp.su; have := bq.su; omega, bp.eb.append bq.eb, by simp; omega⟩ hS hN
  exact ⟨v, rfl, hb, r', hv, r1, r2, r3⟩
theorem SubPL {S S2 N : Nat} (vp vq : Value) (L M : List T2) (w : World) (hp : PL w vp L) (hq : PL w vq M) (bp : Bd2 S N L) (bq : Bd2 S2 N M) (hS : S + S2 ≤ 1125899906842624) (hN : N ≤ 1048576) (hl : L.length + M.length ≤ 1000000) :
    Calls Tryz.prog 15 #[vp, vq] w (PLR (L ++ negT M) w) := by
  obtain ⟨l, h1, h2, h3, h4⟩ := hp
  obtain ⟨m, k1, k2, k3, k4⟩ := hq
  refine (bSub_any vp vq (some l) (some m) w h1 k1 ⟨h2, h3⟩ ⟨k2, k3⟩ (by have := keys_len h2 h4; have := keys_len k2 k4; unfold lenB; simp only [Option.getD_some]; omega)).mono ?_
  rintro e w' ⟨v, r, rfl, hv, hr, hb⟩
  obtain ⟨r', rfl, r1, r2, r3⟩ := gth_fits (L := L ++ negT M) (S := S + S2) (N := N) hr (fun e => by simp only; rw [cg2_append, cg2_neg, h4, k4]; omega) ⟨by rw [asum2_append, asum2_neg]; have := bp.su; have := bq.su; omega, bp.eb.append bq.eb.neg, by unfold negT; simp; omega⟩ hS hN
  exact ⟨v, rfl, hb, r', hv, r1, r2, r3⟩
theorem MulPL {S S2 N N2 : Nat} (vp vq : Value) (L M : List T2) (w : World) (hp : PL w vp L) (hq : PL w vq M) (bp : Bd2 S N L) (bq : Bd2 S2 N2 M) (hS : S * S2 ≤ 1125899906842624) (hN : N + N2 ≤ 1048576) (hl : L.length * M.length ≤ 1000000) :
    Calls Tryz.prog 14 #[vp, vq] w (PLR (mulT L M) w) := by
  obtain ⟨l, h1, h2, h3, h4⟩ := hp
  obtain ⟨m, k1, k2, k3, k4⟩ := hq
  have hLM : ∀ e, cg2 (mulT l m) e = cg2 (mulT L M) e := fun e => (mulT_congr_left h4 m e).trans (mulT_congr_right k4 L e)
  obtain ⟨a1, a2, a3⟩ := can_bd h2 h4 bp
  obtain ⟨c1, c2, c3⟩ := can_bd k2 k4 bq
  have hln : l.length * m.length ≤ 1000000 := Nat.le_trans (Nat.mul_le_mul (keys_len h2 h4) (keys_len k2 k4)) hl
  by_cases h0 : l.length = 0 ∨ m.length = 0
  · obtain ⟨b, A, n, c, rfl, j1, j2⟩ := h1.parts
    obtain ⟨b2, A2, n2, c2, rfl, j3, j4⟩ := k1.parts
    simp only [Option.isNone_some, Option.getD_some] at j1 j2 j3 j4
    subst j1 j3
    refine (bmul_zero A A2 n c n2 c2 w (by rcases h0 with h | h; exact .inl (j2.trans h); exact .inr (j4.trans h))).mono ?_
    rintro e w' ⟨rfl, hb⟩
    refine ⟨_, rfl, hb, [], PolyB.zero _, Can2.nil, Lim2.nil, fun e => ?_⟩
    rw [← hLM]
    rcases h0 with h | h
    · rw [List.eq_nil_of_length_eq_zero h, mulT_nil]
    · rw [List.eq_nil_of_length_eq_zero h, mulT_nil_right]
  · have hh : hgtB l * hgtB m ≤ 1125899906842624 := by
      have e1 := hgt_asum l
      have e2 := hgt_asum m
      have e3 := hgt_nn l
      have e4 := hgt_nn m
      have e5 : hgtB l * hgtB m ≤ (S : Int) * (S2 : Int) := Int.mul_le_mul (by omega) (by omega) e4 (by omega)
      have e6 : (S : Int) * (S2 : Int) ≤ 1125899906842624 := by rw [← Int.natCast_mul]; omega
      omega
    refine (Mul_core vp vq l m w h1 k1 h3 h2 k3 k2 (by omega) (by omega) a3 c3 hln hh).mono ?_
    rintro e w' ⟨v, r, rfl, hv, hr, hb⟩
    obtain ⟨r', rfl, r1, r2, r3⟩ := gth_fits (L := mulT L M) (S := S * S2) (N := N + N2) hr hLM ⟨by rw [asum2_mulT]; exact Nat.mul_le_mul bp.su bq.su, bp.eb.mul bq.eb, by rw [mulT_len]; exact hl⟩ hS hN
    exact ⟨v, rfl, hb, r', hv, r1, r2, r3⟩
theorem trm_PL {w : World} {v : Value} {c a z : Int} {S N : Nat} (h : PolyB w v (trmB c a z)) (hb : Bd2 S N [((a, z), c)]) (hS : S ≤ 1125899906842624) (hN : N ≤ 1048576) : PL w v [((a, z), c)] := by
  unfold trmB at h
  have h1 := hb.su
  have h2 := hb.eb _ (List.mem_singleton.2 rfl)
  unfold asum2 asum2 at h1
  simp only at h1 h2
  by_cases h0 : c = 0
  · rw [if_pos h0] at h
    exact ⟨[], h, Can2.nil, Lim2.nil, fun e => by rw [cg2_one, h0]; simp [cg2]⟩
  · rw [if_neg h0, if_pos ⟨decide_eq_true (by omega), decide_eq_true (by omega), decide_eq_true (by omega)⟩] at h
    refine ⟨_, h, ⟨List.pairwise_singleton _ _, fun t ht => by rw [List.mem_singleton.1 ht]; exact h0⟩, ⟨fun t ht => ?_, fun t ht => ?_, fun t ht => ?_⟩, fun e => rfl⟩ <;> rw [List.mem_singleton.1 ht] <;> simp only <;> omega
theorem TermPL {S N : Nat} (c a z : Int) (w : World) (hb : Bd2 S N [((a, z), c)]) (hS : S ≤ 1125899906842624) (hN : N ≤ 1048576) : Calls Tryz.prog 11 #[.int .i64 c, .int .i64 a, .int .i64 z] w (PLR [((a, z), c)] w) := by
  have h1 := hb.su
  have h2 := hb.eb _ (List.mem_singleton.2 rfl)
  unfold asum2 asum2 at h1
  simp only at h1 h2
  refine (bTerm_any c a z w (by omega) (by omega) (by omega)).mono ?_
  rintro e w' ⟨v, rfl, hv, hb'⟩
  exact ⟨v, rfl, hb', trm_PL hv hb hS hN⟩
theorem EqualPL {S S2 N N2 : Nat} (vp vq : Value) (L M : List T2) (w : World) (hp : PL w vp L) (hq : PL w vq M) (bp : Bd2 S N L) (bq : Bd2 S2 N2 M) (he : ∀ e, cg2 L e = cg2 M e) : Calls Tryz.prog 13 #[vp, vq] w fun e w' => e = .returned (.bool true) ∧ Below w.heap.size w w' := by
  obtain ⟨l, h1, h2, h3, h4⟩ := hp
  obtain ⟨m, k1, k2, k3, k4⟩ := hq
  have : l = m := Can2.ext h2 k2 fun e => by rw [h4, k4, he]
  subst this
  have hl := (can_bd h2 h4 bp).2.2
  refine (bEqual_any vp vq (some l) (some l) w h1 k1 (by simp only [Option.getD_some]; omega) (by simp only [Option.getD_some]; omega)).mono ?_
  rintro e w' ⟨rfl, hb⟩
  exact ⟨by unfold eqB; simp, hb⟩
theorem BigPL (vp : Value) (L : List T2) (w : World) (hp : PL w vp L) : Calls Tryz.prog 16 #[vp] w fun e w' => e = .returned (.bool false) ∧ Below w.heap.size w w' := by
  obtain ⟨l, h1, _⟩ := hp
  exact bBig_any vp (some l) w h1
theorem PL.zero (w : World) : PL w (.agg #[.bool false, .slice none 0 0]) [] := ⟨[], PolyB.zero w, Can2.nil, Lim2.nil, fun e => rfl⟩
end Go.Proofs.YtbfggncmjdhapaaGreatDoor

namespace Go.Proofs.YtbfggncmjdhapaaGreatDoor
open Go.RowKit Go.Maps
set_option linter.unusedVariables false

/-- r is the sum of the terms, one after the other (big if a partial sum is) -/
inductive OfB : List T2 → PolB → Prop
  | nil : OfB [] (some [])
  | snoc {l : List T2} {p r : PolB} {t : T2} : OfB l p → CombB (fun x y => x + 1 * y) p (trmB t.2 t.1.1 t.1.2) r → OfB (l ++ [t]) r
theorem trm_ok (c a z : Int) : okB2 (trmB c a z) := by
  unfold trmB
  split
  · exact ⟨Can2.nil, Lim2.nil⟩
  · next h0 =>
    split
    · next h =>
      have h1 := of_decide_eq_true h.1
      have h2 := of_decide_eq_true h.2.1
      have h3 := of_decide_eq_true h.2.2
      refine ⟨⟨List.pairwise_singleton _ _, fun t ht => by rw [List.mem_singleton.1 ht]; exact h0⟩, ⟨fun t ht => ?_, fun t ht => ?_, fun t ht => ?_⟩⟩ <;> rw [List.mem_singleton.1 ht] <;> simp only <;> omega
    · trivial
theorem trm_cg {c a z : Int} {l : List T2} (h : trmB c a z = some l) (e : K2) : cg2 l e = cg2 [((a, z), c)] e := by
  unfold trmB at h
  split at h
  · next h0 =>
    injection h with h
    subst h
    rw [cg2_one, h0]
    simp [cg2]
  · split at h
    · injection h with h
      subst h
      rfl
    · cases h
theorem trm_len (c a z : Int) : lenB (trmB c a z) ≤ 1 := by
  unfold trmB lenB
  split
  · simp
  · split <;> simp
theorem GthP.ok {F : K2 → Int} {r : PolB} (h : GthP F r) : okB2 r := by
  rcases h with ⟨l, rfl, h1, h2, _⟩ | ⟨rfl, _⟩
  · exact ⟨h1, h2⟩
  · trivial
theorem CombB.some_inv {f : Int → Int → Int} {p q : PolB} {l : List T2} (h : CombB f p q (some l)) : ∃ lp lq, p = some lp ∧ q = some lq ∧ ∀ e, cg2 l e = f (cg2 lp e) (cg2 lq e) := by
  cases p with
  | none => cases h
  | some lp =>
    cases q with
    | none => cases h
    | some lq =>
      rcases h with ⟨l', e, _, _, h3⟩ | ⟨e, _⟩
      · injection e with e
        subst e
        exact ⟨lp, lq, rfl, rfl, h3⟩
      · cases e
theorem CombB.ok {f : Int → Int → Int} {p q r : PolB} (h : CombB f p q r) : okB2 r := by
  cases p with
  | none => cases h; trivial
  | some lp =>
    cases q with
    | none => cases h; trivial
    | some lq => exact GthP.ok h
theorem OfB.ok {l : List T2} {r : PolB} (h : OfB l r) : okB2 r := by
  cases h with
  | nil => exact ⟨Can2.nil, Lim2.nil⟩
  | snoc _ h => exact h.ok
theorem OfB.cg {l : List T2} {r : PolB} (h : OfB l r) : ∀ m, r = some m → ∀ e, cg2 m e = cg2 l e := by
  induction h with
  | nil => intro m hm e; injection hm with hm; subst hm; rfl
  | snoc h1 h2 ih =>
    intro m hm e
    subst hm
    obtain ⟨lp, lq, rfl, hq, h3⟩ := h2.some_inv
    rw [h3, ih lp rfl, trm_cg hq, cg2_append, Int.one_mul]
theorem OfB.len {l : List T2} {r : PolB} (h : OfB l r) : lenB r ≤ l.length := by
  cases r with
  | none => unfold lenB; simp
  | some m =>
    have h1 := h.ok
    exact keys_len h1.1 (h.cg m rfl)
/-- within bounds it is not big -/
theorem OfB.fits {S N : Nat} {l : List T2} {r : PolB} (h : OfB l r) (hb : Bd2 S N l) (hS : S ≤ 1125899906842624) (hN : N ≤ 1048576) : ∃ m, r = some m := by
  induction h with
  | nil => exact ⟨[], rfl⟩
  | @snoc l p r t h1 h2 ih =>
    have b1 : Bd2 S N l := ⟨by have := hb.su; rw [asum2_append] at this; omega, fun s hs => hb.eb s (List.mem_append_left _ hs), by have := hb.ln; simp at this; omega⟩
    obtain ⟨m, rfl⟩ := ih b1
    have b2 := hb.eb t (by simp)
    have b3 := hb.su
    rw [asum2_append, asum2, asum2] at b3
    have ht : ∃ q, trmB t.2 t.1.1 t.1.2 = some q := by
      unfold trmB
      by_cases h0 : t.2 = 0
      · exact ⟨[], if_pos h0⟩
      · exact ⟨_, by rw [if_neg h0, if_pos ⟨decide_eq_true (by omega), decide_eq_true (by omega), decide_eq_true (by omega)⟩]⟩
    obtain ⟨q, hq⟩ := ht
    rw [hq] at h2
    obtain ⟨l', h3, _⟩ := gth_fits (L := l ++ [t]) (S := S) (N := N) h2 (fun e => by simp only; rw [h1.cg m rfl, trm_cg hq, cg2_append, Int.one_mul]) hb hS hN
    exact ⟨l', h3⟩
theorem OfB.pl {S N : Nat} {l : List T2} {r : PolB} (h : OfB l r) (hb : Bd2 S N l) (hS : S ≤ 1125899906842624) (hN : N ≤ 1048576) {w : World} {v : Value} (hv : PolyB w v r) : PL w v l := by
  obtain ⟨m, rfl⟩ := h.fits hb hS hN
  have := h.ok
  exact ⟨m, hv, this.1, this.2, h.cg m rfl⟩
theorem SlA.tat3 {w : World} {A : Option Addr} {n c k : Nat} {l : List T2} (h : SlA tB w (.slice A n c) l) (hk : k < l.length) : ∃ b o, A = some ⟨b, o, none⟩ ∧ n = l.length ∧ w.cell? ⟨b, o + k * 3, none⟩ = some (.int .i64 l[k].1.1) ∧ w.cell? ⟨b, o + k * 3 + 1, none⟩ = some (.int .i64 l[k].1.2) ∧ w.cell? ⟨b, o + k * 3 + 2, none⟩ = some (.int .i64 l[k].2) := by
  obtain ⟨A', c', hv, _, hx⟩ := h
  injection hv with e1 e2 e3
  subst e1
  have key : ∀ j, j < 3 → ∀ u, (tB l[k])[j]? = some u → ∃ b o, A = some ⟨b, o, none⟩ ∧ w.cell? ⟨b, o + (k * 3 + j), none⟩ = some u := fun j hj u hu => hx (k * 3 + j) u (by rw [tBflat_get l k j hk hj]; exact hu)
  obtain ⟨b, o, hA, h0⟩ := key 0 (by omega) _ rfl
  obtain ⟨b1, o1, hA1, h1⟩ := key 1 (by omega) _ rfl
  obtain ⟨b2, o2, hA2, h2⟩ := key 2 (by omega) _ rfl
  rw [hA] at hA1 hA2
  injection hA1 with hA1
  injection hA1 with e4 e5
  injection hA2 with hA2
  injection hA2 with e6 e7
  subst e4 e5 e6 e7
  exact ⟨b, o, hA, e2, h0, h1, h2⟩
def I64T (l : List T2) : Prop := ∀ t ∈ l, (-9223372036854775808 ≤ t.2 ∧ t.2 ≤ 9223372036854775807) ∧ (-9223372036854775808 ≤ t.1.1 ∧ t.1.1 ≤ 9223372036854775807) ∧ (-9223372036854775808 ≤ t.1.2 ∧ t.1.2 ≤ 9223372036854775807)
def OfR (l : List T2) (w : World) (e : Ending) (w' : World) : Prop := ∃ v r, e = .returned v ∧ PolyB w' v r ∧ OfB l r ∧ Below w.heap.size w w'
set_option maxHeartbeats 4000000 in
set_option maxRecDepth 100000 in
theorem of_any (vl : Value) (l : List T2) (w : World) (hl : SlA tB w vl l) (h64 : I64T l) (hlen : l.length ≤ 100000) :
    Calls Tryz.prog 10 #[vl] w (OfR l w) := by
  have HL := Lib.hid (fun W (hb : Below w.heap.size w W) => hl.below hb)
  obtain ⟨A, c, rfl, _⟩ := hl
  have H64 := Lib.hid h64
  have hW : ∀ W, W = (w.alloc (.cells #[.bool false, .slice none 0 0] 27)).alloc (.cells #[.bool false, .slice none 0 0] 27) → Arr W w.heap.size 27 [.bool false, .slice none 0 0] ∧ Arr W (w.heap.size + 1) 27 [.bool false, .slice none 0 0] ∧ Below w.heap.size w W := by
    intro W hW
    subst hW
    exact ⟨(Arr.new _ _ [_, _]).alloc _, Arr.newAt (w.alloc _) _ [_, _] _ (by simp), ((Below.refl _ _).alloc (Nat.le_refl _) _).alloc (by simp) _⟩
  clear h64
  go_enter Tryz.func10, Tryz.ntmps10
  go_upto_region 2 with fail
  generalize (w.alloc (.cells #[.bool false, .slice none 0 0] 27)).alloc (.cells #[.bool false, .slice none 0 0] 27) = w3 at hW ⊢
  obtain ⟨q0, q1, hb3⟩ := hW w3 rfl
  clear hW
  have HST := Lib.hid (show Arr w3 w.heap.size 27 [.bool false, .slice none 0 0] ∧ Below w.heap.size w w3 ∧ ∃ (b : Bool) (A : Option Addr) (n c : Nat) (r : PolB), Arr w3 (w.heap.size + 1) 27 [.bool b, .slice A n c] ∧ PolyB w3 (.agg #[.bool b, .slice A n c]) r ∧ OfB (l.take 0) r from ⟨q0, hb3, false, none, 0, 0, some [], q1, PolyB.zero _, OfB.nil⟩)
  clear q0 q1 hb3
  go_wp2_with fail
  go_loopg [8] l.length (fun gk s8 wr => ∃ (i : Nat), i ≤ l.length ∧ gk = l.length - i ∧ s8 = .int .i64 (i : Int) ∧ Hid (Arr wr w.heap.size 27 [.bool false, .slice none 0 0] ∧ Below w.heap.size w wr ∧ ∃ (b : Bool) (A : Option Addr) (n c : Nat) (r : PolB), Arr wr (w.heap.size + 1) 27 [.bool b, .slice A n c] ∧ PolyB wr (.agg #[.bool b, .slice A n c]) r ∧ OfB (l.take i) r))
  case atStart => exact ⟨0, Nat.zero_le _, rfl, rfl, HST⟩
  case round =>
    clear HST
    obtain ⟨i, hi, rfl, rfl, HR⟩ := hrel
    obtain ⟨q0, hbr, bp, Ap, np, cp, R, q1, hpv, hof⟩ := HR.out
    by_cases hlt : i < l.length
    · have z1 : (i : Int) < (l.length : Int) := by omega
      obtain ⟨b, o', rfl, _, hc0, hc1, hc2⟩ := (HL.out wr hbr).tat3 hlt
      have HBC := Lib.hid (H64.out _ (List.getElem_mem hlt))
      have HNX := Lib.hid (show ∀ r, CombB (fun x y => x + 1 * y) R (trmB l[i].2 l[i].1.1 l[i].1.2) r → OfB (l.take (i + 1)) r from fun r h => by rw [take_snocB hlt]; exact OfB.snoc hof h)
      have HOK := Lib.hid (show okB2 R ∧ lenB R + lenB (trmB l[i].2 l[i].1.1 l[i].1.2) ≤ 1000000 from ⟨hof.ok, by have h1 := hof.len; have h2 := trm_len l[i].2 l[i].1.1 l[i].1.2; rw [List.length_take] at h1; omega⟩)
      generalize l[i].1.1 = ea at *
      generalize l[i].1.2 = ez at *
      generalize l[i].2 = cc at *
      have hWt : ∀ W, W = wr.alloc (.cells #[.int .i64 ea, .int .i64 ez, .int .i64 cc] 34) → Arr W wr.heap.size 34 [.int .i64 ea, .int .i64 ez, .int .i64 cc] ∧ Below wr.heap.size wr W := by
        intro W hW
        subst hW
        exact ⟨Arr.new _ _ [_, _, _], (Below.refl _ _).alloc (Nat.le_refl _) _⟩
      go_upto_region 5 with fail
      generalize wr.alloc (.cells #[.int .i64 ea, .int .i64 ez, .int .i64 cc] 34) = w5 at hWt ⊢
      obtain ⟨qt, hb5⟩ := hWt w5 rfl
      have QT := Lib.hid qt
      have QP := Lib.hid (q1.below hb5 q1.lt)
      have Q0 := Lib.hid (q0.below hb5 q0.lt)
      have HPV := Lib.hid (hpv.below hb5)
      have HB5 := Lib.hid (hbr.trans (hb5.mono hbr.size))
      obtain ⟨Bt, hBt⟩ : ∃ B, B = wr.heap.size := ⟨_, rfl⟩
      rw [← hBt] at QT ⊢
      clear hc0 hc1 hc2 qt hb5 HR hWt hBt q0 q1 hbr hpv hof
      refine wp_region_phis 9 (by kernel_rfl) (by kernel_rfl) (by kernel_rfl) (by kernel_rfl) (by kernel_rfl) rfl (by kernel_rfl) (phiT (fun i => ([some (.agg #[.bool bp, .slice Ap np cp]), some (.pointer (some ⟨Bt, 2, none⟩)), some (.int .i64 cc), some (.pointer (some ⟨Bt, 0, none⟩)), some (.int .i64 ea), some (.pointer (some ⟨Bt, 1, none⟩)), some (.int .i64 ez), none, none, some (undef)] : List (Option Value)).getD i none) (fun i v w => (if i = 7 then (fun v w => PolyB w v (trmB cc ea ez)) v w else (if i = 8 then (fun v w => ∃ r, PolyB w v r ∧ CombB (fun x y => x + 1 * y) R (trmB cc ea ez) r) v w else True)))) (fun i v w w' h hb => ?_) (fun i => false) (fun i v w hi h k hk => ?_) (fun _ W => ∃ (b : Bool) (A : Option Addr) (n c : Nat) (r : PolB), Arr W (w.heap.size + 1) 27 [.bool b, .slice A n c] ∧ PolyB W (.agg #[.bool b, .slice A n c]) r ∧ CombB (fun x y => x + 1 * y) R (trmB cc ea ez) r ∧ Below (w.heap.size + 1) w5 W) ⟨?_, ?_, ?_, ?_, ?_, ?_, ?_, ?_, ?_, ?_, trivial⟩ ?_
      · unfold phiT at h ⊢
        split
        · next u hu => rw [hu] at h; exact h
        · next hu =>
          rw [hu] at h
          simp only at h ⊢
          by_cases q7 : i = 7
          · rw [if_pos q7] at h ⊢; exact PolyB.below h hb
          · rw [if_neg q7] at h ⊢
            by_cases q8 : i = 8
            · rw [if_pos q8] at h ⊢; exact (by obtain ⟨r, h1, h2⟩ := h; exact ⟨r, h1.below hb, h2⟩)
            · rw [if_neg q8] at h ⊢
              trivial
      · simp only [Bool.or_eq_true, decide_eq_true_eq, Bool.false_eq_true] at hi
      · intro x w1 bA hbel hdep hdap hold hb
        refine ⟨fun _ => ?_, fun h => absurd h (by decide)⟩
        have e3 : bA.tmps[3]?.getD undef = .pointer (some ⟨w.heap.size + 1, 0, none⟩) := hb 3
        have cp0 := (QP.out.below hbel QP.out.lt).cell 0
        have cp1 := (QP.out.below hbel QP.out.lt).cell 1
        refine phf_run (.agg #[.bool bp, .slice Ap np cp]) rfl ?_ rfl
        clear hb hdep hdap hold
        go_simp
      · intro x w1 bA hbel hdep hdap hold hb
        refine ⟨fun _ => ?_, fun h => absurd h (by decide)⟩
        have e5 : bA.tmps[5]?.getD undef = .pointer (some ⟨Bt, 0, none⟩) := hb 5
        refine phf_run (.pointer (some ⟨Bt, 2, none⟩)) rfl ?_ rfl
        clear hb hdep hdap hold
        go_simp
      · intro x w1 bA hbel hdep hdap hold hb
        refine ⟨fun _ => ?_, fun h => absurd h (by decide)⟩
        have e13 : bA.tmps[13]?.getD undef = .pointer (some ⟨Bt, 2, none⟩) := (hb 13).trans (hdep 1 (by decide))
        have ct := (QT.out.below hbel QT.out.lt).cell 2
        refine phf_run (.int .i64 cc) rfl ?_ rfl
        clear hb hdep hdap hold
        go_simp
      · intro x w1 bA hbel hdep hdap hold hb
        refine ⟨fun _ => ?_, fun h => absurd h (by decide)⟩
        have e5 : bA.tmps[5]?.getD undef = .pointer (some ⟨Bt, 0, none⟩) := hb 5
        refine phf_run (.pointer (some ⟨Bt, 0, none⟩)) rfl ?_ rfl
        clear hb hdep hdap hold
        go_simp
      · intro x w1 bA hbel hdep hdap hold hb
        refine ⟨fun _ => ?_, fun h => absurd h (by decide)⟩
        have e15 : bA.tmps[15]?.getD undef = .pointer (some ⟨Bt, 0, none⟩) := (hb 15).trans (hdep 3 (by decide))
        have ct := (QT.out.below hbel QT.out.lt).cell 0
        refine phf_run (.int .i64 ea) rfl ?_ rfl
        clear hb hdep hdap hold
        go_simp
      · intro x w1 bA hbel hdep hdap hold hb
        refine ⟨fun _ => ?_, fun h => absurd h (by decide)⟩
        have e5 : bA.tmps[5]?.getD undef = .pointer (some ⟨Bt, 0, none⟩) := hb 5
        refine phf_run (.pointer (some ⟨Bt, 1, none⟩)) rfl ?_ rfl
        clear hb hdep hdap hold
        go_simp
      · intro x w1 bA hbel hdep hdap hold hb
        refine ⟨fun _ => ?_, fun h => absurd h (by decide)⟩
        have e17 : bA.tmps[17]?.getD undef = .pointer (some ⟨Bt, 1, none⟩) := (hb 17).trans (hdep 5 (by decide))
        have ct := (QT.out.below hbel QT.out.lt).cell 1
        refine phf_run (.int .i64 ez) rfl ?_ rfl
        clear hb hdep hdap hold
        go_simp
      · intro x w1 bA hbel hdep hdap hold hb
        refine ⟨fun _ => ?_, fun h => absurd h (by decide)⟩
        have e14 : bA.tmps[14]?.getD undef = .int .i64 cc := (hb 14).trans (hdep 2 (by decide))
        have e16 : bA.tmps[16]?.getD undef = .int .i64 ea := (hb 16).trans (hdep 4 (by decide))
        have e18 : bA.tmps[18]?.getD undef = .int .i64 ez := (hb 18).trans (hdep 6 (by decide))
        refine phf_call ?_ ((bTerm_any cc ea ez w1 HBC.out.1 HBC.out.2.1 HBC.out.2.2).mono fun e w' h => (by obtain ⟨v, he, hv, hb'⟩ := h; exact ⟨v, he, hb', hv, fun e => Bool.noConfusion e⟩))
        clear hb hdep hdap hold
        go_simp
      · intro x w1 bA hbel hdep hdap hold hb
        refine ⟨fun _ => ?_, fun h => absurd h (by decide)⟩
        have e12 : bA.tmps[12]?.getD undef = .agg #[.bool bp, .slice Ap np cp] := (hb 12).trans (hdep 0 (by decide))
        have p19 := hdep 7 (by decide)
        have e19 : bA.tmps[19]?.getD undef = x 7 := hb 19
        generalize x 7 = x19 at *
        have P19 := Lib.hid (show (fun v w => PolyB w v (trmB cc ea ez)) x19 w1 from p19)
        clear p19
        refine phf_call ?_ ((bAdd_any (.agg #[.bool bp, .slice Ap np cp]) x19 R (trmB cc ea ez) w1 (HPV.out.below hbel) P19.out HOK.out.1 (trm_ok cc ea ez) HOK.out.2).mono fun e w' h => (by obtain ⟨v, r, he, hv, hr, hb'⟩ := h; exact ⟨v, he, hb', ⟨r, hv, hr⟩, fun e => Bool.noConfusion e⟩))
        clear hb hdep hdap hold
        go_simp
      · intro x w1 bA hbel hdep hdap hold hb
        refine ⟨fun h => absurd h (by decide), fun _ hall => ?_⟩
        have e3 : bA.tmps[3]?.getD undef = .pointer (some ⟨w.heap.size + 1, 0, none⟩) := hb 3
        have e20 : bA.tmps[20]?.getD undef = x 8 := hb 20
        have p19 := Lib.hid (show (fun v w => PolyB w v (trmB cc ea ez)) (x 7) w1 from hall 7 (by decide))
        have p20 := Lib.hid (show (fun v w => ∃ r, PolyB w v r ∧ CombB (fun x y => x + 1 * y) R (trmB cc ea ez) r) (x 8) w1 from hall 8 (by decide))
        clear hb hdep hdap hold
        obtain ⟨r, hv, hr⟩ := p20.out
        obtain ⟨bz, Az, nz, cz, e20b, _, _⟩ := hv.parts
        rw [e20b] at e20
        have HPW := Lib.hid (e20b ▸ hv)
        have HRR := Lib.hid hr
        have q5 := QP.out.below hbel QP.out.lt
        have Q5b := Lib.hid q5
        have f0 := q5.frozen 0
        have f1 := q5.frozen 1
        have c0 := q5.cell 0
        have c1 := q5.cell 1
        have HBL := Lib.hid hbel
        clear q5 e20b p20 p19 hv hr hbel
        refine phl_store (R := fun W => ∃ (b : Bool) (A : Option Addr) (n c : Nat) (r : PolB), Arr W (w.heap.size + 1) 27 [.bool b, .slice A n c] ∧ PolyB W (.agg #[.bool b, .slice A n c]) r ∧ CombB (fun x y => x + 1 * y) R (trmB cc ea ez) r ∧ Below (w.heap.size + 1) w5 W) ((w1.setCell ⟨w.heap.size + 1, 0, none⟩ (.bool bz)).setCell ⟨w.heap.size + 1, 1, none⟩ (.slice Az nz cz)) ?_ rfl ⟨bz, Az, nz, cz, r, (Q5b.out.set 0 _).set 1 _, HPW.out.box Q5b.out _ _, HRR.out, ((HBL.out.mono (Nat.le_of_lt QP.out.lt)).setCell (p := ⟨w.heap.size + 1, 0, none⟩) (Nat.le_refl _) _).setCell (p := ⟨w.heap.size + 1, 1, none⟩) (Nat.le_refl _) _⟩
        go_simp
      intro x w1 hR
      simp only [putAll, dstOf, Act.put, List.map_cons, List.map_nil, List.setIfInBounds_toArray, List.set_cons_succ, List.set_cons_zero, Nat.reduceAdd]
      have HF := Lib.hid (show Arr w1 w.heap.size 27 [.bool false, .slice none 0 0] ∧ Below w.heap.size w w1 ∧ ∃ (b : Bool) (A : Option Addr) (n c : Nat) (r : PolB), Arr w1 (w.heap.size + 1) 27 [.bool b, .slice A n c] ∧ PolyB w1 (.agg #[.bool b, .slice A n c]) r ∧ OfB (l.take (i + 1)) r from by
        obtain ⟨b, A, n, c, r, h1, h2, h3, h4⟩ := hR
        exact ⟨Q0.out.below h4 (Nat.lt_succ_self _), HB5.out.trans (h4.mono (Nat.le_succ _)), b, A, n, c, r, h1, h2, HNX.out r h3⟩)
      clear hR
      go_wp2_with fail
      go_roundg (l.length - (i + 1))
      case measure => omega
      case rel => exact ⟨i + 1, by omega, rfl, by go_num, HF⟩
    · have z1 : ¬ (i : Int) < (l.length : Int) := by omega
      have hkk : l.take i = l := List.take_of_length_le (by omega)
      rw [hkk] at hof
      have HOF := Lib.hid hof
      have x0 := q1.cell 0
      have x1 := q1.cell 1
      have r0 := q0.cell 0
      have r1 := q0.cell 1
      have f0 := q0.frozen 0
      have f1 := q0.frozen 1
      have hres := Lib.hid ((q0.set 0 (.bool bp)).set 1 (.slice Ap np cp))
      have HV := Lib.hid (hpv.box q0 (.bool bp) (.slice Ap np cp))
      have HBE := Lib.hid ((hbr.setCell (p := ⟨w.heap.size, 0, none⟩) (Nat.le_refl _) (.bool bp)).setCell (p := ⟨w.heap.size, 1, none⟩) (Nat.le_refl _) (.slice Ap np cp))
      clear HR q0 q1 hbr hpv hof hkk
      go_wp2_with fail
      refine bodyPost_ret (v := .agg #[.bool bp, .slice Ap np cp]) (results_c Tryz.results10 _ _ w.heap.size 27 _ _ rfl hres.out Tryz.underlying27 rfl info_polyB) rfl ?_
      exact ⟨_, R, rfl, HV.out, HOF.out, HBE.out⟩
/-- terms that are small -/
def smT (t : T2) : Bool := decide ((-1000 ≤ t.2 ∧ t.2 ≤ 1000) ∧ (-1000 ≤ t.1.1 ∧ t.1.1 ≤ 1000) ∧ (-1000 ≤ t.1.2 ∧ t.1.2 ≤ 1000))
def smL (l : List T2) : Bool := l.all smT && decide (l.length ≤ 6)
theorem smL_bd {l : List T2} (h : smL l = true) : Bd2 6000 1000 l ∧ l.length ≤ 6 := by
  unfold smL at h
  simp only [Bool.and_eq_true, decide_eq_true_eq, List.all_eq_true] at h
  obtain ⟨h1, h2⟩ := h
  have key : ∀ m : List T2, (∀ t ∈ m, smT t = true) → asum2 m ≤ 1000 * m.length := by
    intro m
    induction m with
    | nil => intro _; simp [asum2]
    | cons t m ih =>
      intro hm
      have e1 := of_decide_eq_true (hm t (List.mem_cons_self ..))
      have e2 := ih fun s hs => hm s (List.mem_cons_of_mem _ hs)
      rw [asum2, List.length_cons]
      omega
  refine ⟨⟨by have := key l h1; omega, fun t ht => ?_, by omega⟩, h2⟩
  have e1 := of_decide_eq_true (h1 t ht)
  omega
set_option maxHeartbeats 4000000 in
set_option maxRecDepth 100000 in
theorem smallL_any (vl : Value) (l : List T2) (w : World) (hl : SlA tB w vl l) (h64 : l.length ≤ 9223372036854775807) :
    Calls Tryz.prog 9 #[vl] w fun e w' => e = .returned (.bool (smL l)) ∧ Below w.heap.size w w' := by
  obtain ⟨V, hV⟩ : ∃ V, V = smL l := ⟨_, rfl⟩
  rw [← hV]
  have HV := Lib.hid hV
  clear hV
  have HL := Lib.hid (fun W (hb : Below w.heap.size w W) => hl.below hb)
  obtain ⟨A, c, rfl, _⟩ := hl
  go_enter Tryz.func9, Tryz.ntmps9
  go_wp2_with fail
  go_loopg [7] l.length (fun gk s7 wr => ∃ (i : Nat), i ≤ l.length ∧ gk = l.length - i ∧ s7 = .int .i64 (i : Int) ∧ Below w.heap.size w wr ∧ Hid (∀ t ∈ l.take i, smT t = true))
  case atStart => exact ⟨0, Nat.zero_le _, rfl, rfl, Below.refl _ _, Lib.hid (fun t h => by simp at h)⟩
  case round =>
    obtain ⟨i, hi, rfl, rfl, hbr, HT⟩ := hrel
    by_cases hlt : i < l.length
    · have z1 : (i : Int) < (l.length : Int) := by omega
      obtain ⟨b, o', rfl, _, hc0, hc1, hc2⟩ := (HL.out wr hbr).tat3 hlt
      have HNX := Lib.hid (show smT l[i] = true → ∀ t ∈ l.take (i + 1), smT t = true from fun h t ht => by
        rw [take_snocB hlt] at ht
        rcases List.mem_append.1 ht with ht | ht
        · exact HT.out t ht
        · rw [List.mem_singleton.1 ht]; exact h)
      have HBD := Lib.hid (show smT l[i] = false → V = false from fun h => by
        rw [HV.out]
        unfold smL
        rw [Bool.and_eq_false_iff]
        refine .inl ?_
        rw [List.all_eq_false]
        exact ⟨_, List.getElem_mem hlt, by rw [h]; simp⟩)
      have HSM := Lib.hid (show smT l[i] = decide ((-1000 ≤ l[i].2 ∧ l[i].2 ≤ 1000) ∧ (-1000 ≤ l[i].1.1 ∧ l[i].1.1 ≤ 1000) ∧ (-1000 ≤ l[i].1.2 ∧ l[i].1.2 ≤ 1000)) from rfl)
      generalize smT l[i] = sm at *
      generalize l[i].1.1 = ea at *
      generalize l[i].1.2 = ez at *
      generalize l[i].2 = cc at *
      have hbn := hbr.alloc hbr.size (.cells #[.int .i64 ea, .int .i64 ez, .int .i64 cc] 34)
      by_cases a1 : cc > 1000
      · have HE := Lib.hid (HBD.out (by rw [HSM.out]; exact decide_eq_false (by omega)))
        go_wp2_with fail
        go_ret
        exact ⟨by rw [HE.out]; rfl, hbn⟩
      have d1 : decide (1000 < cc) = false := decide_eq_false (by omega)
      by_cases a2 : cc < -1000
      · have HE := Lib.hid (HBD.out (by rw [HSM.out]; exact decide_eq_false (by omega)))
        go_wp2_with fail
        go_ret
        exact ⟨by rw [HE.out]; rfl, hbn⟩
      have d2 : decide (cc < -1000) = false := decide_eq_false (by omega)
      by_cases a3 : ea > 1000
      · have HE := Lib.hid (HBD.out (by rw [HSM.out]; exact decide_eq_false (by omega)))
        go_wp2_with fail
        go_ret
        exact ⟨by rw [HE.out]; rfl, hbn⟩
      have d3 : decide (1000 < ea) = false := decide_eq_false (by omega)
      by_cases a4 : ea < -1000
      · have HE := Lib.hid (HBD.out (by rw [HSM.out]; exact decide_eq_false (by omega)))
        go_wp2_with fail
        go_ret
        exact ⟨by rw [HE.out]; rfl, hbn⟩
      have d4 : decide (ea < -1000) = false := decide_eq_false (by omega)
      by_cases a5 : ez > 1000
      · have HE := Lib.hid (HBD.out (by rw [HSM.out]; exact decide_eq_false (by omega)))
        go_wp2_with fail
        go_ret
        exact ⟨by rw [HE.out]; rfl, hbn⟩
      have d5 : decide (1000 < ez) = false := decide_eq_false (by omega)
      by_cases a6 : ez < -1000
      · have HE := Lib.hid (HBD.out (by rw [HSM.out]; exact decide_eq_false (by omega)))
        go_wp2_with fail
        go_ret
        exact ⟨by rw [HE.out]; rfl, hbn⟩
      have d6 : decide (ez < -1000) = false := decide_eq_false (by omega)
      have HF := Lib.hid (HNX.out (by rw [HSM.out]; exact decide_eq_true (by omega)))
      clear HBD HNX HSM
      go_wp2_with fail
      go_roundg (l.length - (i + 1))
      case measure => omega
      case rel => exact ⟨i + 1, by omega, rfl, by go_num, hbn, HF⟩
    · have z1 : ¬ (i : Int) < (l.length : Int) := by omega
      have hkk : l.take i = l := List.take_of_length_le (by omega)
      rw [hkk] at HT
      have HE := Lib.hid (show V = decide (l.length ≤ 6) from by
        rw [HV.out]
        unfold smL
        rw [List.all_eq_true.2 HT.out, Bool.true_and])
      by_cases h6 : l.length ≤ 6
      · have z2 : (l.length : Int) ≤ 6 := by omega
        go_wp2_with fail
        go_ret
        exact ⟨by rw [HE.out, decide_eq_true h6]; rfl, hbr⟩
      · have z2 : ¬ (l.length : Int) ≤ 6 := by omega
        go_wp2_with fail
        go_ret
        exact ⟨by rw [HE.out, decide_eq_false h6]; rfl, hbr⟩
end Go.Proofs.YtbfggncmjdhapaaGreatDoor
