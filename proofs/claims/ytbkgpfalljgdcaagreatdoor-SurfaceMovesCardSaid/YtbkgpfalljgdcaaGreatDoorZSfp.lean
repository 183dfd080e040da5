/- Rows of polynomials that a call builds by appending. -/
import Derived.Test.YtbkgpfalljgdcaaGreatDoorZMpo
namespace Go.Proofs.YtbkgpfalljgdcaaGreatDoor
open Go.RowKit
set_option linter.unusedVariables false

theorem PolyV.wr {g : Nat} {w w' : World} {v : Value} {p : Pol} {t : TypeId} {cs : List Value} (h : PolyV w v p) (hg : Arr w g t cs) (hne : 67 ≠ t) (ho : Wr [g] w w') : PolyV w' v p := by
  obtain ⟨A, c, hv, hx⟩ := h
  refine ⟨A, c, hv, hx.keepT fun b ⟨cs', fr, hb⟩ => ho.block b (heap_lt hb) fun hm => ?_⟩
  have e1 := List.mem_singleton.1 hm
  subst e1
  rw [hg] at hb
  injection hb with hb
  injection hb with _ h2 _
  exact hne h2.symm
theorem PolyV.keepO {α : Type} {e : TypeId} {sz : Nat} {enc : α → List Value} {B : Nat} {w w' : World} {v v0 : Value} {p : Pol} {xs : List α} (h : PolyV w v p) (k : OwnA e sz enc B w v0 xs) (hne : 67 ≠ e) (hk : ∀ j, j < w.heap.size → v0.ownBlock ≠ some j → w'.heap[j]? = w.heap[j]?) : PolyV w' v p := by
  obtain ⟨A, c, hv, hx⟩ := h
  refine ⟨A, c, hv, hx.keepT fun b ⟨cs', fr, hb⟩ => hk b (heap_lt hb) fun q => ?_⟩
  obtain ⟨cs2, fr2, q2⟩ := k.typ b q
  rw [hb] at q2
  injection q2 with q2
  injection q2 with _ h2 _
  exact hne h2
/-- a row of polynomials, of the call's own -/
def RowG (B : Nat) (w : World) (v : Value) (r : List LP) : Prop := ∃ ps : List PVt, ps.length = r.length ∧ OwnA 40 2 eP B w v ps ∧ ∀ (j : Nat) p l, ps[j]? = some p → r[j]? = some l → PolyV w (vP p) (some l)
theorem RowG.wr {B g : Nat} {w w' : World} {v : Value} {r : List LP} {cs : List Value} (h : RowG B w v r) (hg : Arr w g 61 cs) (ho : Wr [g] w w') : RowG B w' v r := by
  obtain ⟨ts, h1, h2, h3⟩ := h
  exact ⟨ts, h1, h2.wr hg (by decide) ho, fun j t l ht hl => (h3 j t l ht hl).wr hg (by decide) ho⟩
theorem RowG.below {B : Nat} {w w' : World} {v : Value} {r : List LP} (h : RowG B w v r) (hb : Below w.heap.size w w') : RowG B w' v r := by
  obtain ⟨ts, h1, h2, h3⟩ := h
  exact ⟨ts, h1, h2.below hb, fun j t l ht hl => (h3 j t l ht hl).below hb⟩
theorem RowG.low {B B' : Nat} {w : World} {v : Value} {r : List LP} (h : RowG B w v r) (hb : B' ≤ B) : RowG B' w v r := by
  obtain ⟨ts, h1, h2, h3⟩ := h
  exact ⟨ts, h1, h2.low hb, h3⟩
theorem RowG.form {B : Nat} {w : World} {v : Value} {r : List LP} (h : RowG B w v r) : ∃ A c, v = .slice A r.length c := by
  obtain ⟨ts, h1, h2, _⟩ := h
  obtain ⟨A, c, e⟩ := h2.form
  exact ⟨A, c, by rw [e, h1]⟩
theorem RowG.q {B : Nat} {w : World} {v : Value} {r : List LP} (h : RowG B w v r) : RowQ w v r := by
  obtain ⟨ts, h1, h2, h3⟩ := h
  exact ⟨ts, h1, h2.sl, h3⟩
/-- the rows before i are made -/
structure GnI (n gE B : Nat) (m : List (List LP)) (i : Nat) (es : List SVt) (w : World) : Prop where
  len : es.length = i
  outer : Arr w gE 61 (es.map vS ++ List.replicate (n - i) (.slice none 0 0))
  row : ∀ (k : Nat) s r, es[k]? = some s → m[k]? = some r → RowG B w (vS s) r
theorem GnI.start {n gE B : Nat} {m : List (List LP)} {w : World} (h : Arr w gE 61 (List.replicate n (.slice none 0 0))) : GnI n gE B m 0 [] w := ⟨rfl, by simpa using h, fun k s r h => by simp at h⟩
theorem GnI.end_ {n gE B : Nat} {m : List (List LP)} {es : List SVt} {w : World} (h : GnI n gE B m n es w) (hm : m.length = n) : MatQ w (.slice (some ⟨gE, 0, none⟩) n n) m := by
  refine ⟨some ⟨gE, 0, none⟩, n, by rw [hm], by omega, fun i r hr => ⟨gE, 0, rfl, ?_⟩⟩
  have hi : i < es.length := by rw [h.len, ← hm]; exact (List.getElem?_eq_some_iff.1 hr).1
  refine ⟨vS es[i], ?_, (h.row i _ r (List.getElem?_eq_getElem hi) hr).q⟩
  rw [Nat.zero_add, h.outer.cell, Nat.sub_self, List.replicate_zero, List.append_nil, List.getElem?_map, List.getElem?_eq_getElem hi]; rfl
/-- row i is under way: its first elements lie in s -/
structure GnJ (n gE : Nat) (Wi : World) (i : Nat) (es : List SVt) (r : List LP) (s : SVt) (w : World) : Prop where
  outer : Arr w gE 61 (es.map vS ++ vS s :: List.replicate (n - (i + 1)) (.slice none 0 0))
  own : RowG Wi.heap.size w (vS s) r
  wr : Wr [gE] Wi w
theorem GnI.open_ {n gE B i : Nat} {m : List (List LP)} {es : List SVt} {w : World} (h : GnI n gE B m i es w) (hi : i < n) : GnJ n gE w i es [] (none, 0, 0) w := by
  refine ⟨?_, ⟨[], rfl, OwnA.nil _ _ _ _ _, fun j t l h => by simp at h⟩, Wr.refl _ _⟩
  have := h.outer
  rwa [show n - i = (n - (i + 1)) + 1 by omega, List.replicate_succ] at this
theorem GnJ.close {n gE B i : Nat} {m : List (List LP)} {es : List SVt} {Wi w : World} {r : List LP} {s : SVt} (h : GnI n gE B m i es Wi) (k : GnJ n gE Wi i es r s w) (hr : m[i]? = some r) (hB : B ≤ Wi.heap.size) : GnI n gE B m (i + 1) (es ++ [s]) w := by
  refine ⟨by simp [h.len], ?_, fun k' s' r' hs hr' => ?_⟩
  · have := k.outer
    rw [List.map_append, List.append_assoc]
    exact this
  · rw [List.getElem?_append] at hs
    split at hs
    · exact (h.row k' s' r' hs hr').wr h.outer k.wr
    · next q =>
      have hl := (List.getElem?_eq_some_iff.1 hs).1
      simp at hl
      have e : k' = i := by have := h.len; omega
      subst e
      rw [h.len, Nat.sub_self] at hs
      simp at hs
      rw [hr] at hr'
      injection hr' with e2
      subst e2; subst hs
      exact k.own.low hB
theorem GnJ.next {n gE i : Nat} {Wi w6 wS : World} {es : List SVt} {ts : List PVt} {r : List LP} {s : SVt} {m : PVt} {v : Value} {l0 : LP} (hi : es.length = i) (hts : ts.length = r.length)
    (hou : Arr w6 gE 61 (es.map vS ++ vS s :: List.replicate (n - (i + 1)) (.slice none 0 0))) (hwr : Wr [gE] Wi w6) (hgE : gE < Wi.heap.size)
    (hown : OwnA 40 2 eP Wi.heap.size w6 (vS s) ts) (hE : ∀ (j : Nat) t l, ts[j]? = some t → r[j]? = some l → PolyV w6 (vP t) (some l))
    (ho : OwnA 40 2 eP Wi.heap.size wS v (ts ++ [m])) (hm : PolyV wS (vP m) (some l0)) (hk : Kpt Wi.heap.size w6 wS (vS s) v) :
    ∃ s', v = vS s' ∧ GnJ n gE Wi i es (r ++ [l0]) s' (wS.setCell ⟨gE, i, none⟩ v) := by
  obtain ⟨A, c, rfl⟩ := ho.form
  have ho' := hk.arr hou (hown.apartT hou (by decide))
  have hset := ho'.set i (.slice A (ts ++ [m]).length c)
  rw [List.set_append_right i _ (by simp [hi]), List.length_map, hi, Nat.sub_self, List.set_cons_zero] at hset
  have onl : Onl gE wS (wS.setCell ⟨gE, i, none⟩ (.slice A (ts ++ [m]).length c)) := (Onl.refl gE wS).setCell i _
  have hw : Wr [gE] wS (wS.setCell ⟨gE, i, none⟩ (.slice A (ts ++ [m]).length c)) := Wr.of_onl onl (List.mem_singleton.2 rfl)
  refine ⟨(A, (ts ++ [m]).length, c), rfl, hset, ⟨ts ++ [m], by simp [hts], ho.wr ho' (by decide) hw, fun j t l ht hl => ?_⟩, (hwr.then_below hk.bel).trans hw⟩
  rw [List.getElem?_append] at ht hl
  by_cases q : j < ts.length
  · rw [if_pos q] at ht
    rw [if_pos (by omega)] at hl
    exact ((hE j t l ht hl).keepO hown (by decide) hk.keep).wr ho' (by decide) hw
  · rw [if_neg q] at ht
    rw [if_neg (by omega)] at hl
    have hj : j - ts.length = 0 := by have := (List.getElem?_eq_some_iff.1 ht).1; simp at this; omega
    rw [hj] at ht
    rw [← hts, hj] at hl
    simp at ht hl
    subst ht; subst hl
    exact hm.wr ho' (by decide) hw
theorem kp_pol {α : Type} {e : TypeId} {sz : Nat} {enc : α → List Value} {B : Nat} {w0 : World} {v0 : Value} {xs : List α} {p : Pol} {γ : Type} (f : γ → Value) (h : OwnA e sz enc B w0 v0 xs) (hne : 67 ≠ e) : KpΨ (fun m w => PolyV w (f m) p) v0 w0 := fun m w w' hb hm hk =>
  hm.keepO (h.below hb) hne hk
theorem mk_pols (n : Nat) (hn : n ≤ 1000000) (W : World) : (Instr.makeSlice 60 (.int .i64 (n : Int)) (.int .i64 (n : Int))).run Tryz.prog W = .ok (.slice (some ⟨W.heap.size, 0, none⟩) n n) (W.alloc (.cells (rowOf (List.replicate n (.slice none 0 0))) 61)) := by
  obtain ⟨i, hi, hz, hs, hb⟩ := info_parts info_pls
  exact run_make_one (P := Tryz.prog) 60 61 i (.slice none 0 0) Tryz.underlying60 hi hz hs rfl (by omega) n hn W
/-- a matrix of integers in memory -/
def MatI (w : World) (v : Value) (m : List (List Int)) : Prop := SlN (fun w u l => Ints w u l) w v m
theorem MatI.below {w w' : World} {v : Value} {m : List (List Int)} (h : MatI w v m) (hb : Below w.heap.size w w') : MatI w' v m := SlN.below (fun _ _ q => Ints.below q hb) h hb
def sqM (m : List (List Int)) : Bool := m.all fun r => decide (r.length = m.length)
def sfB (x : Int) : Bool := decide (-1125899906842624 ≤ x ∧ x ≤ 1125899906842624)
def smM (m : List (List Int)) : Bool := m.all fun r => r.all sfB
set_option maxHeartbeats 1000000 in
theorem sfits_any (x : Int) (w : World) : Calls Tryz.prog 36 #[.int .i64 x] w fun e w' => e = .returned (.bool (sfB x)) ∧ Below w.heap.size w w' := by
  obtain ⟨B, hB⟩ : ∃ B, B = sfB x := ⟨_, rfl⟩
  rw [← hB]
  have HB := Lib.hid hB
  clear hB
  by_cases h1 : -1125899906842624 ≤ x
  · by_cases h2 : x ≤ 1125899906842624
    · have HE := Lib.hid (show B = true by rw [HB.out]; exact decide_eq_true ⟨h1, h2⟩)
      go_enter Tryz.func36, Tryz.ntmps36
      go_wp2_with fail
      go_ret
      exact ⟨by rw [HE.out]; simp <;> omega, Below.refl _ _⟩
    · have HE := Lib.hid (show B = false by rw [HB.out]; exact decide_eq_false fun h => h2 h.2)
      go_enter Tryz.func36, Tryz.ntmps36
      go_wp2_with fail
      go_ret
      exact ⟨by rw [HE.out]; simp <;> omega, Below.refl _ _⟩
  · have HE := Lib.hid (show B = false by rw [HB.out]; exact decide_eq_false fun h => h1 h.1)
    go_enter Tryz.func36, Tryz.ntmps36
    go_wp2_with fail
    go_ret
    exact ⟨by rw [HE.out]; simp <;> omega, Below.refl _ _⟩
set_option maxHeartbeats 1000000 in
theorem square_any (v : Value) (m : List (List Int)) (w : World) (h : MatI w v m) (hl : m.length ≤ 9223372036854775807) (hr : ∀ r ∈ m, r.length ≤ 9223372036854775807) : Calls Tryz.prog 25 #[v] w fun e w' => e = .returned (.bool (sqM m)) ∧ Below w.heap.size w w' := by
  have HH := Lib.hid h
  have HR := Lib.hid hr
  obtain ⟨A, c, rfl⟩ := h.form
  obtain ⟨n, hnn⟩ : ∃ n, n = m.length := ⟨_, rfl⟩
  rw [← hnn] at HH hl ⊢
  have HN := Lib.hid hnn
  obtain ⟨B, hB⟩ : ∃ B, B = sqM m := ⟨_, rfl⟩
  rw [← hB]
  have HB := Lib.hid hB
  clear h hr hnn hB
  go_enter Tryz.func25, Tryz.ntmps25
  go_upto_region 2 with fail
  go_loopg [4, 7] n (fun gk s4 s7 wr => ∃ i : Nat, i ≤ n ∧ gk = n - i ∧ s7 = .int .i64 (i : Int) ∧ wr = w ∧ ∀ k (hk : k < m.length), k < i → m[k].length = n)
  case atStart => exact ⟨0, by omega, rfl, rfl, rfl, fun k _ h => absurd h (by omega)⟩
  case round =>
    obtain ⟨i, hi, rfl, rfl, rfl, hall⟩ := hrel
    have HALL := Lib.hid hall
    clear hall
    by_cases hit : i < n
    · have z1 : (i : Int) < (n : Int) := by omega
      have hml : i < m.length := by rw [← HN.out]; exact hit
      obtain ⟨b1, o1, hA, hnm, u, hu, hrow⟩ := HH.out.at_ hml
      clear hnm
      subst hA
      obtain ⟨A1, c1', hu1, -, -⟩ := hrow
      subst hu1
      have hrl := HR.out _ (List.getElem_mem hml)
      obtain ⟨q, hq⟩ : ∃ q, q = m[i].length := ⟨_, rfl⟩
      rw [← hq] at hu hrl
      have HQ := Lib.hid hq
      have c1 := hu
      clear hu hq
      by_cases hqn : q = n
      · have z4 : ((q : Int) != (n : Int)) = false := by simp [hqn]
        have HQN := Lib.hid hqn
        clear hqn
        go_wp2_with fail
        go_roundg (n - (i + 1))
        case measure => omega
        case rel => exact ⟨i + 1, by omega, rfl, by go_num, rfl, fun k hk hki => by
          rcases Nat.lt_or_ge k i with z | z
          · exact HALL.out k hk z
          · have : k = i := by omega
            subst this
            rw [← HQ.out]; exact HQN.out⟩
      · have z4 : ((q : Int) != (n : Int)) = true := by simp; omega
        have HE := Lib.hid (show B = false by
          rw [HB.out]
          refine Bool.eq_false_iff.2 fun h => hqn ?_
          have := List.all_eq_true.1 h _ (List.getElem_mem hml)
          rw [HQ.out, HN.out]; exact of_decide_eq_true this)
        clear hqn HQ hml
        go_wp2_with fail
        go_ret
        exact ⟨by rw [HE.out]; rfl, Below.refl _ _⟩
    · have z1 : ¬ ((i : Int) < (n : Int)) := by omega
      have HE := Lib.hid (show B = true by
        rw [HB.out]
        refine List.all_eq_true.2 fun r hr => decide_eq_true ?_
        obtain ⟨k, hk, rfl⟩ := List.getElem_of_mem hr
        rw [← HN.out]; exact HALL.out k hk (by have := HN.out; omega))
      go_wp2_with fail
      go_ret
      exact ⟨by rw [HE.out]; rfl, Below.refl _ _⟩
set_option maxHeartbeats 2000000 in
set_option maxRecDepth 100000 in
theorem small_any (v : Value) (m : List (List Int)) (w : World) (h : MatI w v m) (hl : m.length ≤ 9223372036854775807) (hr : ∀ r ∈ m, r.length ≤ 9223372036854775807) : Calls Tryz.prog 26 #[v] w fun e w' => e = .returned (.bool (smM m)) ∧ Below w.heap.size w w' := by
  have HH := Lib.hid (fun W (hb : Below w.heap.size w W) => h.below hb)
  have HR := Lib.hid hr
  obtain ⟨A, c, rfl⟩ := h.form
  obtain ⟨n, hnn⟩ : ∃ n, n = m.length := ⟨_, rfl⟩
  rw [← hnn] at HH hl ⊢
  have HN := Lib.hid hnn
  obtain ⟨B, hB⟩ : ∃ B, B = smM m := ⟨_, rfl⟩
  rw [← hB]
  have HB := Lib.hid hB
  clear h hr hnn hB
  go_enter Tryz.func26, Tryz.ntmps26
  go_upto_region 2 with fail
  go_loopg [4, 6, 9] n (fun gk s4 s6 s9 wr => ∃ i : Nat, i ≤ n ∧ gk = n - i ∧ s9 = .int .i64 (i : Int) ∧ Below w.heap.size w wr ∧ ∀ k (hk : k < m.length), k < i → m[k].all sfB = true)
  case atStart => exact ⟨0, by omega, rfl, rfl, Below.refl _ _, fun k _ h => absurd h (by omega)⟩
  case round =>
    obtain ⟨i, hi, rfl, rfl, hb, hall⟩ := hrel
    obtain ⟨wo, rfl⟩ : ∃ wo : World, wo = wr := ⟨_, rfl⟩
    have HALL := Lib.hid hall
    have HBO := Lib.hid hb
    clear hall hb
    by_cases hit : i < n
    · have z1 : (i : Int) < (n : Int) := by omega
      have hml : i < m.length := by rw [← HN.out]; exact hit
      obtain ⟨b1, o1, hA, hnm, u, hu, hrow⟩ := (HH.out wo HBO.out).at_ hml
      clear hnm
      subst hA
      have hrl := HR.out _ (List.getElem_mem hml)
      have HROW := Lib.hid (fun W (hb : Below wo.heap.size wo W) => Ints.below hrow hb)
      have HBF := Lib.hid (show ∀ k (hk : k < m[i].length), sfB m[i][k] = false → B = false from fun k hk hf => by
        rw [HB.out]
        refine Bool.eq_false_iff.2 fun h => ?_
        have h1 := List.all_eq_true.1 h _ (List.getElem_mem hml)
        have h2 := List.all_eq_true.1 h1 _ (List.getElem_mem hk)
        rw [hf] at h2; cases h2)
      have HIX := Lib.hid (show ∀ k (hk : k < m.length), k < i + 1 → k < i ∨ m[k] = m[i] from fun k hk h => by
        rcases Nat.lt_or_ge k i with z | z
        · exact .inl z
        · have : k = i := by omega
          subst this; exact .inr rfl)
      generalize m[i] = row at *
      obtain ⟨A1, c1', hu1, -, -⟩ := hrow
      subst hu1
      obtain ⟨q, hq⟩ : ∃ q, q = row.length := ⟨_, rfl⟩
      rw [← hq] at hu hrl HROW
      have HQ := Lib.hid hq
      have c1 := hu
      clear hu hq
      go_upto_region 5 with fail
      clear c1
      go_loopg [6, 15] q (fun gk s6 s15 wr => ∃ j : Nat, j ≤ q ∧ gk = q - j ∧ s15 = .int .i64 (j : Int) ∧ Below wo.heap.size wo wr ∧ ∀ k (hk : k < row.length), k < j → sfB row[k] = true)
      case atStart => exact ⟨0, by omega, rfl, rfl, Below.refl _ _, fun k _ h => absurd h (by omega)⟩
      case round =>
        obtain ⟨j, hj, rfl, rfl, hb, hal2⟩ := hrel
        obtain ⟨wd, rfl⟩ : ∃ wd : World, wd = wr := ⟨_, rfl⟩
        have HAL2 := Lib.hid hal2
        have HBD := Lib.hid hb
        clear hal2 hb
        by_cases hjt : j < q
        · have z2 : (j : Int) < (q : Int) := by omega
          have hjl : j < row.length := by rw [← HQ.out]; exact hjt
          obtain ⟨b2, o2, rfl, hlt, q0⟩ := (HROW.out wd HBD.out).at_ hjl
          have HBF2 := Lib.hid (HBF.out j hjl)
          have HJX := Lib.hid (show ∀ k (hk : k < row.length), k < j + 1 → k < j ∨ row[k] = row[j] from fun k hk h => by
            rcases Nat.lt_or_ge k j with z | z
            · exact .inl z
            · have : k = j := by omega
              subst this; exact .inr rfl)
          generalize row[j] = x at *
          have HFT := Lib.hid (sfits_any x wd)
          have c1 := q0
          clear hlt q0 hjl
          cases hfx : sfB x with
          | true =>
            rw [hfx] at HFT
            have HX := Lib.hid hfx
            clear hfx HBF2
            go_wp2_with (go_at_call 36; refine HFT.out.mono ?_; rintro e w5 ⟨rfl, hb5⟩; have HB5 := Lib.hid (HBD.out.trans (hb5.mono HBD.out.size)); clear hb5)
            go_roundg (q - (j + 1))
            case measure => omega
            case rel => exact ⟨j + 1, by omega, rfl, by go_num, HB5.out, fun k hk h => by
              rcases HJX.out k hk h with z | z
              · exact HAL2.out k hk z
              · rw [z]; exact HX.out⟩
          | false =>
            rw [hfx] at HFT
            have HX := Lib.hid (HBF2.out hfx)
            clear hfx HBF2
            go_wp2_with (go_at_call 36; refine HFT.out.mono ?_; rintro e w5 ⟨rfl, hb5⟩; have HB5 := Lib.hid (HBD.out.trans (hb5.mono HBD.out.size)); clear hb5)
            go_ret
            exact ⟨by rw [HX.out]; rfl, HBO.out.trans (HB5.out.mono HBO.out.size)⟩
        · have z2 : ¬ ((j : Int) < (q : Int)) := by omega
          have HRA := Lib.hid (show row.all sfB = true from List.all_eq_true.2 fun x hx => by
            obtain ⟨k, hk, rfl⟩ := List.getElem_of_mem hx
            exact HAL2.out k hk (by have := HQ.out; omega))
          go_wp2_with fail
          go_roundg (n - (i + 1))
          case measure => omega
          case rel => exact ⟨i + 1, by omega, rfl, by go_num, HBO.out.trans (HBD.out.mono HBO.out.size), fun k hk h => by
            rcases HIX.out k hk h with z | z
            · exact HALL.out k hk z
            · rw [z]; exact HRA.out⟩
    · have z1 : ¬ ((i : Int) < (n : Int)) := by omega
      have HE := Lib.hid (show B = true by
        rw [HB.out]
        refine List.all_eq_true.2 fun r hr => ?_
        obtain ⟨k, hk, rfl⟩ := List.getElem_of_mem hr
        exact HALL.out k hk (by have := HN.out; omega))
      go_wp2_with fail
      go_ret
      exact ⟨by rw [HE.out]; rfl, HBO.out⟩
theorem info_isl : (Tryz.prog.info? 22).map (fun i => (i.zero, i.size, i.bytes)) = some (some (.slice none 0 0), 1, 24) := by kernel_rfl
theorem mk_rowsZ (n : Nat) (hn : n ≤ 1000000) (W : World) : (Instr.makeSlice 26 (.int .i64 (n : Int)) (.int .i64 (n : Int))).run Tryz.prog W = .ok (.slice (some ⟨W.heap.size, 0, none⟩) n n) (W.alloc (.cells (rowOf (List.replicate n (.slice none 0 0))) 22)) := by
  obtain ⟨i, hi, hz, hs, hb⟩ := info_parts info_isl
  exact run_make_one (P := Tryz.prog) 26 22 i (.slice none 0 0) Tryz.underlying26 hi hz hs rfl (by omega) n hn W
end Go.Proofs.YtbkgpfalljgdcaaGreatDoor
