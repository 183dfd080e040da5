/- The reference's Follow (layer 45): the classes that follow a class. -/
import Derived.Test.YteliflcbegcdlaaGreatDoorWwRin
import Derived.Test.YteliflcbegcdlaaGreatDoorWwPth
import Derived.Test.YteliflcbegcdlaaGreatDoorWwRap
namespace Go.Proofs.YteliflcbegcdlaaGreatDoor
open Go.RowKit Go.Shelf
set_option linter.unusedVariables false
theorem gds_of_qa {B : Nat} {w : World} {v : Value} {cs : List GV} {gs : List Gd} (h : QA 24 2 eG B w v cs) (ha : Al w cs gs) : Gds w v gs := by
  have hl := ha.len
  rcases h with ⟨rfl, rfl⟩ | ⟨g, o, c, cur, rfl, hb, hh, hc, hs, hsl, hx⟩
  · cases gs with
    | nil => exact ⟨none, 0, rfl, Nat.le_refl _, fun k x h => by simp at h⟩
    | cons g gs => exact ha.elim
  · refine ⟨some ⟨g, o, none⟩, c, by rw [hl], by omega, fun k x hk => ?_⟩
    have hlt : k < cs.length := by rw [hl]; exact (List.getElem?_eq_some_iff.1 hk).1
    refine ⟨g, o, cs[k], rfl, ?_, ?_, ha.get k _ _ (List.getElem?_eq_getElem hlt) hk⟩
    · rw [cell_of_row w g _ cur 24 (0, 0) hh]
      exact hx (k * 2) _ (by rw [show k * 2 = k * 2 + 0 from rfl, eGflat_get cs k 0 hlt (by omega)]; rfl)
    · rw [cell_of_row w g _ cur 24 (0, 0) hh, Nat.add_assoc]
      exact hx (k * 2 + 1) _ (by rw [eGflat_get cs k 1 hlt (by omega)]; rfl)
/-- integers lie in other blocks than the list's -/
theorem ints_app {B : Nat} {w w' : World} {u v : Value} {cs : List GV} {xs : List Int} (h : QA 24 2 eG B w u cs) (hi : Ints w v xs) (hk : ∀ k, k < w.heap.size → sBlk u ≠ some k → w'.heap[k]? = w.heap[k]?) : Ints w' v xs := by
  obtain ⟨A, c, hv, hc, hx⟩ := hi
  refine ⟨A, c, hv, hc, fun k x hk2 => ?_⟩
  obtain ⟨b, o, hA, hcell⟩ := hx k x hk2
  refine ⟨b, o, hA, ?_⟩
  have hne : sBlk u ≠ some b := fun e => by
    obtain ⟨A1, n1, c1, e1⟩ := h.noint e hcell
    cases e1
  have := hk b (block_lt_of_cell hcell) hne
  rw [← hcell]
  unfold World.cell?
  rw [this]
theorem gv_app {B : Nat} {w w' : World} {u : Value} {cs : List GV} {q : GV} {g : Gd} (h : QA 24 2 eG B w u cs) (hi : GvI w q g) (hk : ∀ k, k < w.heap.size → sBlk u ≠ some k → w'.heap[k]? = w.heap[k]?) : GvI w' q g :=
  ⟨ints_app h hi.1 hk, ints_app h hi.2 hk⟩
/-- the list under way and the grid -/
structure FwI (n0 : Nat) (sX sO : Value) (w wr : World) (v : Value) (gs : List Gd) : Prop where
  bel : Below n0 w wr
  box : Arr wr n0 24 [sX, sO]
  own : ∃ cs, QA 24 2 eG (n0 + 1) wr v cs ∧ Al wr cs gs
/-- a grid in a box of its own -/
structure BxI (n0 b : Nat) (s0 s1 : Value) (g : Gd) (v : Value) (wr : World) : Prop where
  bx : Arr wr b 24 [s0, s1]
  i1 : Ints wr s0 g.1
  i2 : Ints wr s1 g.2
  nb : sBlk v ≠ some b
  le : n0 ≤ b
section
variable {n0 b : Nat} {sX sO v v' s0 s1 : Value} {w wr wr' : World} {gs : List Gd} {g : Gd}
theorem FwI.below (h : FwI n0 sX sO w wr v gs) (hb : Below wr.heap.size wr wr') : FwI n0 sX sO w wr' v gs := by
  obtain ⟨cs, h1, h2⟩ := h.own
  exact ⟨h.bel.trans (hb.mono (Nat.le_of_lt h.box.lt)), h.box.below hb h.box.lt, cs, h1.below hb, h2.imp fun p g k => ⟨Ints.below k.1 hb, Ints.below k.2 hb⟩⟩
theorem BxI.below (h : BxI n0 b s0 s1 g v wr) (hb : Below wr.heap.size wr wr') : BxI n0 b s0 s1 g v wr' :=
  ⟨h.bx.below hb h.bx.lt, h.i1.below hb, h.i2.below hb, h.nb, h.le⟩
theorem FwI.form (h : FwI n0 sX sO w wr v gs) : ∃ A c, v = .slice A gs.length c := by
  obtain ⟨cs, h1, h2⟩ := h.own
  obtain ⟨A, c, e⟩ := h1.form
  exact ⟨A, c, by rw [← h2.len]; exact e⟩
theorem FwI.gds (h : FwI n0 sX sO w wr v gs) : Gds wr v gs := by
  obtain ⟨cs, h1, h2⟩ := h.own
  exact gds_of_qa h1 h2
theorem FwI.app {cs : List GV} {q : GV} {z : Gd} (h : FwI n0 sX sO w wr v gs) (h1 : QA 24 2 eG (n0 + 1) wr v cs) (h2 : Al wr cs gs) (hq : GvI wr q z) (k1 : QA 24 2 eG (n0 + 1) wr' v' (cs ++ [q])) (k2 : Below (n0 + 1) wr wr') (k3 : ∀ k, k < wr.heap.size → sBlk v ≠ some k → wr'.heap[k]? = wr.heap[k]?) : FwI n0 sX sO w wr' v' (gs ++ [z]) :=
  ⟨h.bel.trans (k2.mono (by omega)), h.box.below k2 (by omega), _, k1, (h2.imp fun p g k => gv_app h1 k k3).snoc (gv_app h1 hq k3)⟩
theorem BxI.app {cs : List GV} (h : BxI n0 b s0 s1 g v wr) (h1 : QA 24 2 eG (n0 + 1) wr v cs) (k3 : ∀ k, k < wr.heap.size → sBlk v ≠ some k → wr'.heap[k]? = wr.heap[k]?) (k4 : sBlk v' = sBlk v ∨ sBlk v' = some wr.heap.size) : BxI n0 b s0 s1 g v' wr' := by
  refine ⟨(k3 b h.bx.lt h.nb).trans h.bx, ints_app h1 h.i1 k3, ints_app h1 h.i2 k3, fun e => ?_, h.le⟩
  rcases k4 with k4 | k4
  · rw [k4] at e; exact h.nb e
  · rw [k4] at e
    injection e with e
    have := h.bx.lt
    omega
end
theorem wpList_appQA {α : Type} {e : TypeId} {sz : Nat} {enc : α → List Value} {base : Nat} {w : World} {v u : Value} {xs ys : List α} {P : Program} {ops : Array Oper} {rest : List Oper} {o : Oper} {a : Act} {Q : Exit → Act → World → Prop} (hgd : o.guard = none) (E : ElQ P e sz enc) (s x : Operand) (t t2 : TypeId) (ho : o.op = .call { callee := .builtin .append, args := #[s, x], argTypes := #[t, t2] })
    (ht : P.underlying t = some (.slice e)) (ht2 : P.underlying t2 = some (.slice e))
    (hv : a.eval s = v) (h : QA e sz enc base w v xs) (hx : a.eval x = u) (hu : SlA enc w u ys) (hn : ys ≠ []) (hlen : xs.length + ys.length ≤ 100000000) (hbase : base ≤ w.heap.size)
    (hK : ∀ v' w', QA e sz enc base w' v' (xs ++ ys) → Below base w w' → (∀ k, k < w.heap.size → sBlk v ≠ some k → w'.heap[k]? = w.heap[k]?) → (sBlk v' = sBlk v ∨ sBlk v' = some w.heap.size) → wpList P ops Q rest (a.put o.dst v') w') : wpList P ops Q (o :: rest) a w :=
  wpList_plain hgd fun _ hk => wp_appQA E s x t t2 ho ht ht2 hv h hx hu hn hlen hbase fun v' w' h1 h2 h3 h4 => hk _ _ (hK v' w' h1 h2 h3 h4)
/-- a list of one grid, in a block of its own -/
theorem sl_one (w : World) (q : GV) : SlA eG (w.alloc (.cells #[sv q.1, sv q.2] 24)) (.slice (some ⟨w.heap.size, 0, none⟩) 1 1) [q] := by
  refine ⟨some ⟨w.heap.size, 0, none⟩, 1, rfl, Nat.le_refl _, fun j u hj => ⟨w.heap.size, 0, rfl, ?_⟩⟩
  have h := (Arr.new w 24 [sv q.1, sv q.2]).cell (0 + j)
  rw [Nat.zero_add] at h ⊢
  simp only [List.flatMap_cons, List.flatMap_nil, List.append_nil, eG] at hj
  exact h.trans hj
/-- what Follow hands back -/
def FlwP (g : Gd) (w : World) (e : Ending) (w' : World) : Prop :=
  ∃ A n c gs, e = .returned (.slice A n c) ∧ Gds w' (.slice A n c) gs ∧ IsF g gs ∧ Below w.heap.size w w' ∧ ∀ b, sBlk (.slice A n c) = some b → w.heap.size ≤ b ∧ b < w'.heap.size
theorem fol_vd {g c : Gd} (hf : Fol g c) (h : VdG g) : ∃ y, VdG y ∧ lstM y = c := by
  obtain ⟨x, y, k, r, a, hx, hk, happ, hc⟩ := hf
  exact ⟨y, applyM_res_vd happ, hc⟩
set_option maxHeartbeats 8000000 in
set_option maxRecDepth 100000 in
theorem refFollow_any (vx vo : Value) (X O : List Int) (w : World) (hX : Ints w vx X) (hO : Ints w vo O) (hv : Vd X O) :
    Calls Tryz.prog 24 #[.agg #[vx, vo]] w (FlwP (X, O) w) := by
  have h40 := hv.most
  have h2 := hv.two
  have HV := Lib.hid (show VdG (X, O) from hv)
  have HSH := Lib.hid (fun (W : World) (hb : Below w.heap.size w W) (cc rr : Nat) (hc : cc < X.length) (hr : rr < X.length) => refShift_any vx vo X O cc rr W (hX.below hb) (hO.below hb) hv hc hr)
  clear hv
  obtain ⟨A, c, rfl, -, -⟩ := hX
  obtain ⟨A', c', rfl, -, -⟩ := hO
  obtain ⟨n, hn⟩ : ∃ n, n = X.length := ⟨_, rfl⟩
  obtain ⟨n', hn'⟩ : ∃ n, n = O.length := ⟨_, rfl⟩
  rw [← hn] at HSH h40 h2 ⊢
  rw [← hn'] at HSH ⊢
  have HN := Lib.hid (show n = (X, O).1.length from hn)
  clear hn hn'
  go_enter Tryz.func24, Tryz.ntmps24
  go_upto_region 2 with fail
  have hW : ∀ W, W = w.alloc (.cells #[.slice A n c, .slice A' n' c'] 24) → FwI w.heap.size (.slice A n c) (.slice A' n' c') w W (.slice none 0 0) [] := by
    rintro W rfl
    exact ⟨(Below.refl _ _).alloc (Nat.le_refl _) _, heap_box _ rfl, [], QA.nil _ _ _ _ _, trivial⟩
  generalize w.alloc (.cells #[.slice A n c, .slice A' n' c'] 24) = w1 at hW ⊢
  have HF1 := Lib.hid (hW w1 rfl)
  clear hW
  obtain ⟨n0, hn0⟩ : ∃ n, n = w.heap.size := ⟨_, rfl⟩
  rw [← hn0] at HF1 HSH ⊢
  have HN0 := Lib.hid hn0
  clear hn0
  have y0 := HF1.out.box.cell 0
  have y1 := HF1.out.box.cell 1
  go_wp2_with fail
  clear y0 y1
  go_loopw [3, 5] (fun vo ic wr => ∃ (cc : Nat) (Ao : Option Addr) (co : Nat) (gs : List Gd), vo = .slice Ao gs.length co ∧ ic = .int .i64 (cc : Int) ∧ cc ≤ n ∧ Hid (FwI n0 (.slice A n c) (.slice A' n' c') w wr (.slice Ao gs.length co) gs) ∧ Hid (FlI (X, O) cc 0 2 0 0 gs)) (fun _ ic _ => n - (intOf ic).toNat)
  case atStart => exact ⟨0, none, 0, [], rfl, rfl, Nat.zero_le _, HF1, Lib.hid FlI.start⟩
  case round =>
    clear HF1
    obtain ⟨cc, Ao, co, gs, rfl, rfl, hcc, HF, HL⟩ := hrel
    by_cases hlt : cc < n
    · have z1 : (cc : Int) < (n : Int) := by omega
      go_wp2_with fail
      obtain ⟨wo1, hwo1⟩ : ∃ W, W = wr := ⟨_, rfl⟩
      clear hwo1
      go_loopw [3, 6] (fun vo ir wr => ∃ (rr : Nat) (Ao : Option Addr) (co : Nat) (gs : List Gd), vo = .slice Ao gs.length co ∧ ir = .int .i64 (rr : Int) ∧ rr ≤ n ∧ Hid (FwI n0 (.slice A n c) (.slice A' n' c') w wr (.slice Ao gs.length co) gs) ∧ Hid (FlI (X, O) cc rr 2 0 0 gs)) (fun _ ir _ => n - (intOf ir).toNat)
      case atStart => exact ⟨0, _, _, _, rfl, rfl, Nat.zero_le _, HF, HL⟩
      case round =>
        clear HF HL
        obtain ⟨rr, Ao, co, gs, rfl, rfl, hrr, HF, HL⟩ := hrel
        by_cases hlt2 : rr < n
        · have z2 : (rr : Int) < (n : Int) := by omega
          have y0 := HF.out.box.cell 0
          have y1 := HF.out.box.cell 1
          have HS1 := Lib.hid (HSH.out _ HF.out.bel cc rr hlt hlt2)
          go_upto_region 10 with (go_at_call 41; refine HS1.out.mono ?_; rintro e w5 ⟨v5, rfl, ⟨gx, go, rfl, ng, lx, lo, ax, ao⟩, hb5⟩)
          have HXV := Lib.hid (show VdG (trl cc rr X, trl cc rr O) from trl_vd HV.out (by rw [← HN.out]; exact hlt) (by rw [← HN.out]; exact hlt2))
          have HCV := Lib.hid (show ∀ kd a k, FlI (X, O) cc rr kd a k = FlI (X, O) cc rr kd a k from fun _ _ _ => rfl)
          obtain ⟨T1, hT1⟩ : ∃ T, T = trl cc rr X := ⟨_, rfl⟩
          obtain ⟨T2, hT2⟩ : ∃ T, T = trl cc rr O := ⟨_, rfl⟩
          have e1 : T1.length = n := by rw [hT1, trl_length]; exact HN.out.symm
          rw [← hT1] at ax HXV ⊢
          rw [← hT2] at ao HXV ⊢
          have HT12 := Lib.hid (And.intro hT1 hT2)
          obtain ⟨l1, hl1⟩ : ∃ l, l = T1.length := ⟨_, rfl⟩
          obtain ⟨l2, hl2⟩ : ∃ l, l = T2.length := ⟨_, rfl⟩
          have j1 := Ints.of_arr (xs := T1) ax
          have j2 := Ints.of_arr (xs := T2) ao
          rw [← hl1] at j1 ⊢
          rw [← hl2] at j2 ⊢
          have hal := (Below.refl w5.heap.size w5).alloc (Nat.le_refl _) (.cells #[.slice (some ⟨gx, 0, none⟩) l1 l1, .slice (some ⟨go, 0, none⟩) l2 l2] 24)
          have HF6 := Lib.hid ((HF.out.below hb5).below hal)
          have HX6 := Lib.hid (show BxI n0 w5.heap.size (.slice (some ⟨gx, 0, none⟩) l1 l1) (.slice (some ⟨go, 0, none⟩) l2 l2) (T1, T2) (.slice Ao gs.length co) (w5.alloc (.cells #[.slice (some ⟨gx, 0, none⟩) l1 l1, .slice (some ⟨go, 0, none⟩) l2 l2] 24)) from
            ⟨heap_box _ rfl, j1.below hal, j2.below hal, fun e => by
              obtain ⟨cs, k1, _⟩ := HF.out.own
              have := k1.lt _ e
              have := hb5.size
              omega, Nat.le_trans (Nat.le_of_lt HF.out.box.lt) hb5.size⟩)
          clear j1 j2 hal hb5 ax ao ng lx lo hT1 hT2 e1 hl1 hl2 HS1 y0 y1 HF HCV
          generalize w5.alloc (.cells #[.slice (some ⟨gx, 0, none⟩) l1 l1, .slice (some ⟨go, 0, none⟩) l2 l2] 24) = w6 at HF6 HX6 ⊢
          generalize w5.heap.size = b7 at HX6 ⊢
          go_wp2_with fail
          obtain ⟨wo2, hwo2⟩ : ∃ W, W = w6 := ⟨_, rfl⟩
          clear hwo2
          go_loopw [3, 8] (fun vo ik wr => ∃ (kd : Nat) (Ao : Option Addr) (co : Nat) (gs : List Gd), vo = .slice Ao gs.length co ∧ ik = .int .i64 (kd : Int) ∧ 2 ≤ kd ∧ kd ≤ 4 ∧ Hid (FwI n0 (.slice A n c) (.slice A' n' c') w wr (.slice Ao gs.length co) gs) ∧ Hid (BxI n0 b7 (.slice (some ⟨gx, 0, none⟩) l1 l1) (.slice (some ⟨go, 0, none⟩) l2 l2) (T1, T2) (.slice Ao gs.length co) wr) ∧ Hid (FlI (X, O) cc rr kd 0 0 gs)) (fun _ ik _ => 4 - (intOf ik).toNat)
          case atStart => exact ⟨2, _, _, _, rfl, rfl, by omega, by omega, HF6, HX6, HL⟩
          case round =>
            clear HF6 HX6 HL
            obtain ⟨kd, Ao, co, gs, rfl, rfl, hkd, hkd4, HF, HX, HL⟩ := hrel
            by_cases hlt3 : kd ≤ 3
            · have z3 : (kd : Int) ≤ 3 := by omega
              go_wp2_with fail
              obtain ⟨wo3, hwo3⟩ : ∃ W, W = wr := ⟨_, rfl⟩
              clear hwo3
              go_loopw [3, 9] (fun vo ia wr => ∃ (a : Nat) (Ao : Option Addr) (co : Nat) (gs : List Gd), vo = .slice Ao gs.length co ∧ ia = .int .i64 (a : Int) ∧ a ≤ n ∧ Hid (FwI n0 (.slice A n c) (.slice A' n' c') w wr (.slice Ao gs.length co) gs) ∧ Hid (BxI n0 b7 (.slice (some ⟨gx, 0, none⟩) l1 l1) (.slice (some ⟨go, 0, none⟩) l2 l2) (T1, T2) (.slice Ao gs.length co) wr) ∧ Hid (FlI (X, O) cc rr kd a 0 gs)) (fun _ ia _ => n - (intOf ia).toNat)
              case atStart => exact ⟨0, _, _, _, rfl, rfl, Nat.zero_le _, HF, HX, HL⟩
              case round =>
                clear HF HX HL
                obtain ⟨a, Ao, co, gs, rfl, rfl, ha, HF, HX, HL⟩ := hrel
                by_cases hlt4 : a < n
                · have z4 : (a : Int) < (n : Int) := by omega
                  go_wp2_with fail
                  obtain ⟨wo4, hwo4⟩ : ∃ W, W = wr := ⟨_, rfl⟩
                  clear hwo4
                  go_loopw [3, 10] (fun vo ik wr => ∃ (k : Nat) (Ao : Option Addr) (co : Nat) (gs : List Gd), vo = .slice Ao gs.length co ∧ ik = .int .i64 (k : Int) ∧ k ≤ 2 ∧ Hid (FwI n0 (.slice A n c) (.slice A' n' c') w wr (.slice Ao gs.length co) gs) ∧ Hid (BxI n0 b7 (.slice (some ⟨gx, 0, none⟩) l1 l1) (.slice (some ⟨go, 0, none⟩) l2 l2) (T1, T2) (.slice Ao gs.length co) wr) ∧ Hid (FlI (X, O) cc rr kd a k gs)) (fun _ ik _ => 2 - (intOf ik).toNat)
                  case atStart => exact ⟨0, _, _, _, rfl, rfl, Nat.zero_le _, HF, HX, HL⟩
                  case round =>
                    clear HF HX HL
                    obtain ⟨k, Ao, co, gs, rfl, rfl, hk2, HF, HX, HL⟩ := hrel
                    by_cases hlt5 : k < 2
                    · have z5 : (k : Int) < 2 := by omega
                      have y0 := HX.out.bx.cell 0
                      have y1 := HX.out.bx.cell 1
                      obtain ⟨bk, hbk⟩ : ∃ b, b = decide (k = 1) := ⟨_, rfl⟩
                      have z6 : ((k : Int) == 1) = bk := by rw [hbk]; by_cases e : k = 1 <;> simp [e]; omega
                      have HAP := Lib.hid (refApply_any (.slice (some ⟨gx, 0, none⟩) l1 l1) (.slice (some ⟨go, 0, none⟩) l2 l2) T1 T2 (kd : Int) bk (a : Int) 0 wr HX.out.i1 HX.out.i2 HXV.out)
                      obtain ⟨⟨er, Y, R⟩, hap⟩ : ∃ p, p = applyM T1 T2 (kd : Int) bk (a : Int) 0 := ⟨_, rfl⟩
                      rw [← hap] at HAP
                      have HAE := Lib.hid (show applyM (trl cc rr (X, O).1) (trl cc rr (X, O).2) kd (decide (k = 1)) a 0 = (er, Y, R) by rw [← hbk, hap, HT12.out.1, HT12.out.2])
                      clear hap hbk
                      go_upto_region 20 with (go_at_call 43; refine HAP.out.mono ?_; rintro e w7 ⟨hb7, B0, m0, d0, B1, m1, d1, rfl, hY, hR⟩)
                      have hal := (Below.refl w7.heap.size w7).alloc (Nat.le_refl _) (.cells #[.slice B0 m0 d0, .slice B1 m1 d1] 24)
                      have HF8 := Lib.hid ((HF.out.below hb7).below hal)
                      have HX8 := Lib.hid ((HX.out.below hb7).below hal)
                      have HY8 := Lib.hid (show Ints (w7.alloc (.cells #[.slice B0 m0 d0, .slice B1 m1 d1] 24)) (.slice B0 m0 d0) Y ∧ Ints (w7.alloc (.cells #[.slice B0 m0 d0, .slice B1 m1 d1] 24)) (.slice B1 m1 d1) R ∧ Arr (w7.alloc (.cells #[.slice B0 m0 d0, .slice B1 m1 d1] 24)) w7.heap.size 24 [.slice B0 m0 d0, .slice B1 m1 d1] from ⟨Ints.below hY hal, Ints.below hR hal, heap_box _ rfl⟩)
                      clear hY hR hal hb7 y0 y1 z6 HAP HF HX
                      generalize w7.alloc (.cells #[.slice B0 m0 d0, .slice B1 m1 d1] 24) = w8 at HF8 HX8 HY8 ⊢
                      generalize w7.heap.size = b8 at HY8 ⊢
                      by_cases her : er = 0
                      · subst her
                        have HYV := Lib.hid (show VdG (Y, R) from applyM_res_vd HAE.out)
                        have HLE := Lib.hid (refLeast_any (.slice B0 m0 d0) (.slice B1 m1 d1) Y R w8 HY8.out.1 HY8.out.2.1 HYV.out)
                        have y0 := HY8.out.2.2.cell 0
                        have y1 := HY8.out.2.2.cell 1
                        go_upto_region 22 with (go_at_call 23; refine HLE.out.mono ?_; rintro e w9 ⟨C0, p0, q0, C1, p1, q1, rfl, hZ1, hZ2, hb9⟩)
                        have hal := (Below.refl w9.heap.size w9).alloc (Nat.le_refl _) (.cells #[.slice C0 p0 q0, .slice C1 p1 q1] 24)
                        have HF10 := Lib.hid ((HF8.out.below hb9).below hal)
                        have HX10 := Lib.hid ((HX8.out.below hb9).below hal)
                        have HZ10 := Lib.hid (show GvI (w9.alloc (.cells #[.slice C0 p0 q0, .slice C1 p1 q1] 24)) ((C0, p0, q0), (C1, p1, q1)) (lstM (Y, R)) ∧ Arr (w9.alloc (.cells #[.slice C0 p0 q0, .slice C1 p1 q1] 24)) w9.heap.size 24 [.slice C0 p0 q0, .slice C1 p1 q1] from ⟨⟨Ints.below hZ1 hal, Ints.below hZ2 hal⟩, heap_box _ rfl⟩)
                        clear hZ1 hZ2 hal hb9 y0 y1 HLE HY8 HF8 HX8
                        generalize w9.alloc (.cells #[.slice C0 p0 q0, .slice C1 p1 q1] 24) = w10 at HF10 HX10 HZ10 ⊢
                        generalize w9.heap.size = b10 at HZ10 ⊢
                        have y0 := HZ10.out.2.cell 0
                        have y1 := HZ10.out.2.cell 1
                        have HIN := Lib.hid (refIn_any Ao gs.length co gs (.slice C0 p0 q0) (.slice C1 p1 q1) (lstM (Y, R)).1 (lstM (Y, R)).2 w10 HF10.out.gds (by have := HL.out.len HV.out; omega) (fun h hh => by
                          obtain ⟨y, hy, e⟩ := fol_vd (HL.out.fol h hh) HV.out
                          have h1 := (lstM_vd hy).most
                          have h2 := (lstM_vd hy).len
                          rw [e] at h1 h2
                          omega) HZ10.out.1.1 HZ10.out.1.2 (by have := (lstM_vd HYV.out).most; omega) (by have := (lstM_vd HYV.out).most; have := (lstM_vd HYV.out).len; omega))
                        by_cases hin : lstM (Y, R) ∈ gs
                        · rw [decide_eq_true (show ((lstM (Y, R)).1, (lstM (Y, R)).2) ∈ gs from hin)] at HIN
                          have HL2 := Lib.hid (HL.out.next (fun y hy => by
                            rw [HAE.out] at hy
                            injection hy with _ hy
                            injection hy with e1 e2
                            rw [show y = (Y, R) from Prod.ext e1.symm e2.symm]
                            exact hin))
                          clear hin
                          go_wp2_with (go_at_call 25; refine HIN.out.mono ?_; rintro e w11 ⟨rfl, hb11⟩; have HF11 := Lib.hid (HF10.out.below hb11); have HX11 := Lib.hid (HX10.out.below hb11); clear hb11 y0 y1)
                          go_roundw
                          case rel => exact ⟨k + 1, _, _, _, rfl, by go_num, by omega, HF11, HX11, HL2⟩
                          case measure => simp [intOf]; omega
                        · rw [decide_eq_false (show ¬ ((lstM (Y, R)).1, (lstM (Y, R)).2) ∈ gs from hin)] at HIN
                          have HL2 := Lib.hid (HL.out.new (by rw [← HN.out]; exact hlt) (by rw [← HN.out]; exact hlt2) (by omega) HAE.out hin)
                          clear hin
                          go_upto_region 23 with (go_at_call 25; refine HIN.out.mono ?_; rintro e w11 ⟨rfl, hb11⟩; have HF11 := Lib.hid (HF10.out.below hb11); have HX11 := Lib.hid (HX10.out.below hb11); have HZ11 := Lib.hid (show GvI w11 ((C0, p0, q0), (C1, p1, q1)) (lstM (Y, R)) ∧ Arr w11 b10 24 [.slice C0 p0 q0, .slice C1 p1 q1] from ⟨HZ10.out.1.below hb11, HZ10.out.2.below hb11 HZ10.out.2.lt⟩); clear hb11 y0 y1)
                          have y0 := HZ11.out.2.cell 0
                          have y1 := HZ11.out.2.cell 1
                          have hal := (Below.refl w11.heap.size w11).alloc (Nat.le_refl _) (.cells #[.slice C0 p0 q0, .slice C1 p1 q1] 24)
                          have HF12 := Lib.hid (HF11.out.below hal)
                          have HX12 := Lib.hid (HX11.out.below hal)
                          have HZ12 := Lib.hid (HZ11.out.1.below hal)
                          have HSL := Lib.hid (sl_one w11 ((C0, p0, q0), (C1, p1, q1)))
                          obtain ⟨cs, k1, k2⟩ := HF12.out.own
                          have HCS := Lib.hid (show cs.length + [(((C0, p0, q0), (C1, p1, q1)) : GV)].length ≤ 100000000 by
                            have h1 := k2.len
                            have h2 := HL.out.len HV.out
                            simp only [List.length_cons, List.length_nil]
                            omega)
                          have HK1 := Lib.hid k1
                          have HK2 := Lib.hid k2
                          have HSZ := Lib.hid (show n0 + 1 ≤ (w11.alloc (.cells #[.slice C0 p0 q0, .slice C1 p1 q1] 24)).heap.size from HF12.out.box.lt)
                          clear k1 k2 hal
                          go_wp2_with (at_builtin; refine wpList_appQA rfl elG (.tmp 62) (.tmp 64) 27 27 rfl Tryz.underlying27 Tryz.underlying27 rfl HK1.out rfl HSL.out (by simp) HCS.out HSZ.out ?_; intro v' w13 g1 g2 g3 g4; have HFN := Lib.hid (HF12.out.app HK1.out HK2.out HZ12.out g1 g2 g3); have HXN := Lib.hid (HX12.out.app HK1.out g3 g4); obtain ⟨An, cn, hvn⟩ := HFN.out.form; subst hvn; clear g1 g2 g3 g4)
                          go_roundw
                          case rel => exact ⟨k + 1, An, cn, gs ++ [lstM (Y, R)], by simp, by go_num, by omega, HFN, HXN, HL2⟩
                          case measure => simp [intOf]; omega
                      · have HL2 := Lib.hid (HL.out.next (fun y hy => by
                          rw [HAE.out] at hy
                          injection hy with e _
                          exact absurd e her))
                        have z7 : (er != 0) = true := by simpa using her
                        clear her
                        go_wp2_with fail
                        go_roundw
                        case rel => exact ⟨k + 1, _, _, _, rfl, by go_num, by omega, HF8, HX8, HL2⟩
                        case measure => simp [intOf]; omega
                    · obtain rfl : k = 2 := by omega
                      have HL2 := Lib.hid (FlI.k2 HL.out)
                      go_wp2_with fail
                      go_roundw
                      case rel => exact ⟨a + 1, _, _, _, rfl, by go_num, by omega, HF, HX, HL2⟩
                      case measure => simp [intOf]; omega
                · obtain rfl : a = n := by omega
                  have HL2 := Lib.hid (show FlI (X, O) cc rr (kd + 1) 0 0 gs from FlI.an (by rw [← HN.out]; exact HL.out))
                  go_wp2_with fail
                  go_roundw
                  case rel => exact ⟨kd + 1, _, _, _, rfl, by go_num, by omega, by omega, HF, HX, HL2⟩
                  case measure => simp [intOf]; omega
            · obtain rfl : kd = 4 := by omega
              have HL2 := Lib.hid (FlI.kd4 HL.out)
              go_wp2_with fail
              go_roundw
              case rel => exact ⟨rr + 1, _, _, _, rfl, by go_num, by omega, HF, HL2⟩
              case measure => simp [intOf]; omega
        · obtain rfl : rr = n := by omega
          have HL2 := Lib.hid (show FlI (X, O) (cc + 1) 0 2 0 0 gs from FlI.rn (by rw [← HN.out]; exact HL.out))
          go_wp2_with fail
          go_roundw
          case rel => exact ⟨cc + 1, _, _, _, rfl, by go_num, by omega, HF, HL2⟩
          case measure => simp [intOf]; omega
    · obtain rfl : cc = n := by omega
      have hfin := (show FlI (X, O) (X, O).1.length 0 2 0 0 gs by rw [← HN.out]; exact HL.out).fin HV.out
      have HFI := Lib.hid hfin
      clear hfin
      go_wp2_with fail
      go_ret
      exact ⟨_, _, _, gs, rfl, HF.out.gds, HFI.out, by rw [← HN0.out]; exact HF.out.bel, fun b hb => by
        obtain ⟨cs, k1, _⟩ := HF.out.own
        have := k1.block b hb
        exact ⟨by rw [← HN0.out]; omega, k1.lt b hb⟩⟩
end Go.Proofs.YteliflcbegcdlaaGreatDoor
