/- laurent.moved (exponents that stay in order), Shift. -/
/- fox.Augment, laurent.Of, word.Exponents. -/
import Derived.Test.YtlbihllmpbhhcaaDoorZPad
import Derived.Test.YtlbihllmpbhhcaaDoorZCoe
import Derived.Test.YtlbihllmpbhhcaaDoorZRdc
import Derived.Test.YtlbihllmpbhhcaaDoorZPsh
import Derived.Test.YtlbihllmpbhhcaaDoorZWvl
namespace Go.Proofs.YtlbihllmpbhhcaaDoor
open Go.RowKit
set_option linter.unusedVariables false

def mvT (tq : Int → Int) (t : Int × Int) : Int × Int := (tq t.1, t.2)
def movP (tq : Int → Int) : Pol → Pol
  | none => none
  | some l => if l.all (fun t => wiB (tq t.1) 1048576) = true then some (l.map (mvT tq)) else none
theorem wiB_iff {v l : Int} : wiB v l = true ↔ -l ≤ v ∧ v ≤ l := by unfold wiB; simp
/-- the function that moves, with what it has captured -/
structure CloM (fw : FuncId) (cv : Value) (tq : Int → Int) (w : World) : Prop where
  eg : ∀ args W, (callFunc fw args).run Tryd.prog W = .ok (.enter fw args) W
  ca : ∀ (e : Int) W, Below w.heap.size w W → -1048576 ≤ e → e ≤ 1048576 → Calls Tryd.prog fw #[.int .i64 e, cv] W fun en w' => en = .returned (.int .i64 (tq e)) ∧ W = w'
  mono : ∀ a b : Int, a < b → tq a < tq b
  bd : ∀ e : Int, -1048576 ≤ e → e ≤ 1048576 → -4503599627370496 ≤ tq e ∧ tq e ≤ 4503599627370496
/-- the state of moved's loop -/
structure MSt (w : World) (rb : Nat) (s : Value) (R : List (Int × Int)) (W : World) : Prop where
  own : OwnT (w.heap.size + 2) W s R
  rr : Arr W rb 27 [.bool false, s]
  res : Arr W (w.heap.size + 1) 27 [.bool false, .slice none 0 0]
  bel : Below w.heap.size w W
  hrb : w.heap.size + 2 ≤ rb
section
variable {w W W' : World} {rb : Nat} {s : Value} {R : List (Int × Int)}
theorem MSt.alloc (h : MSt w rb s R W) (o : Obj) : MSt w rb s R (W.alloc o) :=
  ⟨h.own.below ((Below.refl _ _).alloc (Nat.le_refl _) _), h.rr.alloc _, h.res.alloc _, h.bel.alloc h.bel.size _, h.hrb⟩
theorem MSt.app (h : MSt w rb s R W) {s' : Value} {m : Int × Int} (ho : OwnT (w.heap.size + 2) W' s' (R ++ [m])) (hg : Gr (w.heap.size + 2) W W' s.ownBlock) : Arr W' rb 27 [.bool false, s] ∧ MSt w rb s' (R ++ [m]) (W'.setCell ⟨rb, 1, none⟩ s') := by
  have a1 := h.own.apart h.rr (by decide)
  have a2 := h.own.apart h.res (by decide)
  have q1 : Arr W' rb 27 [.bool false, s] := (hg.keep rb h.rr.lt a1).trans h.rr
  have q2 : Arr W' (w.heap.size + 1) 27 [.bool false, .slice none 0 0] := (hg.keep _ h.res.lt a2).trans h.res
  have hrb := h.hrb
  exact ⟨q1, ho.far (p := ⟨rb, 1, none⟩) (ho.apart q1 (by decide)) _, q1.set 1 _, q2.far (p := ⟨rb, 1, none⟩) (show w.heap.size + 1 ≠ rb by omega) _, (h.bel.trans (hg.below.mono (by omega))).setCell (p := ⟨rb, 1, none⟩) (show w.heap.size ≤ rb by omega) _, hrb⟩
end
theorem map_take_succ {tq : Int → Int} {l : List (Int × Int)} {k : Nat} (h : k < l.length) : (l.take (k + 1)).map (mvT tq) = (l.take k).map (mvT tq) ++ [mvT tq l[k]] := by rw [take_snoc' h, List.map_append]; rfl
theorem OwnT.made {w : World} {base n : Nat} {cs : Array Value} (hb : base ≤ w.heap.size) (hn : n ≤ 10000000) (hc : cs.size = n * 2) : OwnT base (w.alloc (.cells cs 77)) (.slice (some ⟨w.heap.size, 0, none⟩) 0 n) [] :=
  ⟨rfl, .inr ⟨w.heap.size, n, cs, rfl, hb, heap_alloc_new w _, Nat.zero_le _, by unfold maxLen; omega, by omega, by simp⟩⟩
set_option maxHeartbeats 4000000 in
set_option maxRecDepth 100000 in
theorem moved_any (fw : FuncId) (cv : Value) (tq : Int → Int) (vp : Value) (p : Pol) (w : World) (hf : CloM fw cv tq w) (hp : PolyV w vp p) (okp : okP p) :
    Calls Tryd.prog 49 #[vp, .func (.func fw) #[] #[cv]] w fun e w' => ∃ v, e = .returned v ∧ PolyV w' v (movP tq p) ∧ Below w.heap.size w w' := by
  obtain ⟨P, hP⟩ : ∃ P, P = movP tq p := ⟨_, rfl⟩
  rw [← hP]
  have HP := Lib.hid hP
  clear hP
  obtain ⟨A, c, rfl, hx⟩ := hp
  have HPT := Lib.hid (fun W (hb : Below w.heap.size w W) => hx.below hb)
  clear hx
  have hW : ∀ W, W = ((w.alloc (.cells #[.bool p.isNone, .slice A (p.getD []).length c] 27)).alloc (.cells #[.bool false, .slice none 0 0] 27)) → Arr W w.heap.size 27 [.bool p.isNone, .slice A (p.getD []).length c] ∧ Arr W (w.heap.size + 1) 27 [.bool false, .slice none 0 0] ∧ Below w.heap.size w W ∧ W.heap.size = w.heap.size + 2 := by
    intro W hW
    subst hW
    exact ⟨(Arr.new _ _ [_, _]).alloc _, Arr.newAt (w.alloc _) _ [_, _] _ (by simp), ((Below.refl _ _).alloc (Nat.le_refl _) _).alloc (by simp) _, by simp⟩
  go_enter Tryd.func49, Tryd.ntmps49
  go_upto_region 1 with fail
  generalize ((w.alloc (.cells #[.bool p.isNone, .slice A (p.getD []).length c] 27)).alloc (.cells #[.bool false, .slice none 0 0] 27)) = w3 at hW ⊢
  obtain ⟨qp, qr, hb3, hs3⟩ := hW w3 rfl
  clear hW
  have y0 := qp.cell 0
  have y1 := qp.cell 1
  cases p with
  | none =>
    have x0 := qr.cell 0
    have x1 := qr.cell 1
    have f0 := qr.frozen 0
    have f1 := qr.frozen 1
    have hres := Lib.hid ((qr.set 0 (.bool true)).set 1 (.slice A 0 c))
    clear hs3
    go_wp2_with fail
    refine bodyPost_ret (v := .agg #[.bool true, .slice A 0 c]) (results_c Tryd.results49 _ _ (w.heap.size + 1) 27 _ _ rfl hres.out Tryd.underlying27 rfl info_poly) rfl ?_
    exact ⟨_, rfl, by rw [HP.out]; exact ⟨A, c, rfl, ⟨A, c, rfl, fun k h => absurd h (Nat.not_lt_zero _)⟩⟩, (hb3.setCell (p := ⟨w.heap.size + 1, 0, none⟩) (by simp) _).setCell (p := ⟨w.heap.size + 1, 1, none⟩) (by simp) _⟩
  | some l =>
    obtain ⟨kl, liml⟩ := okp
    have ll := liml.len kl
    have HK := Lib.hid kl
    have HLI := Lib.hid liml
    have HF := Lib.hid hf
    have eg := hf.eg
    clear hf kl liml
    change w3.cell? ⟨w.heap.size, 0, none⟩ = some (.bool false) at y0
    change w3.cell? ⟨w.heap.size, 1, none⟩ = some (.slice A l.length c) at y1
    obtain ⟨cs, hmk, hcs⟩ := run_make_terms l.length (by omega) w3
    have HPT3 := Lib.hid (show Tms w3 (.slice A l.length c) l from HPT.out w3 hb3)
    go_upto_region 4 with fail
    have hst : MSt w (w.heap.size + 2 + 1) (.slice (some ⟨w.heap.size + 2, 0, none⟩) 0 l.length) [] ((w3.alloc (.cells cs 77)).alloc (.cells #[.bool false, .slice (some ⟨w.heap.size + 2, 0, none⟩) 0 l.length] 27)) := by
      have h1 := OwnT.made (w := w3) (base := w.heap.size + 2) (by omega) (by omega) hcs
      rw [hs3] at h1
      exact ⟨h1.below ((Below.refl _ _).alloc (Nat.le_refl _) _), Arr.newAt (w3.alloc _) _ [_, _] _ (by simp; omega), (qr.alloc _).alloc _, (hb3.alloc hb3.size _).alloc (by simp; omega) _, by omega⟩
    have y2 : ((w3.alloc (.cells cs 77)).alloc (.cells #[.bool false, .slice (some ⟨w.heap.size + 2, 0, none⟩) 0 l.length] 27)).cell? ⟨w.heap.size, 1, none⟩ = some (.slice A l.length c) := ((qp.alloc _).alloc _).cell 1
    have y3 : ((w3.alloc (.cells cs 77)).alloc (.cells #[.bool false, .slice (some ⟨w.heap.size + 2, 0, none⟩) 0 l.length] 27)).cell? ⟨w.heap.size, 0, none⟩ = some (.bool false) := ((qp.alloc _).alloc _).cell 0
    rw [hs3] at hmk
    generalize ((w3.alloc (.cells cs 77)).alloc (.cells #[.bool false, .slice (some ⟨w.heap.size + 2, 0, none⟩) 0 l.length] 27)) = w4 at *
    clear hmk hcs cs qp qr hs3 y0 y1 HPT3
    go_wp2_with fail
    go_loopg [7, 8, 20] l.length (fun gk s7 s8 s20 wr => ∃ (k : Nat) (s : Value), k ≤ l.length ∧ gk = l.length - k ∧ s20 = .int .i64 (k : Int) ∧ MSt w (w.heap.size + 2 + 1) s ((l.take k).map (mvT tq)) wr ∧ Hid (∀ t ∈ l.take k, wiB (tq t.1) 1048576 = true))
    case atStart => exact ⟨0, _, Nat.zero_le _, rfl, rfl, hst, Lib.hid (fun t h => by simp at h)⟩
    case round =>
      clear hst y2 y3 hb3
      obtain ⟨k, s, hk, rfl, rfl, hst, HT⟩ := hrel
      by_cases hlt : k < l.length
      · have z1 : (k : Int) < (l.length : Int) := by omega
        obtain ⟨b, o, rfl, _, y0, y1⟩ := (show Tms wr (.slice A l.length c) l from HPT.out wr hst.bel).at_ hlt
        have HL := Lib.hid (map_take_succ (tq := tq) hlt)
        have hex := HLI.out.ex l[k] (List.getElem_mem hlt)
        have hrl : ((l.take k).map (mvT tq)).length ≤ 10000000 := by simp; omega
        have HBad := Lib.hid (fun (h : wiB (tq l[k].1) 1048576 = false) => (show P = none from by
          rw [HP.out]; unfold movP
          refine if_neg fun h2 => ?_
          have := List.all_eq_true.1 h2 l[k] (List.getElem_mem hlt)
          rw [h] at this; cases this))
        have HT2 := Lib.hid (fun (h : wiB (tq l[k].1) 1048576 = true) => (show ∀ t ∈ l.take (k + 1), wiB (tq t.1) 1048576 = true from fun t ht => by
          rw [take_snoc' hlt] at ht
          rcases List.mem_append.1 ht with ht | ht
          · exact HT.out t ht
          · rw [List.mem_singleton.1 ht]; exact h))
        generalize l[k] = t at *
        obtain ⟨t1, t2⟩ := t
        dsimp only at *
        have hbd := HF.out.bd t1 hex.1 hex.2
        generalize (l.take k).map (mvT tq) = R at *
        have HST := Lib.hid (hst.alloc (.cells #[.int .i64 t1, .int .i64 t2] 77))
        have HQT := Lib.hid (Arr.new wr 77 [.int .i64 t1, .int .i64 t2])
        have hz5 : w.heap.size + 2 ≤ (wr.alloc (.cells #[.int .i64 t1, .int .i64 t2] 77)).heap.size := by have := hst.res.lt; simp; omega
        have HZ5 := Lib.hid hz5
        obtain ⟨As, ns, csx, rfl⟩ := hst.own.form3
        clear hst HT hz5
        go_upto_region 7 with fail
        have hqt : Arr (wr.alloc (.cells #[.int .i64 t1, .int .i64 t2] 77)) wr.heap.size 77 [.int .i64 t1, .int .i64 t2] := HQT.out
        have HCA := Lib.hid (HF.out.ca t1 _ HST.out.bel hex.1 hex.2)
        generalize wr.heap.size = g at *
        generalize (wr.alloc (.cells #[.int .i64 t1, .int .i64 t2] 77)) = w5 at *
        have x0 := hqt.cell 0
        have x1 := hqt.cell 1
        clear y0 y1 HQT hqt
        go_wp2_with fail
        refine HCA.out.mono ?_
        rintro e w6 ⟨rfl, rfl⟩
        clear HCA
        have HWI := Lib.hid (within_any (tq t1) 1048576 w5 (by omega) (by omega))
        obtain ⟨WB, hWB⟩ : ∃ z, z = wiB (tq t1) 1048576 := ⟨_, rfl⟩
        rw [← hWB] at HWI HBad HT2
        clear hWB
        have HMV := Lib.hid (show mvT tq (t1, t2) = (tq t1, t2) from rfl)
        rw [HMV.out] at HL
        generalize tq t1 = e1 at *
        clear HMV
        cases WB with
        | false =>
          have HPN := Lib.hid (HBad.out rfl)
          have qr := HST.out.res
          have x0 := qr.cell 0
          have x1 := qr.cell 1
          have f0 := qr.frozen 0
          have f1 := qr.frozen 1
          have HRS := Lib.hid ((qr.set 0 (.bool true)).set 1 (.slice none 0 0))
          have HBE := Lib.hid ((HST.out.bel.setCell (p := ⟨w.heap.size + 1, 0, none⟩) (by simp) (.bool true)).setCell (p := ⟨w.heap.size + 1, 1, none⟩) (by simp) (.slice none 0 0))
          clear qr HBad HT2 HL
          go_wp2_with fail
          refine HWI.out.mono ?_
          rintro e w6 ⟨rfl, rfl⟩
          go_wp2_with fail
          refine bodyPost_ret (v := .agg #[.bool true, .slice none 0 0]) (results_c Tryd.results49 _ _ (w.heap.size + 1) 27 _ _ rfl HRS.out Tryd.underlying27 rfl info_poly) rfl ?_
          exact ⟨_, rfl, by rw [HPN.out]; exact PolyV.big _, HBE.out⟩
        | true =>
          have HT3 := Lib.hid (HT2.out rfl)
          clear HBad HT2
          have q1 := HST.out.rr
          have y1 := q1.cell 1
          clear q1
          go_wp2_with fail
          refine HWI.out.mono ?_
          rintro e w6 ⟨rfl, rfl⟩
          have HUU := Lib.hid (Arr.new w5 77 [.int .i64 e1, .int .i64 t2])
          have HSA := Lib.hid (HST.out.alloc (.cells #[.int .i64 e1, .int .i64 t2] 77))
          have HRL := Lib.hid (show R.length ≤ 100000000 from by omega)
          have HSZ := Lib.hid (show w.heap.size + 2 ≤ (w5.alloc (.cells #[.int .i64 e1, .int .i64 t2] 77)).heap.size by have := HZ5.out; simp; omega)
          go_wp2_with (at_builtin; refine wpList_appT rfl (.tmp 33) (.tmp 38) rfl rfl HSA.out.own (m := (e1, t2)) rfl HUU.out HRL.out HSZ.out ?_; intro v' w1 hown1 hgr1; obtain ⟨q1, h2⟩ := HSA.out.app hown1 hgr1; obtain ⟨Av, nv, cv2, rfl⟩ := hown1.form3; have HN := Lib.hid h2; have f1 := q1.frozen 1; have yq := q1.cell 1; clear hown1 hgr1 q1 h2)
          go_roundg (l.length - (k + 1))
          case measure => omega
          case rel => exact ⟨k + 1, _, by omega, rfl, by go_num, by rw [HL.out]; exact HN.out, HT3⟩
      · have z1 : ¬ (k : Int) < (l.length : Int) := by omega
        have hkk : l.take k = l := List.take_of_length_le (by omega)
        rw [hkk] at hst HT
        have HE := Lib.hid (show P = some (l.map (mvT tq)) from by
          rw [HP.out]; unfold movP
          exact if_pos (List.all_eq_true.2 HT.out))
        have HV := Lib.hid hst
        have htm := hst.own.tms
        obtain ⟨Ax, cx, rfl⟩ := hst.own.form
        have hln : (l.map (mvT tq)).length = l.length := by simp
        have qr := hst.res
        have q1 := hst.rr
        have y0 := q1.cell 0
        have y1 := q1.cell 1
        have f0 := qr.frozen 0
        have f1 := qr.frozen 1
        have x0 := qr.cell 0
        have x1 := qr.cell 1
        have HPV := Lib.hid (PolyV.own hst.own)
        rw [hln] at y1 HPV htm
        have HRS := Lib.hid ((qr.set 0 (.bool false)).set 1 (.slice Ax l.length cx))
        have HPB := Lib.hid ((HPV.out).box qr (.bool false) (.slice Ax l.length cx))
        have HBE := Lib.hid ((hst.bel.setCell (p := ⟨w.heap.size + 1, 0, none⟩) (by simp) (.bool false)).setCell (p := ⟨w.heap.size + 1, 1, none⟩) (by simp) (.slice Ax l.length cx))
        have HTM := Lib.hid htm
        clear htm
        clear hst qr q1 hkk hln
        go_upto_region 12 with fail
        by_cases h1 : l.length > 1
        · have z2 : (l.length : Int) > 1 := by omega
          have z3 : (1 : Int) < (l.length : Int) := by omega
          have z4 : (0 : Int) < (l.length : Int) := by omega
          obtain ⟨b, o, hAx, hn0, u0, v0⟩ := HTM.out.at_ (k := 0) (by rw [List.length_map]; omega)
          obtain ⟨b', o', hAx', hn1, u1, v1⟩ := HTM.out.at_ (k := 1) (by rw [List.length_map]; omega)
          clear hn0 hn1 v0 v1
          subst hAx
          injection hAx' with hAx'
          injection hAx' with e1 e2
          subst e1 e2
          simp only [Nat.zero_mul, Nat.add_zero, Nat.one_mul] at u0 u1
          have hs01 : (mvT tq l[0]).1 < (mvT tq l[1]).1 := HF.out.mono _ _ (List.pairwise_iff_getElem.1 HK.out.srt 0 1 (by omega) (by omega) (by omega))
          have m0 : ((l.map (mvT tq))[0]'(by rw [List.length_map]; omega)) = mvT tq l[0] := by simp
          have m1 : ((l.map (mvT tq))[1]'(by rw [List.length_map]; omega)) = mvT tq l[1] := by simp
          rw [m0] at u0
          rw [m1] at u1
          generalize (mvT tq l[0]).1 = a0 at *
          generalize (mvT tq l[1]).1 = a1 at *
          have z5 : decide (a1 < a0) = false := by simp; omega
          have z6 : ¬ a0 > a1 := by omega
          clear m0 m1 HTM h1 hs01
          go_quiet (fail)
          go_wp2_with fail
          refine bodyPost_ret (v := .agg #[.bool false, .slice (some ⟨b, o, none⟩) l.length cx]) (results_c Tryd.results49 _ _ (w.heap.size + 1) 27 _ _ rfl (HRS.out.drewN nq) Tryd.underlying27 rfl info_poly) rfl ?_
          exact ⟨_, rfl, by rw [HE.out]; exact HPB.out, bdrewN HBE.out nq⟩
        · have z2 : ¬ (l.length : Int) > 1 := by omega
          have z3 : decide ((1 : Int) < (l.length : Int)) = false := by simp; omega
          go_quiet (fail)
          go_wp2_with fail
          refine bodyPost_ret (v := .agg #[.bool false, .slice Ax l.length cx]) (results_c Tryd.results49 _ _ (w.heap.size + 1) 27 _ _ rfl (HRS.out.drewN nq) Tryd.underlying27 rfl info_poly) rfl ?_
          exact ⟨_, rfl, by rw [HE.out]; exact HPB.out, bdrewN HBE.out nq⟩
end Go.Proofs.YtlbihllmpbhhcaaDoor

namespace Go.Proofs.YtlbihllmpbhhcaaDoor
open Go.RowKit
set_option linter.unusedVariables false

theorem lowL_le {l : List (Int × Int)} (h : Srt l) : ∀ t ∈ l, lowL l ≤ t.1 := by
  cases l with
  | nil => intro t h; cases h
  | cons s l =>
    intro t ht
    show s.1 ≤ t.1
    rcases List.mem_cons.1 ht with rfl | ht
    · omega
    · have := (List.pairwise_cons.1 h).1 t ht; omega
theorem highL_ge {l : List (Int × Int)} (h : Srt l) : ∀ t ∈ l, t.1 ≤ highL l := by
  intro t ht
  have h0 : 0 < l.length := List.length_pos_of_mem ht
  rw [highL_0 h0]
  obtain ⟨i, hi, rfl⟩ := List.getElem_of_mem ht
  by_cases e : i = l.length - 1
  · subst e; exact Int.le_refl _
  · have := List.pairwise_iff_getElem.1 h i (l.length - 1) hi (by omega) (by omega); omega
theorem lowhigh {l : List (Int × Int)} (h : Srt l) : lowL l ≤ highL l := by
  cases l with
  | nil => exact Int.le_refl _
  | cons s l => exact highL_ge h s (List.mem_cons_self ..)
theorem lowL_bd {l : List (Int × Int)} (h : Lim l) : -1048576 ≤ lowL l ∧ lowL l ≤ 1048576 := by
  cases l with
  | nil => exact ⟨by decide, by decide⟩
  | cons s l => exact h.ex s (List.mem_cons_self ..)
theorem highL_bd {l : List (Int × Int)} (h : Lim l) : -1048576 ≤ highL l ∧ highL l ≤ 1048576 := by
  rcases Nat.eq_zero_or_pos l.length with h0 | h0
  · rw [List.eq_nil_of_length_eq_zero h0]; exact ⟨by decide, by decide⟩
  · rw [highL_0 h0]; exact h.ex _ (List.getElem_mem _)
set_option maxHeartbeats 2000000 in
set_option maxRecDepth 100000 in
theorem Augment_any (vp : Value) (p : Pol) (w : World) (hp : PolyV w vp p) (okp : okP p) (hB : asum (p.getD []) ≤ 4611686018427387904) : Calls Tryd.prog 28 #[vp] w fun e w' => e = .returned (.int .i64 (sumC (p.getD []))) ∧ Below w.heap.size w w' := by
  have hsl : Srt (p.getD []) ∧ Lim (p.getD []) := by
    cases p with
    | none => exact ⟨List.Pairwise.nil, Lim.nil⟩
    | some l => exact ⟨okp.1.srt, okp.2⟩
  obtain ⟨hsr, hlm⟩ := hsl
  have HL := Lib.hid (fun W (hb : Below w.heap.size w W) => Low_any vp p W (hp.below hb) okp)
  have HH := Lib.hid (fun W (hb : Below w.heap.size w W) => High_any vp p W (hp.below hb) okp)
  have HC := Lib.hid (fun e W (hb : Below w.heap.size w W) => Coef_any vp p e W (hp.below hb) okp)
  obtain ⟨b1, A, n, c, rfl, j1, j2⟩ := hp.parts
  clear hp okp j1 j2
  generalize p.getD [] = l at *
  obtain ⟨hl1, hl2⟩ := lowL_bd hlm
  obtain ⟨hh1, hh2⟩ := highL_bd hlm
  have hlh := lowhigh hsr
  have HP0 := Lib.hid (psum_0 (lowL_le hsr))
  have HP1 := Lib.hid (show psum l (highL l + 1) = sumC l from psum_all (fun t ht => by have := highL_ge hsr t ht; omega))
  have HPB := Lib.hid (fun e => psum_bd l e)
  have HPS := Lib.hid (psum_succ l)
  clear hsr hlm
  generalize sumC l = S at *
  generalize lowL l = lo at *
  generalize highL l = hi at *
  generalize asum l = N at *
  have hb : Below w.heap.size w (w.alloc (.cells #[.bool b1, .slice A n c] 27)) := (Below.refl _ _).alloc (Nat.le_refl _) _
  have qp := Arr.new w 27 [.bool b1, .slice A n c]
  change Arr (w.alloc (.cells #[.bool b1, .slice A n c] 27)) w.heap.size 27 [.bool b1, .slice A n c] at qp
  go_enter Tryd.func28, Tryd.ntmps28
  go_upto_region 2 with fail
  generalize (w.alloc (.cells #[.bool b1, .slice A n c] 27)) = w3 at *
  have y0 := qp.cell 0
  have y1 := qp.cell 1
  have HQ := Lib.hid qp
  have HB3 := Lib.hid hb
  have HL3 := Lib.hid (HL.out w3 hb)
  clear qp hb HL
  go_wp2_with fail
  refine HL3.out.mono ?_
  rintro e w4 ⟨rfl, hb4⟩
  have hx4 : Arr w4 w.heap.size 27 [.bool b1, .slice A n c] ∧ Below w.heap.size w w4 := ⟨HQ.out.below hb4 HQ.out.lt, HB3.out.trans (hb4.mono HB3.out.size)⟩
  clear y0 y1 hb4 HL3
  go_wp2_with fail
  go_loopg [3, 4] (hi + 1 - lo).toNat (fun gk s3 s4 wr => ∃ e T : Int, lo ≤ e ∧ e ≤ hi + 1 ∧ gk = (hi + 1 - e).toNat ∧ s4 = .int .i64 e ∧ s3 = .int .i64 T ∧ Hid (T = psum l e) ∧ (-(N : Int) ≤ T ∧ T ≤ N) ∧ Arr wr w.heap.size 27 [.bool b1, .slice A n c] ∧ Below w.heap.size w wr)
  case atStart => exact ⟨lo, 0, Int.le_refl _, by omega, rfl, rfl, rfl, Lib.hid HP0.out.symm, by omega, hx4.1, hx4.2⟩
  case round =>
    clear hx4
    obtain ⟨e, T, he1, he2, rfl, rfl, rfl, HT, hT, qr, hbr⟩ := hrel
    have y0 := qr.cell 0
    have y1 := qr.cell 1
    have HQR := Lib.hid qr
    have HBR := Lib.hid hbr
    have HHR := Lib.hid (HH.out wr hbr)
    clear qr hbr
    go_wp2_with fail
    refine HHR.out.mono ?_
    rintro en w5 ⟨rfl, hb5⟩
    have q5 := HQR.out.below hb5 HQR.out.lt
    have HB5 := Lib.hid (HBR.out.trans (hb5.mono HBR.out.size))
    clear hb5 HHR
    by_cases hlt : e ≤ hi
    · have y0 := q5.cell 0
      have y1 := q5.cell 1
      have HQ5 := Lib.hid q5
      have HC5 := Lib.hid (HC.out e w5 HB5.out)
      have HN := Lib.hid (show psum l (e + 1) = T + cf l e from by rw [HPS.out, HT.out])
      have hbn := HPB.out (e + 1)
      rw [HN.out] at hbn
      clear q5 HT
      generalize cf l e = ce at *
      go_wp2_with fail
      refine HC5.out.mono ?_
      rintro en w6 ⟨rfl, hb6⟩
      have q6 := HQ5.out.below hb6 HQ5.out.lt
      have HB6 := Lib.hid (HB5.out.trans (hb6.mono HB5.out.size))
      have HQ6 := Lib.hid q6
      clear hb6 q6
      go_wp2_with fail
      go_roundg ((hi + 1 - (e + 1)).toNat)
      case measure => omega
      case rel => exact ⟨e + 1, T + ce, by omega, by omega, rfl, rfl, rfl, Lib.hid HN.out.symm, hbn, HQ6.out, HB6.out⟩
    · have HE := Lib.hid (show S = T from by
        have : e = hi + 1 := by omega
        rw [HT.out, this, HP1.out])
      clear HT
      go_wp2_with fail
      go_ret
      exact ⟨by rw [HE.out]; rfl, HB5.out⟩
end Go.Proofs.YtlbihllmpbhhcaaDoor
