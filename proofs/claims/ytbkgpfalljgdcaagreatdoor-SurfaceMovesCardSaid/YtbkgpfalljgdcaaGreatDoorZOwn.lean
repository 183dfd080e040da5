/- laurent.moved (exponents that stay in order), Shift. -/
/- Fox derivatives of words: plain. -/
/- Sums of coefficients: plain. -/
/- append onto a slice of integers that the call itself owns: laws in the words of this seat. -/
import Derived.Test.YtbkgpfalljgdcaaGreatDoorZPad
import Derived.Test.YtbkgpfalljgdcaaGreatDoorZBld
import Derived.Test.YtbkgpfalljgdcaaGreatDoorZBase
import Derived.Maps.AppendAt
import Derived.Deep.AppendLies
import Derived.RegionTactic
import Derived.OwnWalk
import Derived.Deep.RegionLaw
namespace Go.Proofs.YtbkgpfalljgdcaaGreatDoor
open Go.RowKit
set_option linter.unusedVariables false

def mvT (tq : Int → Int) (t : Int × Int) : Int × Int := (tq t.1, t.2)
def movP (tq : Int → Int) : Pol → Pol
  | none => none
  | some l => if l.all (fun t => wiB (tq t.1) 1048576) = true then some (l.map (mvT tq)) else none
theorem wiB_iff {v l : Int} : wiB v l = true ↔ -l ≤ v ∧ v ≤ l := by unfold wiB; simp
/-- the function that moves, with what it has captured -/
structure CloM (fw : FuncId) (cv : Value) (tq : Int → Int) (w : World) : Prop where
  eg : ∀ args W, (callFunc fw args).run Tryz.prog W = .ok (.enter fw args) W
  ca : ∀ (e : Int) W, Below w.heap.size w W → -1048576 ≤ e → e ≤ 1048576 → Calls Tryz.prog fw #[.int .i64 e, cv] W fun en w' => en = .returned (.int .i64 (tq e)) ∧ W = w'
  mono : ∀ a b : Int, a < b → tq a < tq b
  bd : ∀ e : Int, -1048576 ≤ e → e ≤ 1048576 → -4503599627370496 ≤ tq e ∧ tq e ≤ 4503599627370496
/-- the state of moved's loop -/
structure MSt (w : World) (rb : Nat) (s : Value) (R : List (Int × Int)) (W : World) : Prop where
  own : OwnT (w.heap.size + 2) W s R
  rr : Arr W rb 40 [.bool false, s]
  res : Arr W (w.heap.size + 1) 40 [.bool false, .slice none 0 0]
  bel : Below w.heap.size w W
  hrb : w.heap.size + 2 ≤ rb
section
variable {w W W' : World} {rb : Nat} {s : Value} {R : List (Int × Int)}
theorem MSt.alloc (h : MSt w rb s R W) (o : Obj) : MSt w rb s R (W.alloc o) :=
  ⟨h.own.below ((Below.refl _ _).alloc (Nat.le_refl _) _), h.rr.alloc _, h.res.alloc _, h.bel.alloc h.bel.size _, h.hrb⟩
theorem MSt.app (h : MSt w rb s R W) {s' : Value} {m : Int × Int} (ho : OwnT (w.heap.size + 2) W' s' (R ++ [m])) (hg : Gr (w.heap.size + 2) W W' s.ownBlock) : Arr W' rb 40 [.bool false, s] ∧ MSt w rb s' (R ++ [m]) (W'.setCell ⟨rb, 1, none⟩ s') := by
  have a1 := h.own.apart h.rr (by decide)
  have a2 := h.own.apart h.res (by decide)
  have q1 : Arr W' rb 40 [.bool false, s] := (hg.keep rb h.rr.lt a1).trans h.rr
  have q2 : Arr W' (w.heap.size + 1) 40 [.bool false, .slice none 0 0] := (hg.keep _ h.res.lt a2).trans h.res
  have hrb := h.hrb
  exact ⟨q1, ho.far (p := ⟨rb, 1, none⟩) (ho.apart q1 (by decide)) _, q1.set 1 _, q2.far (p := ⟨rb, 1, none⟩) (show w.heap.size + 1 ≠ rb by omega) _, (h.bel.trans (hg.below.mono (by omega))).setCell (p := ⟨rb, 1, none⟩) (show w.heap.size ≤ rb by omega) _, hrb⟩
end
theorem map_take_succ {tq : Int → Int} {l : List (Int × Int)} {k : Nat} (h : k < l.length) : (l.take (k + 1)).map (mvT tq) = (l.take k).map (mvT tq) ++ [mvT tq l[k]] := by rw [take_snoc' h, List.map_append]; rfl
theorem OwnT.made {w : World} {base n : Nat} {cs : Array Value} (hb : base ≤ w.heap.size) (hn : n ≤ 10000000) (hc : cs.size = n * 2) : OwnT base (w.alloc (.cells cs 67)) (.slice (some ⟨w.heap.size, 0, none⟩) 0 n) [] :=
  ⟨rfl, .inr ⟨w.heap.size, n, cs, rfl, hb, heap_alloc_new w _, Nat.zero_le _, by unfold maxLen; omega, by omega, by simp⟩⟩
set_option maxHeartbeats 4000000 in
set_option maxRecDepth 100000 in
theorem moved_any (fw : FuncId) (cv : Value) (tq : Int → Int) (vp : Value) (p : Pol) (w : World) (hf : CloM fw cv tq w) (hp : PolyV w vp p) (okp : okP p) :
    Calls Tryz.prog 61 #[vp, .func (.func fw) #[] #[cv]] w fun e w' => ∃ v, e = .returned v ∧ PolyV w' v (movP tq p) ∧ Below w.heap.size w w' := by
  obtain ⟨P, hP⟩ : ∃ P, P = movP tq p := ⟨_, rfl⟩
  rw [← hP]
  have HP := Lib.hid hP
  clear hP
  obtain ⟨A, c, rfl, hx⟩ := hp
  have HPT := Lib.hid (fun W (hb : Below w.heap.size w W) => hx.below hb)
  clear hx
  have hW : ∀ W, W = ((w.alloc (.cells #[.bool p.isNone, .slice A (p.getD []).length c] 40)).alloc (.cells #[.bool false, .slice none 0 0] 40)) → Arr W w.heap.size 40 [.bool p.isNone, .slice A (p.getD []).length c] ∧ Arr W (w.heap.size + 1) 40 [.bool false, .slice none 0 0] ∧ Below w.heap.size w W ∧ W.heap.size = w.heap.size + 2 := by
    intro W hW
    subst hW
    exact ⟨(Arr.new _ _ [_, _]).alloc _, Arr.newAt (w.alloc _) _ [_, _] _ (by simp), ((Below.refl _ _).alloc (Nat.le_refl _) _).alloc (by simp) _, by simp⟩
  go_enter Tryz.func61, Tryz.ntmps61
  go_upto_region 1 with fail
  generalize ((w.alloc (.cells #[.bool p.isNone, .slice A (p.getD []).length c] 40)).alloc (.cells #[.bool false, .slice none 0 0] 40)) = w3 at hW ⊢
  obtain ⟨qp, qr, hb3, hs3⟩ := hW w3 rfl
  clear hW
  have y0 := qp.cell 0
  have y1 := qp.cell 1
  cases p with
  | none =>
    have x0 := qr.cell 0
    have x1 := qr.cell 1
    have f0 := qr.frozen 0
    have f1 := qr.frozen 1
    have hres := Lib.hid ((qr.set 0 (.bool true)).set 1 (.slice A 0 c))
    clear hs3
    go_wp2_with fail
    refine bodyPost_ret (v := .agg #[.bool true, .slice A 0 c]) (results_c Tryz.results61 _ _ (w.heap.size + 1) 40 _ _ rfl hres.out Tryz.underlying40 rfl info_poly) rfl ?_
    exact ⟨_, rfl, by rw [HP.out]; exact ⟨A, c, rfl, ⟨A, c, rfl, fun k h => absurd h (Nat.not_lt_zero _)⟩⟩, (hb3.setCell (p := ⟨w.heap.size + 1, 0, none⟩) (by simp) _).setCell (p := ⟨w.heap.size + 1, 1, none⟩) (by simp) _⟩
  | some l =>
    obtain ⟨kl, liml⟩ := okp
    have ll := liml.len kl
    have HK := Lib.hid kl
    have HLI := Lib.hid liml
    have HF := Lib.hid hf
    have eg := hf.eg
    clear hf kl liml
    change w3.cell? ⟨w.heap.size, 0, none⟩ = some (.bool false) at y0
    change w3.cell? ⟨w.heap.size, 1, none⟩ = some (.slice A l.length c) at y1
    obtain ⟨cs, hmk, hcs⟩ := run_make_terms l.length (by omega) w3
    have HPT3 := Lib.hid (show Tms w3 (.slice A l.length c) l from HPT.out w3 hb3)
    go_upto_region 4 with fail
    have hst : MSt w (w.heap.size + 2 + 1) (.slice (some ⟨w.heap.size + 2, 0, none⟩) 0 l.length) [] ((w3.alloc (.cells cs 67)).alloc (.cells #[.bool false, .slice (some ⟨w.heap.size + 2, 0, none⟩) 0 l.length] 40)) := by
      have h1 := OwnT.made (w := w3) (base := w.heap.size + 2) (by omega) (by omega) hcs
      rw [hs3] at h1
      exact ⟨h1.below ((Below.refl _ _).alloc (Nat.le_refl _) _), Arr.newAt (w3.alloc _) _ [_, _] _ (by simp; omega), (qr.alloc _).alloc _, (hb3.alloc hb3.size _).alloc (by simp; omega) _, by omega⟩
    have y2 : ((w3.alloc (.cells cs 67)).alloc (.cells #[.bool false, .slice (some ⟨w.heap.size + 2, 0, none⟩) 0 l.length] 40)).cell? ⟨w.heap.size, 1, none⟩ = some (.slice A l.length c) := ((qp.alloc _).alloc _).cell 1
    have y3 : ((w3.alloc (.cells cs 67)).alloc (.cells #[.bool false, .slice (some ⟨w.heap.size + 2, 0, none⟩) 0 l.length] 40)).cell? ⟨w.heap.size, 0, none⟩ = some (.bool false) := ((qp.alloc _).alloc _).cell 0
    rw [hs3] at hmk
    generalize ((w3.alloc (.cells cs 67)).alloc (.cells #[.bool false, .slice (some ⟨w.heap.size + 2, 0, none⟩) 0 l.length] 40)) = w4 at *
    clear hmk hcs cs qp qr hs3 y0 y1 HPT3
    go_wp2_with fail
    go_loopg [7, 8, 20] l.length (fun gk s7 s8 s20 wr => ∃ (k : Nat) (s : Value), k ≤ l.length ∧ gk = l.length - k ∧ s20 = .int .i64 (k : Int) ∧ MSt w (w.heap.size + 2 + 1) s ((l.take k).map (mvT tq)) wr ∧ Hid (∀ t ∈ l.take k, wiB (tq t.1) 1048576 = true))
    case atStart => exact ⟨0, _, Nat.zero_le _, rfl, rfl, hst, Lib.hid (fun t h => by simp at h)⟩
    case round =>
      clear hst y2 y3 hb3
      obtain ⟨k, s, hk, rfl, rfl, hst, HT⟩ := hrel
      by_cases hlt : k < l.length
      · have z1 : (k : Int) < (l.length : Int) := by omega
        obtain ⟨b, o, rfl, _, y0, y1⟩ := (show Tms wr (.slice A l.length c) l from HPT.out wr hst.bel).at_ hlt
        have HL := Lib.hid (map_take_succ (tq := tq) hlt)
        have hex := HLI.out.ex l[k] (List.getElem_mem hlt)
        have hrl : ((l.take k).map (mvT tq)).length ≤ 10000000 := by simp; omega
        have HBad := Lib.hid (fun (h : wiB (tq l[k].1) 1048576 = false) => (show P = none from by
          rw [HP.out]; unfold movP
          refine if_neg fun h2 => ?_
          have := List.all_eq_true.1 h2 l[k] (List.getElem_mem hlt)
          rw [h] at this; cases this))
        have HT2 := Lib.hid (fun (h : wiB (tq l[k].1) 1048576 = true) => (show ∀ t ∈ l.take (k + 1), wiB (tq t.1) 1048576 = true from fun t ht => by
          rw [take_snoc' hlt] at ht
          rcases List.mem_append.1 ht with ht | ht
          · exact HT.out t ht
          · rw [List.mem_singleton.1 ht]; exact h))
        generalize l[k] = t at *
        obtain ⟨t1, t2⟩ := t
        dsimp only at *
        have hbd := HF.out.bd t1 hex.1 hex.2
        generalize (l.take k).map (mvT tq) = R at *
        have HST := Lib.hid (hst.alloc (.cells #[.int .i64 t1, .int .i64 t2] 67))
        have HQT := Lib.hid (Arr.new wr 67 [.int .i64 t1, .int .i64 t2])
        have hz5 : w.heap.size + 2 ≤ (wr.alloc (.cells #[.int .i64 t1, .int .i64 t2] 67)).heap.size := by have := hst.res.lt; simp; omega
        have HZ5 := Lib.hid hz5
        obtain ⟨As, ns, csx, rfl⟩ := hst.own.form3
        clear hst HT hz5
        go_upto_region 7 with fail
        have hqt : Arr (wr.alloc (.cells #[.int .i64 t1, .int .i64 t2] 67)) wr.heap.size 67 [.int .i64 t1, .int .i64 t2] := HQT.out
        have HCA := Lib.hid (HF.out.ca t1 _ HST.out.bel hex.1 hex.2)
        generalize wr.heap.size = g at *
        generalize (wr.alloc (.cells #[.int .i64 t1, .int .i64 t2] 67)) = w5 at *
        have x0 := hqt.cell 0
        have x1 := hqt.cell 1
        clear y0 y1 HQT hqt
        go_wp2_with fail
        refine HCA.out.mono ?_
        rintro e w6 ⟨rfl, rfl⟩
        clear HCA
        have HWI := Lib.hid (within_any (tq t1) 1048576 w5 (by omega) (by omega))
        obtain ⟨WB, hWB⟩ : ∃ z, z = wiB (tq t1) 1048576 := ⟨_, rfl⟩
        rw [← hWB] at HWI HBad HT2
        clear hWB
        have HMV := Lib.hid (show mvT tq (t1, t2) = (tq t1, t2) from rfl)
        rw [HMV.out] at HL
        generalize tq t1 = e1 at *
        clear HMV
        cases WB with
        | false =>
          have HPN := Lib.hid (HBad.out rfl)
          have qr := HST.out.res
          have x0 := qr.cell 0
          have x1 := qr.cell 1
          have f0 := qr.frozen 0
          have f1 := qr.frozen 1
          have HRS := Lib.hid ((qr.set 0 (.bool true)).set 1 (.slice none 0 0))
          have HBE := Lib.hid ((HST.out.bel.setCell (p := ⟨w.heap.size + 1, 0, none⟩) (by simp) (.bool true)).setCell (p := ⟨w.heap.size + 1, 1, none⟩) (by simp) (.slice none 0 0))
          clear qr HBad HT2 HL
          go_wp2_with fail
          refine HWI.out.mono ?_
          rintro e w6 ⟨rfl, rfl⟩
          go_wp2_with fail
          refine bodyPost_ret (v := .agg #[.bool true, .slice none 0 0]) (results_c Tryz.results61 _ _ (w.heap.size + 1) 40 _ _ rfl HRS.out Tryz.underlying40 rfl info_poly) rfl ?_
          exact ⟨_, rfl, by rw [HPN.out]; exact PolyV.big _, HBE.out⟩
        | true =>
          have HT3 := Lib.hid (HT2.out rfl)
          clear HBad HT2
          have q1 := HST.out.rr
          have y1 := q1.cell 1
          clear q1
          go_wp2_with fail
          refine HWI.out.mono ?_
          rintro e w6 ⟨rfl, rfl⟩
          have HUU := Lib.hid (Arr.new w5 67 [.int .i64 e1, .int .i64 t2])
          have HSA := Lib.hid (HST.out.alloc (.cells #[.int .i64 e1, .int .i64 t2] 67))
          have HRL := Lib.hid (show R.length ≤ 100000000 from by omega)
          have HSZ := Lib.hid (show w.heap.size + 2 ≤ (w5.alloc (.cells #[.int .i64 e1, .int .i64 t2] 67)).heap.size by have := HZ5.out; simp; omega)
          go_wp2_with (at_builtin; refine wpList_appT rfl (.tmp 33) (.tmp 38) rfl rfl HSA.out.own (m := (e1, t2)) rfl HUU.out HRL.out HSZ.out ?_; intro v' w1 hown1 hgr1; obtain ⟨q1, h2⟩ := HSA.out.app hown1 hgr1; obtain ⟨Av, nv, cv2, rfl⟩ := hown1.form3; have HN := Lib.hid h2; have f1 := q1.frozen 1; have yq := q1.cell 1; clear hown1 hgr1 q1 h2)
          go_roundg (l.length - (k + 1))
          case measure => omega
          case rel => exact ⟨k + 1, _, by omega, rfl, by go_num, by rw [HL.out]; exact HN.out, HT3⟩
      · have z1 : ¬ (k : Int) < (l.length : Int) := by omega
        have hkk : l.take k = l := List.take_of_length_le (by omega)
        rw [hkk] at hst HT
        have HE := Lib.hid (show P = some (l.map (mvT tq)) from by
          rw [HP.out]; unfold movP
          exact if_pos (List.all_eq_true.2 HT.out))
        have HV := Lib.hid hst
        have htm := hst.own.tms
        obtain ⟨Ax, cx, rfl⟩ := hst.own.form
        have hln : (l.map (mvT tq)).length = l.length := by simp
        have qr := hst.res
        have q1 := hst.rr
        have y0 := q1.cell 0
        have y1 := q1.cell 1
        have f0 := qr.frozen 0
        have f1 := qr.frozen 1
        have x0 := qr.cell 0
        have x1 := qr.cell 1
        have HPV := Lib.hid (PolyV.own hst.own)
        rw [hln] at y1 HPV htm
        have HRS := Lib.hid ((qr.set 0 (.bool false)).set 1 (.slice Ax l.length cx))
        have HPB := Lib.hid ((HPV.out).box qr (.bool false) (.slice Ax l.length cx))
        have HBE := Lib.hid ((hst.bel.setCell (p := ⟨w.heap.size + 1, 0, none⟩) (by simp) (.bool false)).setCell (p := ⟨w.heap.size + 1, 1, none⟩) (by simp) (.slice Ax l.length cx))
        have HTM := Lib.hid htm
        clear htm
        clear hst qr q1 hkk hln
        go_upto_region 12 with fail
        by_cases h1 : l.length > 1
        · have z2 : (l.length : Int) > 1 := by omega
          have z3 : (1 : Int) < (l.length : Int) := by omega
          have z4 : (0 : Int) < (l.length : Int) := by omega
          obtain ⟨b, o, hAx, hn0, u0, v0⟩ := HTM.out.at_ (k := 0) (by rw [List.length_map]; omega)
          obtain ⟨b', o', hAx', hn1, u1, v1⟩ := HTM.out.at_ (k := 1) (by rw [List.length_map]; omega)
          clear hn0 hn1 v0 v1
          subst hAx
          injection hAx' with hAx'
          injection hAx' with e1 e2
          subst e1 e2
          simp only [Nat.zero_mul, Nat.add_zero, Nat.one_mul] at u0 u1
          have hs01 : (mvT tq l[0]).1 < (mvT tq l[1]).1 := HF.out.mono _ _ (List.pairwise_iff_getElem.1 HK.out.srt 0 1 (by omega) (by omega) (by omega))
          have m0 : ((l.map (mvT tq))[0]'(by rw [List.length_map]; omega)) = mvT tq l[0] := by simp
          have m1 : ((l.map (mvT tq))[1]'(by rw [List.length_map]; omega)) = mvT tq l[1] := by simp
          rw [m0] at u0
          rw [m1] at u1
          generalize (mvT tq l[0]).1 = a0 at *
          generalize (mvT tq l[1]).1 = a1 at *
          have z5 : decide (a1 < a0) = false := by simp; omega
          have z6 : ¬ a0 > a1 := by omega
          clear m0 m1 HTM h1 hs01
          go_quiet (fail)
          go_wp2_with fail
          refine bodyPost_ret (v := .agg #[.bool false, .slice (some ⟨b, o, none⟩) l.length cx]) (results_c Tryz.results61 _ _ (w.heap.size + 1) 40 _ _ rfl (HRS.out.drewN nq) Tryz.underlying40 rfl info_poly) rfl ?_
          exact ⟨_, rfl, by rw [HE.out]; exact HPB.out, bdrewN HBE.out nq⟩
        · have z2 : ¬ (l.length : Int) > 1 := by omega
          have z3 : decide ((1 : Int) < (l.length : Int)) = false := by simp; omega
          go_quiet (fail)
          go_wp2_with fail
          refine bodyPost_ret (v := .agg #[.bool false, .slice Ax l.length cx]) (results_c Tryz.results61 _ _ (w.heap.size + 1) 40 _ _ rfl (HRS.out.drewN nq) Tryz.underlying40 rfl info_poly) rfl ?_
          exact ⟨_, rfl, by rw [HE.out]; exact HPB.out, bdrewN HBE.out nq⟩
end Go.Proofs.YtbkgpfalljgdcaaGreatDoor

namespace Go.Proofs.YtbkgpfalljgdcaaGreatDoor
set_option linter.unusedVariables false

/-- degree of the generator of a letter -/
def cg (comp : List Int) (k : Int) : Int := comp[k.toNat]?.getD 0
def stepD (comp : List Int) (d x : Int) : Int := if 0 < x then d + cg comp (x - 1) else d - cg comp (-x - 1)
def degW (comp : List Int) : List Int → Int → Int
  | [], d => d
  | x :: w, d => degW comp w (stepD comp d x)
/-- the term of a letter, and its generator -/
def trm (comp : List Int) (d x : Int) : Int × Int := if 0 < x then (d, 1) else (d - cg comp (-x - 1), -1)
def gnr (x : Int) : Int := if 0 < x then x - 1 else -x - 1
/-- the terms of the derivative with respect to a generator, in order -/
def drv (comp : List Int) (g : Int) : List Int → Int → List (Int × Int)
  | [], _ => []
  | x :: w, d => (if gnr x = g then [trm comp d x] else []) ++ drv comp g w (stepD comp d x)
theorem drv_append (comp : List Int) (g : Int) (u v : List Int) (d : Int) : drv comp g (u ++ v) d = drv comp g u d ++ drv comp g v (degW comp u d) := by
  induction u generalizing d with
  | nil => rfl
  | cons x u ih => rw [List.cons_append, drv, drv, ih, List.append_assoc]; rfl
theorem degW_append (comp : List Int) (u v : List Int) (d : Int) : degW comp (u ++ v) d = degW comp v (degW comp u d) := by
  induction u generalizing d with
  | nil => rfl
  | cons x u ih => rw [List.cons_append, degW, degW, ih]
theorem stepD_add (comp : List Int) (d k x : Int) : stepD comp (d + k) x = stepD comp d x + k := by unfold stepD; split <;> omega
theorem degW_add (comp : List Int) (u : List Int) (d k : Int) : degW comp u (d + k) = degW comp u d + k := by
  induction u generalizing d with
  | nil => rfl
  | cons x u ih => rw [degW, degW, stepD_add, ih]
theorem degW_zero (comp : List Int) (u : List Int) (d : Int) : degW comp u d = degW comp u 0 + d := by
  have := degW_add comp u 0 d
  rwa [Int.zero_add] at this
theorem trm_add (comp : List Int) (d k x : Int) : trm comp (d + k) x = ((trm comp d x).1 + k, (trm comp d x).2) := by
  unfold trm
  split
  · rfl
  · show (d + k - _, -1) = (d - _ + k, -1)
    congr 1; omega
theorem cf_map_add (l : List (Int × Int)) (k e : Int) : cf (l.map fun t => (t.1 + k, t.2)) e = cf l (e - k) := by
  induction l with
  | nil => rfl
  | cons t l ih =>
    rw [List.map_cons, cf_cons, cf_cons, ih]
    by_cases h : t.1 + k = e
    · rw [if_pos h, if_pos (by omega)]
    · rw [if_neg h, if_neg (by omega)]
theorem drv_shift (comp : List Int) (g : Int) (w : List Int) (d k : Int) : drv comp g w (d + k) = (drv comp g w d).map fun t => (t.1 + k, t.2) := by
  induction w generalizing d with
  | nil => rfl
  | cons x w ih =>
    rw [drv, drv, stepD_add, ih, List.map_append, trm_add]
    congr 1
    split <;> rfl
/-- the derivative as a function -/
def dF (comp : List Int) (g : Int) (w : List Int) (e : Int) : Int := cf (drv comp g w 0) e
theorem cf_drv (comp : List Int) (g : Int) (w : List Int) (d e : Int) : cf (drv comp g w d) e = dF comp g w (e - d) := by
  have h := drv_shift comp g w 0 d
  rw [Int.zero_add] at h
  rw [h, cf_map_add]; rfl
def dg (comp : List Int) (w : List Int) : Int := degW comp w 0
theorem dF_append (comp : List Int) (g : Int) (u v : List Int) (e : Int) : dF comp g (u ++ v) e = dF comp g u e + dF comp g v (e - dg comp u) := by
  have h := cf_drv comp g v (degW comp u 0) e
  unfold dF dg at *
  rw [drv_append, cf_append, h]
theorem dg_append (comp : List Int) (u v : List Int) : dg comp (u ++ v) = dg comp u + dg comp v := by
  unfold dg; rw [degW_append, degW_zero]; omega
theorem dF_nil (comp : List Int) (g e : Int) : dF comp g [] e = 0 := rfl
theorem dg_nil (comp : List Int) : dg comp [] = 0 := rfl
theorem dF_one (comp : List Int) (g x e : Int) : dF comp g [x] e = if gnr x = g then (if 0 < x then (if e = 0 then 1 else 0) else (if e = - cg comp (-x - 1) then -1 else 0)) else 0 := by
  unfold dF
  rw [drv, drv, List.append_nil]
  split
  · rw [cf_one]
    unfold trm
    split
    · show (if (0 : Int) = e then (1 : Int) else 0) = _
      by_cases h : e = 0
      · rw [if_pos h, if_pos h.symm]
      · rw [if_neg h, if_neg (fun k => h k.symm)]
    · show (if (0 - cg comp (-x - 1) : Int) = e then (-1 : Int) else 0) = _
      by_cases h : e = - cg comp (-x - 1)
      · rw [if_pos h, if_pos (by omega)]
      · rw [if_neg h, if_neg (by omega)]
  · rfl
theorem dg_one (comp : List Int) (x : Int) : dg comp [x] = if 0 < x then cg comp (x - 1) else - cg comp (-x - 1) := by
  show stepD comp 0 x = _
  unfold stepD
  split <;> omega
/-- x behind its inverse -/
theorem dg_inv (comp : List Int) {x : Int} (hx : x ≠ 0) : dg comp [-x] = - dg comp [x] := by
  rw [dg_one, dg_one]
  by_cases h : 0 < x
  · rw [if_neg (by omega), if_pos h, Int.neg_neg]
  · rw [if_pos (by omega), if_neg h, Int.neg_neg]
theorem dF_pair (comp : List Int) (g : Int) {x : Int} (hx : x ≠ 0) (e : Int) : dF comp g [x, -x] e = 0 := by
  rw [show [x, -x] = [x] ++ [-x] from rfl, dF_append, dF_one, dF_one, dg_one]
  have hg : gnr (-x) = gnr x := by unfold gnr; split <;> split <;> omega
  rw [hg]
  by_cases hgg : gnr x = g
  · rw [if_pos hgg, if_pos hgg]
    by_cases h : 0 < x
    · have hn : ¬ 0 < -x := by omega
      simp only [h, hn, if_true, if_false, Int.neg_neg]
      split <;> split <;> omega
    · have hn : 0 < -x := by omega
      simp only [h, hn, if_true, if_false]
      split <;> split <;> omega
  · rw [if_neg hgg, if_neg hgg]; rfl
/-- pushing a letter onto a reduced word -/
def psh (s : List Int) (x : Int) : List Int := if s.getLast? = some (-x) then s.dropLast else s ++ [x]
theorem getLast_form {s : List Int} {y : Int} (h : s.getLast? = some y) : s = s.dropLast ++ [y] := by
  obtain ⟨r, rfl⟩ := List.getLast?_eq_some_iff.1 h
  simp
theorem dF_psh (comp : List Int) (g : Int) (s : List Int) {x : Int} (hx : x ≠ 0) (e : Int) : dF comp g (psh s x) e = dF comp g (s ++ [x]) e := by
  unfold psh
  split
  · next h =>
    have h1 := getLast_form h
    have h2 : s ++ [x] = s.dropLast ++ [-x, x] := by
      conv => lhs; rw [h1]
      rw [List.append_assoc]; rfl
    have h3 := dF_pair comp g (x := -x) (by omega)
    rw [Int.neg_neg] at h3
    rw [h2, dF_append, h3]; omega
  · rfl
theorem dg_psh (comp : List Int) (s : List Int) {x : Int} (hx : x ≠ 0) : dg comp (psh s x) = dg comp (s ++ [x]) := by
  unfold psh
  split
  · next h =>
    have h1 := getLast_form h
    have h2 : s ++ [x] = s.dropLast ++ ([-x] ++ [x]) := by
      conv => lhs; rw [h1]
      rw [List.append_assoc]
    rw [h2, dg_append, dg_append, dg_inv comp hx]; omega
  · rfl
/-- pushing letters -/
def pshL (s l : List Int) : List Int := l.foldl psh s
theorem pshL_cons (s : List Int) (x : Int) (l : List Int) : pshL s (x :: l) = pshL (psh s x) l := rfl
theorem pshL_snoc (s l : List Int) (x : Int) : pshL s (l ++ [x]) = psh (pshL s l) x := by unfold pshL; rw [List.foldl_append]; rfl
theorem dgF_pshL (comp : List Int) (g : Int) : ∀ (l s : List Int), (∀ x ∈ l, x ≠ 0) → dg comp (pshL s l) = dg comp (s ++ l) ∧ ∀ e, dF comp g (pshL s l) e = dF comp g (s ++ l) e
  | [], s, _ => by rw [List.append_nil]; exact ⟨rfl, fun _ => rfl⟩
  | x :: l, s, h => by
    have hx := h x (List.mem_cons_self ..)
    obtain ⟨h1, h2⟩ := dgF_pshL comp g l (psh s x) (fun y hy => h y (List.mem_cons_of_mem _ hy))
    have e1 : s ++ x :: l = (s ++ [x]) ++ l := by rw [List.append_assoc]; rfl
    rw [pshL_cons]
    refine ⟨?_, fun e => ?_⟩
    · rw [h1, dg_append, dg_psh comp s hx, e1, dg_append comp (s ++ [x]) l]
    · rw [h2, dF_append, dF_psh comp g s hx, dg_psh comp s hx, e1, dF_append comp g (s ++ [x]) l]
/-- the inverse word -/
def invW (w : List Int) : List Int := (w.map fun x => -x).reverse
theorem invW_cons (x : Int) (w : List Int) : invW (x :: w) = invW w ++ [-x] := by unfold invW; rw [List.map_cons, List.reverse_cons]
theorem invW_ne {w : List Int} (h : ∀ x ∈ w, x ≠ 0) : ∀ x ∈ invW w, x ≠ 0 := fun x hx => by
  unfold invW at hx
  rw [List.mem_reverse, List.mem_map] at hx
  obtain ⟨y, hy, rfl⟩ := hx
  have := h y hy; omega
theorem w_invW (comp : List Int) (g : Int) : ∀ (w : List Int), (∀ x ∈ w, x ≠ 0) → dg comp (w ++ invW w) = 0 ∧ ∀ e, dF comp g (w ++ invW w) e = 0
  | [], _ => ⟨rfl, fun _ => rfl⟩
  | x :: w, h => by
    have hx := h x (List.mem_cons_self ..)
    obtain ⟨h1, h2⟩ := w_invW comp g w (fun y hy => h y (List.mem_cons_of_mem _ hy))
    have e1 : (x :: w) ++ invW (x :: w) = [x] ++ ((w ++ invW w) ++ [-x]) := by rw [invW_cons]; simp
    have e2 : [x] ++ [-x] = [x, -x] := rfl
    rw [e1]
    refine ⟨?_, fun e => ?_⟩
    · rw [dg_append, dg_append, h1, dg_inv comp hx]; omega
    · have h3 := dF_pair comp g hx e
      rw [← e2, dF_append] at h3
      rw [dF_append, dF_append, h2, h1]
      rw [Int.sub_zero]; omega
theorem dF_invW (comp : List Int) (g : Int) {w : List Int} (h : ∀ x ∈ w, x ≠ 0) (e : Int) : dF comp g (invW w) e = - dF comp g w (e + dg comp w) := by
  have h1 := (w_invW comp g w h).2 (e + dg comp w)
  rw [dF_append] at h1
  rw [show e + dg comp w - dg comp w = e by omega] at h1
  omega
theorem dg_invW (comp : List Int) {w : List Int} (h : ∀ x ∈ w, x ≠ 0) : dg comp (invW w) = - dg comp w := by
  have h1 := (w_invW comp 0 w h).1
  rw [dg_append] at h1; omega
/-- bounds -/
theorem drv_len (comp : List Int) (g : Int) (w : List Int) (d : Int) : (drv comp g w d).length ≤ w.length := by
  induction w generalizing d with
  | nil => exact Nat.le_refl _
  | cons x w ih =>
    rw [drv, List.length_append, List.length_cons]
    have := ih (stepD comp d x)
    split <;> simp <;> omega
theorem cg_bd {comp : List Int} {N : Int} (hN : 0 ≤ N) (h : ∀ c ∈ comp, -N ≤ c ∧ c ≤ N) (k : Int) : -N ≤ cg comp k ∧ cg comp k ≤ N := by
  unfold cg
  cases hc : comp[k.toNat]? with
  | none => show -N ≤ 0 ∧ 0 ≤ N; omega
  | some c => exact h c (List.mem_of_getElem? hc)
theorem drv_bd {comp : List Int} {N : Int} (hN : 0 ≤ N) (h : ∀ c ∈ comp, -N ≤ c ∧ c ≤ N) (g : Int) (w : List Int) : ∀ (d : Int) (t : Int × Int), t ∈ drv comp g w d → (t.2 = 1 ∨ t.2 = -1) ∧ d - N * w.length ≤ t.1 ∧ t.1 ≤ d + N * w.length := by
  induction w with
  | nil => intro d t ht; cases ht
  | cons x w ih =>
    intro d t ht
    have e1 : N * ((x :: w).length : Int) = N * w.length + N := by rw [List.length_cons, Int.natCast_add, Int.mul_add]; simp
    have hm : 0 ≤ N * (w.length : Int) := Int.mul_nonneg hN (by omega)
    rw [drv] at ht
    rw [e1]
    rcases List.mem_append.1 ht with ht | ht
    · split at ht
      · rw [List.mem_singleton.1 ht]
        have h2 := cg_bd hN h (-x - 1)
        unfold trm
        split
        · exact ⟨.inl rfl, by show d - _ ≤ d; omega, by show d ≤ _; omega⟩
        · exact ⟨.inr rfl, by show d - _ ≤ d - cg comp _; omega, by show d - cg comp _ ≤ _; omega⟩
      · cases ht
    · have h1 := ih _ t ht
      have h2 := cg_bd hN h (x - 1)
      have h3 := cg_bd hN h (-x - 1)
      have h4 : d - N ≤ stepD comp d x ∧ stepD comp d x ≤ d + N := by unfold stepD; split <;> omega
      omega
end Go.Proofs.YtbkgpfalljgdcaaGreatDoor

namespace Go.Proofs.YtbkgpfalljgdcaaGreatDoor
set_option linter.unusedVariables false

def sumC : List (Int × Int) → Int
  | [] => 0
  | t :: l => t.2 + sumC l
def asum : List (Int × Int) → Nat
  | [] => 0
  | t :: l => t.2.natAbs + asum l
/-- the sum of the coefficients below an exponent -/
def psum : List (Int × Int) → Int → Int
  | [], _ => 0
  | t :: l, e => (if t.1 < e then t.2 else 0) + psum l e
theorem psum_succ (l : List (Int × Int)) (e : Int) : psum l (e + 1) = psum l e + cf l e := by
  induction l with
  | nil => rfl
  | cons t l ih =>
    rw [psum, psum, cf_cons, ih]
    by_cases h : t.1 < e
    · rw [if_pos (by omega), if_pos h, if_neg (by omega)]; omega
    · by_cases h2 : t.1 = e
      · rw [if_pos (by omega), if_neg h, if_pos h2]; omega
      · rw [if_neg (by omega), if_neg h, if_neg h2]; omega
theorem psum_bd (l : List (Int × Int)) (e : Int) : -(asum l : Int) ≤ psum l e ∧ psum l e ≤ asum l := by
  induction l with
  | nil => simp [psum, asum]
  | cons t l ih =>
    rw [psum, asum]
    split <;> omega
theorem psum_0 {l : List (Int × Int)} {e : Int} (h : ∀ t ∈ l, e ≤ t.1) : psum l e = 0 := by
  induction l with
  | nil => rfl
  | cons t l ih =>
    rw [psum, if_neg (by have := h t (List.mem_cons_self ..); omega), ih (fun s hs => h s (List.mem_cons_of_mem _ hs))]; rfl
theorem psum_all {l : List (Int × Int)} {e : Int} (h : ∀ t ∈ l, t.1 < e) : psum l e = sumC l := by
  induction l with
  | nil => rfl
  | cons t l ih =>
    rw [psum, sumC, if_pos (h t (List.mem_cons_self ..)), ih (fun s hs => h s (List.mem_cons_of_mem _ hs))]
theorem exists_below (l : List (Int × Int)) : ∃ B : Int, ∀ t ∈ l, B ≤ t.1 ∧ t.1 ≤ -B := by
  induction l with
  | nil => exact ⟨0, fun t h => by cases h⟩
  | cons t l ih =>
    obtain ⟨B, hB⟩ := ih
    refine ⟨min B (-(t.1.natAbs : Int)), fun s hs => ?_⟩
    rcases List.mem_cons.1 hs with rfl | hs
    · omega
    · have := hB s hs; omega
theorem sumC_cf {l m : List (Int × Int)} (h : ∀ e, cf l e = cf m e) : sumC l = sumC m := by
  obtain ⟨B1, h1⟩ := exists_below l
  obtain ⟨B2, h2⟩ := exists_below m
  have key : ∀ n : Nat, psum l (min B1 B2 + n) = psum m (min B1 B2 + n) := by
    intro n
    induction n with
    | zero => rw [psum_0 (fun t ht => by have := h1 t ht; omega), psum_0 (fun t ht => by have := h2 t ht; omega)]
    | succ n ih =>
      have e : min B1 B2 + ((n + 1 : Nat) : Int) = (min B1 B2 + n) + 1 := by omega
      rw [e, psum_succ, psum_succ, ih, h]
  have h3 := key (max (1 - B1 - min B1 B2) (1 - B2 - min B1 B2)).toNat
  rwa [psum_all (fun t ht => by have := h1 t ht; omega), psum_all (fun t ht => by have := h2 t ht; omega)] at h3
theorem sumC_append (l m : List (Int × Int)) : sumC (l ++ m) = sumC l + sumC m := by
  induction l with
  | nil => simp [sumC]
  | cons t l ih => rw [List.cons_append, sumC, sumC, ih]; omega
/-- the exponent of a generator in a word -/
def expo (g : Int) : List Int → Int
  | [] => 0
  | x :: w => (if gnr x = g then (if 0 < x then 1 else -1) else 0) + expo g w
theorem sumC_drv (comp : List Int) (g : Int) (w : List Int) (d : Int) : sumC (drv comp g w d) = expo g w := by
  induction w generalizing d with
  | nil => rfl
  | cons x w ih =>
    rw [drv, sumC_append, ih, expo]
    congr 1
    split
    · show (trm comp d x).2 + 0 = _
      unfold trm
      split <;> rfl
    · rfl
theorem expo_snoc (g : Int) (w : List Int) (x : Int) : expo g (w ++ [x]) = expo g w + (if gnr x = g then (if 0 < x then 1 else -1) else 0) := by
  induction w with
  | nil => simp [expo]
  | cons y w ih => rw [List.cons_append, expo, expo, ih]; omega
theorem expo_bd (g : Int) (w : List Int) : -(w.length : Int) ≤ expo g w ∧ expo g w ≤ w.length := by
  induction w with
  | nil => simp [expo]
  | cons x w ih =>
    rw [expo, List.length_cons]
    split
    · split <;> omega
    · omega
theorem asum_le {l : List (Int × Int)} {N : Nat} (h : ∀ t ∈ l, t.2.natAbs ≤ N) : asum l ≤ N * l.length := by
  induction l with
  | nil => simp [asum]
  | cons t l ih =>
    rw [asum, List.length_cons, Nat.mul_add]
    have h1 := h t (List.mem_cons_self ..)
    have h2 := ih (fun s hs => h s (List.mem_cons_of_mem _ hs))
    omega
/-- the terms of consecutive coefficients -/
def ofL : Int → List Int → List (Int × Int)
  | _, [] => []
  | low, c :: cs => (if c = 0 then [] else [(low, c)]) ++ ofL (low + 1) cs
def ofB : Int → List Int → Bool
  | _, [] => true
  | low, c :: cs => (c == 0 || (decide (-1125899906842624 ≤ c ∧ c ≤ 1125899906842624) && decide (-1048576 ≤ low ∧ low ≤ 1048576))) && ofB (low + 1) cs
def ofP (low : Int) (cs : List Int) : Option (List (Int × Int)) := if ofB low cs = true then some (ofL low cs) else none
theorem ofL_snoc (low : Int) (cs : List Int) (c : Int) : ofL low (cs ++ [c]) = ofL low cs ++ (if c = 0 then [] else [(low + cs.length, c)]) := by
  induction cs generalizing low with
  | nil => simp [ofL]
  | cons d cs ih =>
    rw [List.cons_append, ofL, ofL, ih, List.append_assoc, List.length_cons]
    congr 2
    have : low + 1 + (cs.length : Int) = low + ((cs.length + 1 : Nat) : Int) := by omega
    rw [this]
theorem ofB_snoc (low : Int) (cs : List Int) (c : Int) : ofB low (cs ++ [c]) = (ofB low cs && (c == 0 || (decide (-1125899906842624 ≤ c ∧ c ≤ 1125899906842624) && decide (-1048576 ≤ low + cs.length ∧ low + cs.length ≤ 1048576)))) := by
  induction cs generalizing low with
  | nil => simp [ofB]
  | cons d cs ih =>
    rw [List.cons_append, ofB, ofB, ih, Bool.and_assoc, List.length_cons]
    have : low + 1 + (cs.length : Int) = low + ((cs.length + 1 : Nat) : Int) := by omega
    rw [this]
theorem ofB_take {low : Int} {cs : List Int} {k : Nat} (h : ofB low (cs.take k) = false) : ofB low cs = false := by
  induction cs generalizing low k with
  | nil => simp [ofB] at h
  | cons c cs ih =>
    cases k with
    | zero => simp [ofB] at h
    | succ k =>
      rw [List.take_succ_cons, ofB, Bool.and_eq_false_iff] at h
      rw [ofB, Bool.and_eq_false_iff]
      rcases h with h | h
      · exact .inl h
      · exact .inr (ih h)
theorem ofL_ge (low : Int) (cs : List Int) : ∀ t ∈ ofL low cs, low ≤ t.1 ∧ t.2 ≠ 0 ∧ t.2 ∈ cs := by
  induction cs generalizing low with
  | nil => intro t h; cases h
  | cons c cs ih =>
    intro t h
    rw [ofL] at h
    rcases List.mem_append.1 h with h | h
    · split at h
      · cases h
      · next hc => rw [List.mem_singleton.1 h]; exact ⟨Int.le_refl _, hc, List.mem_cons_self ..⟩
    · have := ih (low + 1) t h
      exact ⟨by omega, this.2.1, List.mem_cons_of_mem _ this.2.2⟩
theorem ofL_can (low : Int) (cs : List Int) : Can (ofL low cs) := by
  refine ⟨?_, fun t ht => (ofL_ge low cs t ht).2.1⟩
  induction cs generalizing low with
  | nil => exact List.Pairwise.nil
  | cons c cs ih =>
    rw [ofL]
    refine List.pairwise_append.2 ⟨?_, ih (low + 1), fun a ha b hb => ?_⟩
    · split
      · exact List.Pairwise.nil
      · exact List.pairwise_singleton _ _
    · split at ha
      · cases ha
      · rw [List.mem_singleton.1 ha]
        have := ofL_ge (low + 1) cs b hb
        show low < b.1
        omega
theorem ofL_lim {low : Int} {cs : List Int} (h : ofB low cs = true) : Lim (ofL low cs) := by
  have key : ∀ t ∈ ofL low cs, (-1125899906842624 ≤ t.2 ∧ t.2 ≤ 1125899906842624) ∧ (-1048576 ≤ t.1 ∧ t.1 ≤ 1048576) := by
    induction cs generalizing low with
    | nil => intro t h; cases h
    | cons c cs ih =>
      intro t ht
      rw [ofB, Bool.and_eq_true] at h
      rw [ofL] at ht
      rcases List.mem_append.1 ht with ht | ht
      · split at ht
        · cases ht
        · next hc =>
          rw [List.mem_singleton.1 ht]
          have h1 := h.1
          simp only [Bool.or_eq_true, beq_iff_eq, Bool.and_eq_true, decide_eq_true_eq] at h1
          rcases h1 with h1 | h1
          · exact absurd h1 hc
          · exact h1
      · exact ih h.2 t ht
  exact ⟨fun t ht => (key t ht).1, fun t ht => (key t ht).2⟩
theorem ofL_sum (low : Int) (cs : List Int) : sumC (ofL low cs) = cs.foldl (· + ·) 0 := by
  have key : ∀ (cs : List Int) (low a : Int), a + sumC (ofL low cs) = cs.foldl (· + ·) a := by
    intro cs
    induction cs with
    | nil => intro low a; simp [ofL, sumC]
    | cons c cs ih =>
      intro low a
      rw [ofL, sumC_append, List.foldl_cons, ← ih (low + 1) (a + c)]
      split
      · next h => rw [h]; simp [sumC]
      · simp [sumC]; omega
  have := key cs low 0
  rwa [Int.zero_add] at this
theorem ofL_len (low : Int) (cs : List Int) : (ofL low cs).length ≤ cs.length := by
  induction cs generalizing low with
  | nil => simp [ofL]
  | cons c cs ih =>
    rw [ofL, List.length_append, List.length_cons]
    have := ih (low + 1)
    split <;> simp <;> omega
end Go.Proofs.YtbkgpfalljgdcaaGreatDoor

namespace Go.Proofs.YtbkgpfalljgdcaaGreatDoor
set_option linter.unusedVariables false
open Go.RowKit

/-- v is a slice of the call's own, from block base on, that holds the integers xs -/
def OwnI (e : TypeId) (base : Nat) (w : World) (v : Value) (xs : List Int) : Prop := w.ownsRow base e 1 v xs.length (xs.map (Value.int .i64))

section
variable {e : TypeId} {base : Nat} {w w' : World} {v : Value} {xs : List Int}
theorem OwnI.nil (e : TypeId) (base : Nat) (w : World) : OwnI e base w (.slice none 0 0) [] := ⟨rfl, .inl ⟨rfl, rfl⟩⟩
theorem OwnI.form (h : OwnI e base w v xs) : ∃ A c, v = .slice A xs.length c := by
  rcases h.2 with ⟨rfl, h0⟩ | ⟨g, cap, cur, rfl, _⟩
  · exact ⟨none, 0, by rw [h0]⟩
  · exact ⟨_, _, rfl⟩
theorem OwnI.block (h : OwnI e base w v xs) : ∀ k, v.ownBlock = some k → base ≤ k := by
  intro k hk
  rcases h.2 with ⟨rfl, h0⟩ | ⟨g, cap, cur, rfl, hg, _⟩
  · simp [Value.ownBlock] at hk
  · simp [Value.ownBlock] at hk; omega
theorem OwnI.ints (h : OwnI e base w v xs) : Ints w v xs := by
  rcases h.2 with ⟨rfl, h0⟩ | ⟨g, cap, cur, rfl, hg, hh, hn, _, hc, ht⟩
  · have : xs = [] := List.eq_nil_of_length_eq_zero h0
    subst this
    exact Ints.nil w
  · refine ⟨_, _, rfl, hn, fun k x hk => ⟨g, 0, rfl, ?_⟩⟩
    rw [cell_of_row w g _ cur e (0, 0) hh, Nat.zero_add]
    have hk' : k < xs.length := (List.getElem?_eq_some_iff.1 hk).1
    have h1 : (cur.toList.take (xs.length * 1))[k]? = some (.int .i64 x) := by rw [ht, List.getElem?_map, hk]; rfl
    rw [List.getElem?_take, if_pos (by omega)] at h1
    simpa using h1
theorem OwnI.below {B : Nat} (h : OwnI e base w v xs) (hb : Below B w w') (hB : w.heap.size ≤ B) : OwnI e base w' v xs := by
  refine ⟨h.1, ?_⟩
  rcases h.2 with h0 | ⟨g, cap, cur, e1, hg, hh, r⟩
  · exact .inl h0
  · refine .inr ⟨g, cap, cur, e1, hg, ?_, r⟩
    have hlt : g < w.heap.size := by
      rcases Nat.lt_or_ge g w.heap.size with hlt | hge
      · exact hlt
      · rw [Array.getElem?_eq_none hge] at hh; cases hh
    rw [hb.block g (by omega)]; exact hh
theorem OwnI.alloc (h : OwnI e base w v xs) (o : Obj) : OwnI e base (w.alloc o) v xs := h.below ((Below.refl _ _).alloc (Nat.le_refl _) o) (Nat.le_refl _)
theorem OwnI.drew (h : OwnI e base w v xs) : OwnI e base w.drew v xs := h
theorem OwnI.drewN (h : OwnI e base w v xs) (n : Nat) : OwnI e base (w.drewN n) v xs := h

/-- the run of append(v, u...) -/
theorem run_appI {P : Program} {t ty : TypeId} {i : TypeInfo} (ht : P.underlying t = some (.slice e)) (hi : P.info? e = some i) (hz : i.zero = some (.int .i64 0)) (hs : i.size = 1) (hby : i.bytes = 8)
    (h : OwnI e base w v xs) {u : Value} {ys : List Int} (hu : Ints w u ys) (hlen : xs.length + ys.length ≤ 1000000000) (hbase : base ≤ w.heap.size) :
    ∃ v' w', (Builtin.append_ #[t, t] ty #[v, u]).run P w = .ok v' w' ∧ OwnI e base w' v' (xs ++ ys) ∧ Below base w w' ∧ (∀ k, k < w.heap.size → v.ownBlock ≠ some k → w'.heap[k]? = w.heap[k]?) := by
  obtain ⟨A, c, rfl, hc, hx⟩ := hu
  cases A with
  | none =>
    have hy : ys = [] := by
      cases ys with
      | nil => rfl
      | cons y ys => obtain ⟨b, o, hA, _⟩ := hx 0 y rfl; cases hA
    subst hy
    refine ⟨v, w, ?_, by simpa using h, Below.refl _ _, fun _ _ _ => rfl⟩
    rcases h.2 with ⟨rfl, h0⟩ | ⟨g, cap, cur, rfl, _, _, hnc, _⟩
    · simp [Builtin.append_, run_underlying ht, sizeOf, typeInfo, hi, Builtin.lenOf, Builtin.firstCells]
    · simp [Builtin.append_, run_underlying ht, sizeOf, typeInfo, hi, Builtin.lenOf, Builtin.firstCells, hnc, storeCells]
  | some ad =>
    have hcells : ∀ j q, (ys.map (Value.int .i64))[j]? = some q → w.cell? (ad.add j) = some q := by
      intro j q hq
      rw [List.getElem?_map] at hq
      cases hy : ys[j]? with
      | none => rw [hy] at hq; cases hq
      | some y =>
        rw [hy] at hq
        injection hq with hq
        obtain ⟨b, o, hA, hcell⟩ := hx j y hy
        injection hA with hA
        subst hA
        rw [← hq]
        have : (⟨b, o, none⟩ : Addr).add j = ⟨b, o + j, none⟩ := by unfold Addr.add; split <;> simp_all
        rw [this]; exact hcell
    obtain ⟨v', w', hrun, h2, h3, _, _⟩ := run_append_own_at (P := P) w base t ty e i (.int .i64 0) 1 8 ht hi hz hs hby rfl (by decide) v xs.length (xs.map (Value.int .i64)) h ad ys.length c (ys.map (Value.int .i64)) (by simp) hcells
      (by intro q hq; obtain ⟨y, _, rfl⟩ := List.mem_map.1 hq; rfl) (by unfold maxLen; omega) (by omega) hbase
    refine ⟨v', w', hrun, ?_, (Below.refl _ _).grown h3 hbase h.block, fun k hk hne => h3.block k hk (fun e => hne e.symm)⟩
    unfold OwnI
    rw [List.length_append, List.map_append]
    exact h2
end

section
variable {P : Program} {w : World} {e : TypeId} {base : Nat} {v : Value} {xs : List Int}
theorem wp_appI {o : Oper} {a : Act} {K : Act → World → Prop} {Q : Exit → Act → World → Prop} (s x : Operand) (t : TypeId) (ho : o.op = .call { callee := .builtin .append, args := #[s, x], argTypes := #[t, t] })
    {i : TypeInfo} (ht : P.underlying t = some (.slice e)) (hi : P.info? e = some i) (hz : i.zero = some (.int .i64 0)) (hs : i.size = 1) (hby : i.bytes = 8)
    (hv : a.eval s = v) (h : OwnI e base w v xs) {u : Value} {ys : List Int} (hx : a.eval x = u) (hu : Ints w u ys) (hlen : xs.length + ys.length ≤ 1000000000) (hbase : base ≤ w.heap.size)
    (hK : ∀ v' w', OwnI e base w' v' (xs ++ ys) → Below base w w' → (∀ k, k < w.heap.size → v.ownBlock ≠ some k → w'.heap[k]? = w.heap[k]?) → K (a.put o.dst v') w') : o.wp P a w K Q := by
  obtain ⟨v', w', hrun, h1, h2, h3⟩ := run_appI (P := P) (ty := o.type) ht hi hz hs hby h hu hlen hbase
  unfold Oper.wp execOp
  simp only [ho, resolve, invoke, builtin, Sem.run_bind, Sem.run_pure, Result.andThen_ok, List.map_toArray, List.map_cons, List.map_nil, hv, hx, hrun]
  exact hK v' w' h1 h2 h3
/-- in a plain region, behind 'at_builtin' -/
theorem wpList_appI {ops : Array Oper} {rest : List Oper} {o : Oper} {a : Act} {Q : Exit → Act → World → Prop} (hgd : o.guard = none) (s x : Operand) (t : TypeId) (ho : o.op = .call { callee := .builtin .append, args := #[s, x], argTypes := #[t, t] })
    {i : TypeInfo} (ht : P.underlying t = some (.slice e)) (hi : P.info? e = some i) (hz : i.zero = some (.int .i64 0)) (hs : i.size = 1) (hby : i.bytes = 8)
    (hv : a.eval s = v) (h : OwnI e base w v xs) {u : Value} {ys : List Int} (hx : a.eval x = u) (hu : Ints w u ys) (hlen : xs.length + ys.length ≤ 1000000000) (hbase : base ≤ w.heap.size)
    (hK : ∀ v' w', OwnI e base w' v' (xs ++ ys) → Below base w w' → (∀ k, k < w.heap.size → v.ownBlock ≠ some k → w'.heap[k]? = w.heap[k]?) → wpList P ops Q rest (a.put o.dst v') w') : wpList P ops Q (o :: rest) a w :=
  wpList_plain hgd fun _ hk => wp_appI s x t ho ht hi hz hs hby hv h hx hu hlen hbase fun v' w' h1 h2 h3 => hk _ _ (hK v' w' h1 h2 h3)
/-- in a region that draws its order -/
theorem step_appI {ops : Array Oper} {o : Oper} {a : Act} {K : Act → World → Prop} {Q : Exit → Act → World → Prop} {E : Prop} (hgd : o.guard = none) (s x : Operand) (t : TypeId) (ho : o.op = .call { callee := .builtin .append, args := #[s, x], argTypes := #[t, t] })
    {i : TypeInfo} (ht : P.underlying t = some (.slice e)) (hi : P.info? e = some i) (hz : i.zero = some (.int .i64 0)) (hs : i.size = 1) (hby : i.bytes = 8)
    (hv : a.eval s = v) (h : OwnI e base w v xs) {u : Value} {ys : List Int} (hx : a.eval x = u) (hu : Ints w u ys) (hlen : xs.length + ys.length ≤ 1000000000) (hbase : base ≤ w.heap.size)
    (hK : ∀ v' w', OwnI e base w' v' (xs ++ ys) → Below base w w' → (∀ k, k < w.heap.size → v.ownBlock ≠ some k → w'.heap[k]? = w.heap[k]?) → K (a.put o.dst v') w') : if Region.wanted o (yielded ops a.tmps) = true then Oper.wp P o a w K Q else E := by
  have hw : Region.wanted o (yielded ops a.tmps) = true := by simp [Region.wanted, hgd]
  rw [if_pos hw]
  exact wp_appI s x t ho ht hi hz hs hby hv h hx hu hlen hbase hK
end

theorem OwnI.emptyAt {w : World} {e : TypeId} {base g : Nat} (hb : base ≤ g) (hg : w.heap[g]? = some (.cells #[] e (0, 0))) : OwnI e base w (.slice (some ⟨g, 0, none⟩) 0 0) [] :=
  ⟨rfl, .inr ⟨g, 0, #[], rfl, hb, hg, Nat.le_refl _, by unfold maxLen; omega, rfl, rfl⟩⟩

/-- a part of a slice reads as the part of the list -/
theorem Ints.sub {w : World} {A : Option Addr} {n c lo hi : Nat} {xs : List Int} (h : Ints w (.slice A n c) xs) (h1 : lo ≤ hi) (h2 : hi ≤ xs.length) (c' : Nat) (hc : hi - lo ≤ c') (A' : Option Addr) (hA : lo < hi → A' = A.map (·.add lo)) :
    Ints w (.slice A' (hi - lo) c') ((xs.take hi).drop lo) := by
  obtain ⟨A0, c0, hv, hcap, hx⟩ := h
  injection hv with e1 e2 e3
  subst e1
  have hlen : ((xs.take hi).drop lo).length = hi - lo := by simp; omega
  refine ⟨A', c', by rw [hlen], by omega, fun k x hk => ?_⟩
  have hk' : k < hi - lo := by have := (List.getElem?_eq_some_iff.1 hk).1; omega
  rw [List.getElem?_drop, List.getElem?_take, if_pos (by omega)] at hk
  obtain ⟨b, o, hA0, hcell⟩ := hx (lo + k) x hk
  subst hA0
  refine ⟨b, o + lo, ?_, by rw [Nat.add_assoc]; exact hcell⟩
  rw [hA (by omega)]
  simp only [Option.map_some, Addr.add]
  split <;> simp_all
end Go.Proofs.YtbkgpfalljgdcaaGreatDoor
