/- package unknot: Closed. -/
/- package unknot: Closed, at whatever lists. -/
/- package unknot: Reached. -/
/- package unknot: searches with other budgets: contracts. -/
/- package unknot: what a verdict and the list of the reachable classes have to do with each other (plain). -/
import Derived.Test.YteliflcbegcdlaaGreatDoorZTwo
import Derived.Test.YteliflcbegcdlaaGreatDoorZSlb
import Derived.Test.YteliflcbegcdlaaGreatDoorZAwu
import Derived.Deep.LoopGhost
import Derived.Test.YteliflcbegcdlaaGreatDoorZFmb
import Derived.Test.YteliflcbegcdlaaGreatDoorZPlc
namespace Go.Proofs.YteliflcbegcdlaaGreatDoor
open Go.RowKit Go.Shelf
set_option linter.unusedVariables false
attribute [local go_sem] Oper.semAt_some
/-- the list holds the class of g and, with each class, those that follow it -/
def ClP (g : Gd) (gs : List Gd) : Prop := VdG g ∧ (∀ h ∈ gs, lstM h = h) ∧ lstM g ∈ gs ∧ ∀ h ∈ gs, ∀ ms z, (ms, z) ∈ nbrs h → lstM z ∈ gs
/-- the boxes of Closed -/
structure Cl0 (n0 b2 b4 : Nat) (gc : List Value) (w W : World) : Prop where
  bel : Below n0 w W
  le : n0 ≤ W.heap.size
  x2 : Arr W b2 24 gc
  x4 : ∃ v, Arr W b4 4 [.bool v]
theorem Cl0.below {n0 b2 b4 : Nat} {gc : List Value} {w W W' : World} (h : Cl0 n0 b2 b4 gc w W) (hb : Below W.heap.size W W') : Cl0 n0 b2 b4 gc w W' := by
  obtain ⟨v, h4⟩ := h.x4
  exact ⟨h.bel.trans (hb.mono h.le), Nat.le_trans h.le hb.size, h.x2.below hb h.x2.lt, ⟨v, h4.below hb h4.lt⟩⟩
/-- .. and the map of the texts -/
structure Cl1 (n0 b2 b4 b5 M : Nat) (gc : List Value) (w : World) (S : List UInt8 → Prop) (W : World) : Prop where
  c0 : Cl0 n0 b2 b4 gc w W
  x5 : Arr W b5 63 [.map (some M)]
  mp : MpB W M S
  leM : n0 ≤ M
theorem Cl1.below {n0 b2 b4 b5 M : Nat} {gc : List Value} {w W W' : World} {S : List UInt8 → Prop} (h : Cl1 n0 b2 b4 b5 M gc w S W) (hb : Below W.heap.size W W') : Cl1 n0 b2 b4 b5 M gc w S W' :=
  ⟨h.c0.below hb, h.x5.below hb h.x5.lt, h.mp.below hb, h.leM⟩
theorem cl_run {b4 : Nat} {v : Bool} {W : World} {tmps : Array Value} (h : Arr W b4 4 [.bool v]) (h4 : tmps[4]?.getD undef = .pointer (some ⟨b4, 0, none⟩)) :
    (results Tryz.f12 tmps).run Tryz.prog W = .ok (.bool v) W := by
  have c4 := h.cell 0
  have hr : (Tryz.f12).results = #[.cell 4 4] := rfl
  have a4 := Tryz.isAgg4 W
  simp only [List.getElem?_cons_zero] at c4
  simp [results, hr, h4, asAddr, loadVar, a4, c4]
/-- how Closed ends -/
theorem cl_end {tmps : Array Value} {R : Ending → World → Prop} {v : Bool} {n0 b4 : Nat} {w : World} (h4 : tmps[4]?.getD undef = .pointer (some ⟨b4, 0, none⟩))
    (hP : ∀ W, Below n0 w W → R (.returned (.bool v)) W) (Ds : List Nat) (W : World) (hm : MkD n0 Ds W) (hr : Arr W b4 4 [.bool v]) (hb : Below n0 w W) :
    LeavesInM Fence.wide 9 Tryz.prog Tryz.f12 tmps R (Ds.map mrkD) .returning W := by
  refine leaves_mrkD (N := n0) (fun W => Arr W b4 4 [.bool v] ∧ Below n0 w W) ?_ ?_ Ds W hm ⟨hr, hb⟩
  · rintro W D hD ⟨a, b⟩ hK
    exact ⟨(Nc.of_def hK).arr a, below_put b hD⟩
  · rintro W ⟨a, b⟩
    exact ⟨_, cl_run a h4, hP W b⟩
theorem zero_bool (w : World) : (zeroValue 4).run Tryz.prog w = .ok (.bool false) w := by
  exact Tryz.zeroValue4 w
theorem bytes_eq (a : List UInt8) : ((⟨a.toArray⟩ : ByteArray) != ⟨a.toArray⟩) = false := by
  show (!(a.toArray == a.toArray)) = false
  simp
/-- what the first loop has seen to -/
def SK (gs : List Gd) (k : Nat) (x : List UInt8) : Prop := ∃ h ∈ gs.take k, x = fmG h
theorem SK.succ {gs : List Gd} {k : Nat} (hk : k < gs.length) (x : List UInt8) : SK gs (k + 1) x ↔ SK gs k x ∨ x = fmG gs[k] := by
  unfold SK
  rw [List.take_succ_eq_append_getElem hk]
  simp only [List.mem_append, List.mem_singleton]
  constructor
  · rintro ⟨h, h1 | rfl, e⟩
    · exact .inl ⟨h, h1, e⟩
    · exact .inr e
  · rintro (⟨h, h1, e⟩ | e)
    · exact ⟨h, .inl h1, e⟩
    · exact ⟨_, .inr rfl, e⟩
theorem SK.mem {gs : List Gd} (hv : ∀ h ∈ gs, VdG h) {z : Gd} (hz : VdG z) : SK gs gs.length (fmG z) ↔ z ∈ gs := by
  unfold SK
  rw [List.take_length]
  constructor
  · rintro ⟨h, h1, e⟩
    rw [fmG_inj hz (hv h h1) e]; exact h1
  · exact fun h => ⟨z, h, rfl⟩
theorem MpB.putL {W : World} {M l : Nat} {S : List UInt8 → Prop} {o : Obj} (h : MpB W M S) (hl : Lp l W) : MpB (W.putObj l o) M S := h.keep (World.putObj_heap_other (by
  rintro rfl
  obtain ⟨es, ck, h1, _⟩ := h
  obtain ⟨r, hl⟩ := hl
  rw [hl] at h1
  cases h1))
theorem Cl1.putL {n0 b2 b4 b5 M l : Nat} {gc : List Value} {w W : World} {S : List UInt8 → Prop} {o : Obj} (h : Cl1 n0 b2 b4 b5 M gc w S W) (hl : Lp l W) (hn : n0 ≤ l) : Cl1 n0 b2 b4 b5 M gc w S (W.putObj l o) := by
  obtain ⟨v, h4⟩ := h.c0.x4
  exact ⟨⟨below_put h.c0.bel hn, by rw [World.putObj_size]; exact h.c0.le, hl.nc.arr h.c0.x2, v, hl.nc.arr h4⟩, hl.nc.arr h.x5, h.mp.putL hl, h.leM⟩
theorem mk_set1 {n0 b : Nat} {t : TypeId} {u : Value} {W : World} {Ds : List Nat} (h : MkD n0 Ds W) (ha : Arr W b t [u]) (v : Value) : MkD n0 Ds (W.setCell ⟨b, 0, none⟩ v) := by
  refine h.keep fun D hD => Below.heap_setCell _ ⟨b, 0, none⟩ _ D (fun e => ?_)
  have hd := (h.2 D hD).2
  have ha' : W.heap[b]? = _ := ha
  rw [show D = b from e] at hd
  rw [hd] at ha'; cases ha'
/-- what the range over the neighbors of h keeps -/
def RgC (n0 b2 b4 b5 M gB : Nat) (gc : List Value) (w : World) (gs : List Gd) (Ds : List Nat) (h : Gd) (cs : List Value) (k : Nat) (W : World) : Prop :=
  (∀ p ∈ (nbrs h).take k, lstM p.2 ∈ gs) ∧ Cl1 n0 b2 b4 b5 M gc w (SK gs gs.length) W ∧ MkD n0 Ds W ∧ Arr W gB 24 cs
/-- what it ends with where one is not known -/
def RgY (n0 b4 : Nat) (w : World) (gs : List Gd) (Ds : List Nat) (h : Gd) (W : World) : Prop :=
  (∃ p ∈ nbrs h, lstM p.2 ∉ gs) ∧ Arr W b4 4 [.bool false] ∧ Below n0 w W ∧ n0 ≤ W.heap.size ∧ MkD n0 Ds W
section
variable {n0 b2 b4 b5 M gB k l : Nat} {gc : List Value} {w W W' : World} {gs : List Gd} {Ds : List Nat} {h : Gd} {cs : List Value} {o : Obj}
theorem RgC.below (hh : RgC n0 b2 b4 b5 M gB gc w gs Ds h cs k W) (hb : Below W.heap.size W W') : RgC n0 b2 b4 b5 M gB gc w gs Ds h cs k W' :=
  ⟨hh.1, hh.2.1.below hb, hh.2.2.1.keep fun D hD => hb.block D (hh.2.2.1.lt D hD), hh.2.2.2.below hb hh.2.2.2.lt⟩
theorem RgC.put (hh : RgC n0 b2 b4 b5 M gB gc w gs Ds h cs k W) (hl : Lp l W) (hn : n0 ≤ l) : RgC n0 b2 b4 b5 M gB gc w gs Ds h cs k (W.putObj l o) :=
  ⟨hh.1, hh.2.1.putL hl hn, hh.2.2.1.putL hl, hl.nc.arr hh.2.2.2⟩
theorem RgY.below (hh : RgY n0 b4 w gs Ds h W) (hb : Below W.heap.size W W') : RgY n0 b4 w gs Ds h W' :=
  ⟨hh.1, hh.2.1.below hb hh.2.1.lt, hh.2.2.1.trans (hb.mono hh.2.2.2.1), Nat.le_trans hh.2.2.2.1 hb.size, hh.2.2.2.2.keep fun D hD => hb.block D (hh.2.2.2.2.lt D hD)⟩
theorem RgY.put (hh : RgY n0 b4 w gs Ds h W) (hl : Lp l W) (hn : n0 ≤ l) : RgY n0 b4 w gs Ds h (W.putObj l o) :=
  ⟨hh.1, hl.nc.arr hh.2.1, below_put hh.2.2.1 hn, by rw [World.putObj_size]; exact hh.2.2.2.1, hh.2.2.2.2.putL hl⟩
end
end Go.Proofs.YteliflcbegcdlaaGreatDoor

namespace Go.Proofs.YteliflcbegcdlaaGreatDoor
open Go.RowKit Go.Shelf
set_option linter.unusedVariables false
attribute [local go_sem] Oper.semAt_some
/-- .. and holds valid grids alone -/
def ClG (g : Gd) (gs : List Gd) : Prop := (∀ h ∈ gs, VdG h) ∧ ClP g gs
set_option maxHeartbeats 8000000 in
set_option maxRecDepth 100000 in
theorem Closed2_any (vx vo : Value) (X O : List Int) (Al : Option Addr) (nl cl : Nat) (gs : List Gd) (w : World) (hX : Ints w vx X) (hO : Ints w vo O) (lX : X.length ≤ 1000) (lO : O.length ≤ 1000) (hg : Gds w (.slice Al nl cl) gs) (hgl : gs.length ≤ 1000000000) (hgb : ∀ h ∈ gs, h.1.length ≤ 1000 ∧ h.2.length ≤ 1000) (ht : Tb w) :
    Calls Tryz.prog 12 #[.agg #[vx, vo], .slice Al nl cl] w fun e w' => (∃ b, e = .returned (.bool b) ∧ (b = true ↔ ClG (X, O) gs)) ∧ Below w.heap.size w w' := by
  have HX := Lib.hid (fun W (hb : Below w.heap.size w W) => hX.below hb)
  have HO := Lib.hid (fun W (hb : Below w.heap.size w W) => hO.below hb)
  have HT := Lib.hid (fun W (hb : Below w.heap.size w W) => ht.below hb)
  have HGS := Lib.hid (fun W (hb : Below w.heap.size w W) => hg.below hb)
  have HGB := Lib.hid hgb
  have HGL := Lib.hid hgl
  have HV := Lib.hid (fun W (hb : Below w.heap.size w W) => valid_any vx vo X O W (hX.below hb) (hO.below hb) lX lO)
  have hnl := hg.len
  subst hnl
  obtain ⟨A, c, rfl, hc, -⟩ := hX
  obtain ⟨A2, c2, rfl, hc2, -⟩ := hO
  obtain ⟨nX, hnX⟩ : ∃ n, n = X.length := ⟨_, rfl⟩
  obtain ⟨nO, hnO⟩ : ∃ n, n = O.length := ⟨_, rfl⟩
  rw [← hnX] at hc lX HX HV ⊢
  rw [← hnO] at hc2 lO HO HV ⊢
  clear ht hc hc2 lX lO hnX hnO hg hgb hgl
  refine (callsIn_wide (n := 9)).1 ?_
  refine callsIn_of_wp_marks Tryz.func12 rfl trivial ?_ rfl
  simp only [Tryz.ntmps12, List.size_toArray, List.length_cons, List.length_nil, Nat.reduceAdd, Nat.reduceSub, Array.replicate_succ, Array.replicate_zero, List.push_toArray, List.append_toArray, List.nil_append, List.cons_append]
  refine wpIn_wide.2 ?_
  go_upto_region 1 with fail
  obtain ⟨n0, hn0⟩ : ∃ n, n = w.heap.size := ⟨_, rfl⟩
  rw [← hn0] at HX HO HT HV HGS
  have hW : ∀ W, W = ((w.alloc (.cells #[.slice A nX c, .slice A2 nO c2] 24)).alloc (.cells #[.bool false] 4)) → Cl0 n0 w.heap.size (w.heap.size + 1) [.slice A nX c, .slice A2 nO c2] w W := by
    rintro W rfl
    refine ⟨by rw [hn0]; exact ((Below.refl _ _).alloc (Nat.le_refl _) _).alloc (by simp only [World.size_alloc]; omega) _, by rw [hn0]; simp only [World.size_alloc]; omega, (Arr.new w _ [_, _]).alloc _, false, ?_⟩
    have := Arr.new (w.alloc (.cells #[.slice A nX c, .slice A2 nO c2] 24)) 4 [.bool false]
    simp at this
    exact this
  generalize ((w.alloc (.cells #[.slice A nX c, .slice A2 nO c2] 24)).alloc (.cells #[.bool false] 4)) = w1 at hW ⊢
  have E1 := Lib.hid (hW w1 rfl)
  clear hW
  obtain ⟨b2, hb2⟩ : ∃ n, n = w.heap.size := ⟨_, rfl⟩
  rw [← hb2] at E1 ⊢
  obtain ⟨b4, hb4⟩ : ∃ n, n = b2 + 1 := ⟨_, rfl⟩
  rw [← hb4] at E1 ⊢
  have L4 := Lib.hid (show n0 ≤ b4 by omega)
  clear hb2 hb4
  have HN0 := Lib.hid hn0
  clear hn0
  have y0 := E1.out.x2.cell 0
  have y1 := E1.out.x2.cell 1
  by_cases hv : Vd X O
  · have zv : validB X O = true := (validB_iff X O).2 hv
    have HVD := Lib.hid hv
    have HV1 := Lib.hid (HV.out w1 E1.out.bel)
    rw [zv] at HV1
    clear hv zv
    go_upto_region 3 with (go_at_call 28; refine HV1.out.mono ?_; rintro e2 w2 ⟨rfl, hb2⟩)
    have E2 := Lib.hid (E1.out.below hb2)
    clear y0 y1 hb2 HV1 E1
    have hmm := run_mkMap
    go_upto_region 4 with fail
    clear hmm
    have HM0 := Lib.hid (MpB.new w2)
    have hbx := (Below.refl w2.heap.size w2).alloc (Nat.le_refl _) (.map #[] 0)
    have hsz : (w2.alloc (.map #[] 0)).heap.size = w2.heap.size + 1 := by simp only [World.size_alloc]
    obtain ⟨w3, hw3⟩ : ∃ W, W = w2.alloc (.map #[] 0) := ⟨_, rfl⟩
    rw [← hw3] at HM0 hbx hsz ⊢
    clear hw3
    have HLM := Lib.hid (show n0 ≤ w2.heap.size from E2.out.le)
    obtain ⟨M, hM⟩ : ∃ n, n = w2.heap.size := ⟨_, rfl⟩
    rw [← hM] at HM0 HLM hsz ⊢
    have hbx : Below w2.heap.size w2 w3 := hbx
    have E3 := Lib.hid (E2.out.below hbx)
    have hal := (Below.refl w3.heap.size w3).alloc (Nat.le_refl _) (.cells #[.map (some M)] 63)
    have K4 := Lib.hid (show Cl1 n0 b2 b4 w3.heap.size M [.slice A nX c, .slice A2 nO c2] w (SK gs 0) (w3.alloc (.cells #[.map (some M)] 63)) from ⟨E3.out.below hal, Arr.new w3 _ [_], (HM0.out.below hal).imp (fun k => by unfold SK; simp), HLM.out⟩)
    rw [← hsz] at ⊢
    generalize w3.alloc (.cells #[.map (some M)] 63) = w4 at K4 ⊢
    obtain ⟨b5, hb5⟩ : ∃ n, n = w3.heap.size := ⟨_, rfl⟩
    rw [← hb5] at K4 ⊢
    clear hb5 hsz hbx hal E2 E3 HM0 hM
    go_wp2_with fail
    go_loopg [26] gs.length (fun gk s26 wr => ∃ k : Nat, k ≤ gs.length ∧ gk = gs.length - k ∧ s26 = .int .i64 k ∧ Hid (Cl1 n0 b2 b4 b5 M [.slice A nX c, .slice A2 nO c2] w (SK gs k) wr) ∧ Hid (∀ h ∈ gs.take k, lstM h = h) ∧ Hid (∀ h ∈ gs.take k, VdG h))
    case atStart => exact ⟨0, Nat.zero_le _, rfl, rfl, K4, Lib.hid (fun h hh => by simp at hh), Lib.hid (fun h hh => by simp at hh)⟩
    case round =>
      clear K4
      obtain ⟨k, hk, rfl, rfl, K4, HLS, HLV⟩ := hrel
      by_cases hlt : k < gs.length
      · obtain ⟨b, o, A0, m0, d0, A1, m1, d1, rfl, hbl, y0, y1, hgv⟩ := (HGS.out wr K4.out.c0.bel).at_ hlt
        have z1 : (k : Int) < (gs.length : Int) := by omega
        obtain ⟨h, hh⟩ : ∃ h, h = gs[k] := ⟨_, rfl⟩
        rw [← hh] at hgv
        have HH := Lib.hid hh
        have HHB := Lib.hid (show h.1.length ≤ 1000 ∧ h.2.length ≤ 1000 by rw [hh]; exact HGB.out _ (List.getElem_mem hlt))
        have hal := (Below.refl wr.heap.size wr).alloc (Nat.le_refl _) (.cells #[.slice A0 m0 d0, .slice A1 m1 d1] 24)
        have K5 := Lib.hid (K4.out.below hal)
        have HQ := Lib.hid (hgv.below hal)
        have X7 := Lib.hid (show Arr (wr.alloc (.cells #[.slice A0 m0 d0, .slice A1 m1 d1] 24)) wr.heap.size 24 [.slice A0 m0 d0, .slice A1 m1 d1] from Arr.new wr _ [_, _])
        clear hh
        go_upto_region 7 with fail
        generalize wr.alloc (.cells #[.slice A0 m0 d0, .slice A1 m1 d1] 24) = w5 at K5 HQ X7 ⊢
        generalize wr.heap.size = b7 at X7 ⊢
        clear hal y0 y1 hgv K4 hbl
        have y0 := X7.out.cell 0
        have y1 := X7.out.cell 1
        by_cases hhv : VdG h
        rotate_left
        · have HF := Lib.hid (format_bad _ _ h.1 h.2 w5 HQ.out.1 HQ.out.2 HHB.out.1 HHB.out.2 hhv)
          have HNL := Lib.hid (show ¬ ClG (X, O) gs from fun hc => hhv (hc.1 h (by rw [HH.out]; exact List.getElem_mem hlt)))
          clear hhv
          go_upto_region 9 with (go_at_call 29; refine HF.out.mono ?_; rintro e6 w6 ⟨rfl, hb6⟩)
          have K6 := Lib.hid (K5.out.below hb6)
          clear hb6 y0 y1 HF K5 X7 HQ
          obtain ⟨v4, h4⟩ := K6.out.c0.x4
          have y4 := h4.cell 0
          have f4 := h4.frozen 0
          have HR := Lib.hid (h4.set 0 (.bool false))
          have HRB := Lib.hid (K6.out.c0.bel.setCell (p := ⟨b4, 0, none⟩) L4.out (.bool false))
          clear h4
          go_wp2_with fail
          clear y4 f4
          generalize w6.setCell ⟨b4, 0, none⟩ (.bool false) = w9 at HR HRB ⊢
          refine cl_end (n0 := n0) (w := w) rfl (fun W hb => ⟨⟨false, rfl, by simp [HNL.out]⟩, by rw [← HN0.out]; exact hb⟩) [] w9 ⟨by simp, by simp⟩ HR.out HRB.out
        have HHV := Lib.hid hhv
        clear hhv
        have HF := Lib.hid (format_any _ _ h.1 h.2 w5 HQ.out.1 HQ.out.2 HHV.out (HT.out _ K5.out.c0.bel))
        go_wp2_with fail
        refine HF.out.mono ?_
        rintro e6 w6 ⟨rfl, hb6⟩
        have K6 := Lib.hid (K5.out.below hb6)
        have X7b := Lib.hid (X7.out.below hb6 X7.out.lt)
        have HQ6 := Lib.hid (HQ.out.below hb6)
        clear hb6 y0 y1 HF K5 X7 HQ
        have y0 := X7b.out.cell 0
        have y1 := X7b.out.cell 1
        have HCL := Lib.hid (class_any (.agg #[.slice A0 m0 d0, .slice A1 m1 d1]) h w6 HQ6.out.gd HHV.out (HT.out _ K6.out.c0.bel))
        go_wp2_with fail
        refine HCL.out.mono ?_
        rintro e7 w7 ⟨v7, rfl, hg7, hb7⟩
        obtain ⟨q7, rfl, hq7⟩ := hg7.gv
        obtain ⟨⟨A7, n7, c7⟩, ⟨A8, n8, c8⟩⟩ := q7
        simp only [sv]
        have hal := (Below.refl w7.heap.size w7).alloc (Nat.le_refl _) (.cells #[.slice A7 n7 c7, .slice A8 n8 c8] 24)
        have K7 := Lib.hid ((K6.out.below hb7).below hal)
        clear hb7 hg7 hq7 y0 y1 HCL K6 X7b HQ6
        rw [show fmG (h.1, h.2) = fmG h from rfl]
        by_cases hls : lstM h = h
        · rw [hls]
          obtain ⟨tx, htx⟩ : ∃ t, t = fmG h := ⟨_, rfl⟩
          have zs := bytes_eq tx
          rw [← htx]
          have HTX := Lib.hid htx
          have HLS2 := Lib.hid hls
          clear hls htx
          go_upto_region 13 with fail
          generalize w7.alloc (.cells #[.slice A7 n7 c7, .slice A8 n8 c8] 24) = w8 at K7 ⊢
          clear hal zs
          have y5 := K7.out.x5.cell 0
          obtain ⟨w9, hr, hp, hf, hz, hbl⟩ := mpb_put (P := Tryz.prog) K7.out.mp Tryz.underlying63 Tryz.underlying9 tx
          have K9 := Lib.hid (show Cl1 n0 b2 b4 b5 M [.slice A nX c, .slice A2 nO c2] w (SK gs (k + 1)) w9 from ⟨⟨K7.out.c0.bel.trans (hbl n0 K7.out.leM), by rw [hz]; exact K7.out.c0.le, (hf b2 (Ne.symm (K7.out.mp.ne K7.out.c0.x2))).trans K7.out.c0.x2, by obtain ⟨v, h4⟩ := K7.out.c0.x4; exact ⟨v, (hf b4 (Ne.symm (K7.out.mp.ne h4))).trans h4⟩⟩, (hf b5 (Ne.symm (K7.out.mp.ne K7.out.x5))).trans K7.out.x5, hp.imp (fun x => by rw [SK.succ hlt, HTX.out, HH.out]), K7.out.leM⟩)
          have HV9 := Lib.hid (show ∀ q ∈ gs.take (k + 1), VdG q from fun q hq => by
            rw [List.take_succ_eq_append_getElem hlt] at hq
            rcases List.mem_append.1 hq with hq | hq
            · exact HLV.out q hq
            · rw [List.mem_singleton.1 hq, ← HH.out]; exact HHV.out)
          have HL9 := Lib.hid (show ∀ q ∈ gs.take (k + 1), lstM q = q from fun q hq => by
            rw [List.take_succ_eq_append_getElem hlt] at hq
            rcases List.mem_append.1 hq with hq | hq
            · exact HLS.out q hq
            · rw [List.mem_singleton.1 hq, ← HH.out]; exact HLS2.out)
          unfold kyS at hr
          clear hp hf hz hbl K7
          have hgl := HGL.out
          go_wp2_with fail
          go_roundg (gs.length - (k + 1))
          case measure => omega
          case rel =>
            exact ⟨k + 1, by omega, rfl, by go_num, K9, HL9, HV9⟩
        · have zs : (fmG (lstM h) == fmG h) = false := beq_eq_false_iff_ne.2 (fun e => hls (fmG_inj (lstM_vd HHV.out) HHV.out e))
          have HNL := Lib.hid (show ¬ ClG (X, O) gs from fun hc => hls (hc.2.2.1 h (by rw [HH.out]; exact List.getElem_mem hlt)))
          clear hls
          go_upto_region 12 with fail
          generalize w7.alloc (.cells #[.slice A7 n7 c7, .slice A8 n8 c8] 24) = w8 at K7 ⊢
          clear hal zs
          obtain ⟨v4, h4⟩ := K7.out.c0.x4
          have y4 := h4.cell 0
          have f4 := h4.frozen 0
          have HR := Lib.hid (h4.set 0 (.bool false))
          have HRB := Lib.hid (K7.out.c0.bel.setCell (p := ⟨b4, 0, none⟩) L4.out (.bool false))
          clear h4
          go_wp2_with fail
          clear y4 f4
          generalize w8.setCell ⟨b4, 0, none⟩ (.bool false) = w9 at HR HRB ⊢
          refine cl_end (n0 := n0) (w := w) rfl (fun W hb => ⟨⟨false, rfl, by simp [HNL.out]⟩, by rw [← HN0.out]; exact hb⟩) [] w9 ⟨by simp, by simp⟩ HR.out HRB.out
      · obtain rfl : k = gs.length := by omega
        clear hk
        rw [List.take_length] at HLS HLV
        have HGV := HLV
        have y0 := K4.out.c0.x2.cell 0
        have y1 := K4.out.c0.x2.cell 1
        have HCG := Lib.hid (class_any (.agg #[.slice A nX c, .slice A2 nO c2]) (X, O) wr ⟨_, _, _, _, _, _, rfl, HX.out wr K4.out.c0.bel, HO.out wr K4.out.c0.bel⟩ HVD.out (HT.out _ K4.out.c0.bel))
        go_wp2_with fail
        refine HCG.out.mono ?_
        rintro e7 w7 ⟨v7, rfl, hg7, hb7⟩
        obtain ⟨q7, rfl, hq7⟩ := hg7.gv
        obtain ⟨⟨A7, n7, c7⟩, ⟨A8, n8, c8⟩⟩ := q7
        simp only [sv]
        have hal := (Below.refl w7.heap.size w7).alloc (Nat.le_refl _) (.cells #[.slice A7 n7 c7, .slice A8 n8 c8] 24)
        have K7 := Lib.hid ((K4.out.below hb7).below hal)
        clear hb7 hg7 hq7 y0 y1 HCG K4
        go_upto_region 16 with fail
        generalize w7.alloc (.cells #[.slice A7 n7 c7, .slice A8 n8 c8] 24) = w8 at K7 ⊢
        clear hal
        have y5 := K7.out.x5.cell 0
        by_cases hin : lstM (X, O) ∈ gs
        · have yl := mpb_yes (P := Tryz.prog) K7.out.mp Tryz.underlying63 Tryz.underlying9 ((SK.mem HGV.out (lstM_vd (g := (X, O)) HVD.out)).2 hin)
          unfold kyS at yl
          have HIN := Lib.hid hin
          clear hin
          go_upto_region 18 with fail
          clear yl y5
          have HMK := Lib.hid (show MkD n0 [] w8 from ⟨by simp, by simp⟩)
          have hgl := HGL.out
          go_wp2_with fail
          refine wp_loop_ghost_k (fun k' a' w' => ∃ (ds : List Deferred) (k : Nat) (Ds : List Nat), k ≤ gs.length ∧ k' = gs.length - k ∧ Ds.map mrkD = ds ∧ Hid (Cl1 n0 b2 b4 b5 M [.slice A nX c, .slice A2 nO c2] w (SK gs gs.length) w' ∧ MkD n0 Ds w') ∧ Hid (∀ h ∈ gs.take k, ∀ ms z, (ms, z) ∈ nbrs h → lstM z ∈ gs) ∧ ∃ u : Nat → Value, a' = ⟨[.agg #[.slice A nX c, .slice A2 nO c2], .slice Al gs.length cl, .pointer (some ⟨b2, 0, none⟩), u 3, .pointer (some ⟨b4, 0, none⟩), .pointer (some ⟨b5, 0, none⟩), u 6, u 7, u 8, u 9, u 10, u 11, u 12, u 13, u 14, u 15, u 16, u 17, u 18, u 19, u 20, u 21, u 22, u 23, u 24, u 25, u 26, u 27, u 28, u 29, u 30, u 31, u 32, u 33, u 34, u 35, u 36, u 37, u 38, u 39, u 40, u 41, u 42, u 43, u 44, u 45, u 46, u 47, u 48, u 49, u 50, u 51, u 52, u 53, u 54, u 55, u 56, .slice Al gs.length cl, .int .i64 (gs.length : Int), .int .i64 (k : Int), u 60, u 61, u 62, u 63, u 64, u 65, u 66, u 67, u 68, u 69, u 70, u 71, u 72, u 73, u 74, u 75, u 76].toArray, ds⟩) gs.length ?_ ?_
          · exact ⟨[], 0, [], Nat.zero_le _, rfl, rfl, Lib.hid ⟨K7.out, HMK.out⟩, Lib.hid (fun h hh => by simp at hh), exl _ (fun u => let ds := []; let k := 0; ⟨[.agg #[.slice A nX c, .slice A2 nO c2], .slice Al gs.length cl, .pointer (some ⟨b2, 0, none⟩), u 3, .pointer (some ⟨b4, 0, none⟩), .pointer (some ⟨b5, 0, none⟩), u 6, u 7, u 8, u 9, u 10, u 11, u 12, u 13, u 14, u 15, u 16, u 17, u 18, u 19, u 20, u 21, u 22, u 23, u 24, u 25, u 26, u 27, u 28, u 29, u 30, u 31, u 32, u 33, u 34, u 35, u 36, u 37, u 38, u 39, u 40, u 41, u 42, u 43, u 44, u 45, u 46, u 47, u 48, u 49, u 50, u 51, u 52, u 53, u 54, u 55, u 56, .slice Al gs.length cl, .int .i64 (gs.length : Int), .int .i64 (k : Int), u 60, u 61, u 62, u 63, u 64, u 65, u 66, u 67, u 68, u 69, u 70, u 71, u 72, u 73, u 74, u 75, u 76].toArray, ds⟩) rfl⟩
          · clear K7 HMK
            rintro gk _ wr ⟨ds, k, Ds, hk, rfl, hds, KK, HNB, u, rfl⟩
            try dsimp only
            intro J K hJ hK
            by_cases hlt : k < gs.length
            · obtain ⟨b, o, A5, n5, c5, A6, n6, c6, rfl, hbl, y0, y1, hgv⟩ := (HGS.out wr KK.out.1.c0.bel).at_ hlt
              obtain ⟨h, hh⟩ : ∃ h, h = gs[k] := ⟨_, rfl⟩
              rw [← hh] at hgv
              have HH := Lib.hid hh
              have HVH := Lib.hid (show VdG h by rw [hh]; exact HGV.out _ (List.getElem_mem hlt))
              have hal := (Below.refl wr.heap.size wr).alloc (Nat.le_refl _) (.cells #[.slice A5 n5 c5, .slice A6 n6 c6] 24)
              have K9 := Lib.hid (KK.out.1.below hal)
              have M9 := Lib.hid (KK.out.2.keep fun D hD => hal.block D (KK.out.2.lt D hD))
              have HQ9 := Lib.hid (hgv.below hal)
              have X15 := Lib.hid (show Arr (wr.alloc (.cells #[.slice A5 n5 c5, .slice A6 n6 c6] 24)) wr.heap.size 24 [.slice A5 n5 c5, .slice A6 n6 c6] from Arr.new wr _ [_, _])
              clear hh
              go_upto_region 21 with fail
              generalize wr.alloc (.cells #[.slice A5 n5 c5, .slice A6 n6 c6] 24) = w11 at K9 M9 HQ9 X15 ⊢
              obtain ⟨b15, hb15⟩ : ∃ n, n = wr.heap.size := ⟨_, rfl⟩
              rw [← hb15] at X15 ⊢
              clear hb15 hal y0 y1 hgv KK hbl
              have y0 := X15.out.cell 0
              have y1 := X15.out.cell 1
              have HSZ := Lib.hid (neighbors_any (.agg #[.slice A5 n5 c5, .slice A6 n6 c6]) (.bool false) w11 ⟨_, _, rfl⟩)
              go_wp2_with (go_at_call 31; refine HSZ.out.mono ?_; rintro e12 w12 ⟨a1, a2, ha, rfl, XB, hb12, hsz12⟩; injection ha with ha; injection ha with ha; injection ha with ha1 ha; injection ha with ha2 _; subst ha1; subst ha2)
              have K12 := Lib.hid (K9.out.below hb12)
              have M12 := Lib.hid (M9.out.keep fun D hD => hb12.block D (M9.out.lt D hD))
              have HQ12 := Lib.hid (HQ9.out.below hb12)
              have HGE := Lib.hid (show n0 ≤ w11.heap.size from K9.out.c0.le)
              have HGL2 := Lib.hid hsz12
              have HXB := Lib.hid XB
              generalize w11.heap.size = gB at HXB HGE HGL2 ⊢
              clear XB hsz12 hb12 HSZ X15 HQ9 K9 M9 y0 y1
              refine act_gen (fun U => ⟨(.agg #[.slice A nX c, .slice A2 nO c2] :: .slice (some ⟨b, o, none⟩) gs.length cl :: .pointer (some ⟨b2, 0, none⟩) :: U 3 :: .pointer (some ⟨b4, 0, none⟩) :: .pointer (some ⟨b5, 0, none⟩) :: U 6 :: U 7 :: U 8 :: U 9 :: U 10 :: U 11 :: U 12 :: U 13 :: U 14 :: .pointer (some ⟨b15, 0, none⟩) :: U 16 :: U 17 :: U 18 :: U 19 :: U 20 :: U 21 :: U 22 :: U 23 :: U 24 :: U 25 :: U 26 :: U 27 :: U 28 :: U 29 :: U 30 :: U 31 :: U 32 :: U 33 :: U 34 :: U 35 :: U 36 :: U 37 :: U 38 :: U 39 :: U 40 :: U 41 :: U 42 :: U 43 :: U 44 :: U 45 :: U 46 :: U 47 :: U 48 :: U 49 :: U 50 :: U 51 :: U 52 :: U 53 :: U 54 :: U 55 :: U 56 :: .slice (some ⟨b, o, none⟩) gs.length cl :: .int .i64 (gs.length : Int) :: .int .i64 (k : Int) :: U 60 :: U 61 :: U 62 :: U 63 :: .func (.func 47) #[] #[.pointer (some ⟨gB, 0, none⟩)] :: U 65 :: U 66 :: U 67 :: U 68 :: U 69 :: U 70 :: U 71 :: U 72 :: U 73 :: U 74 :: U 75 :: U 76 :: []).toArray, ds⟩) (fun U => ?_) rfl
              refine (wpIn_wide (n := 9)).1 ?_
              have HNL := Lib.hid (show n0 ≤ w12.heap.size from K12.out.c0.le)
              refine wpIn_range_tell (n := 9) (by decide) (gf := 47) (lb := #[.pointer (some ⟨gB, 0, none⟩)]) rfl (enters_of Tryz.func47 (by kernel_rfl) rfl) rfl
                (m := (nbrs h).length) (Rd := NbRd h) (Kp := Kq (w12.heap.size + 1) gB)
                (fun W1 hb hl => nb_tells (9 - 1) gB (w12.heap.size + 1) (by decide) A5 A6 n5 c5 n6 c6 h W1 HVH.out (by omega) (HXB.out.below hb HXB.out.lt) ⟨HQ12.out.1.below hb, trivial⟩ ⟨HQ12.out.2.below hb, trivial⟩)
                (fun A B C a b => a.trans b) (fun A o hl => Kq.put (by have := HGL2.out; omega) A o hl)
                (RgC n0 b2 b4 b5 M gB [.slice A nX c, .slice A2 nO c2] w gs Ds h [.slice A5 n5 c5, .slice A6 n6 c6]) (RgY n0 b4 w gs Ds h)
                (fun k A B hh hb => hh.below hb) (fun k A o hl hh => hh.put hl (by have := HNL.out; omega)) (fun A B hh hb => hh.below hb) (fun A o hl hh => hh.put hl (by have := HNL.out; omega))
                ⟨fun p hp => by simp at hp, K12.out, M12.out, HXB.out⟩
                (fun kk v ug a' W W1 => AxE (fun v ug b17 => ⟨(.agg #[.slice A nX c, .slice A2 nO c2] :: .slice (some ⟨b, o, none⟩) gs.length cl :: .pointer (some ⟨b2, 0, none⟩) :: U 3 :: .pointer (some ⟨b4, 0, none⟩) :: .pointer (some ⟨b5, 0, none⟩) :: U 6 :: U 7 :: U 8 :: U 9 :: U 10 :: U 11 :: U 12 :: U 13 :: U 14 :: .pointer (some ⟨b15, 0, none⟩) :: U 16 :: .pointer (some ⟨b17, 0, none⟩) :: U 18 :: U 19 :: U 20 :: U 21 :: U 22 :: U 23 :: U 24 :: U 25 :: U 26 :: U 27 :: U 28 :: U 29 :: U 30 :: U 31 :: U 32 :: U 33 :: U 34 :: U 35 :: U 36 :: U 37 :: U 38 :: U 39 :: U 40 :: U 41 :: U 42 :: U 43 :: U 44 :: U 45 :: U 46 :: U 47 :: U 48 :: U 49 :: U 50 :: U 51 :: U 52 :: U 53 :: U 54 :: U 55 :: U 56 :: .slice (some ⟨b, o, none⟩) gs.length cl :: .int .i64 (gs.length : Int) :: .int .i64 (k : Int) :: U 60 :: U 61 :: U 62 :: U 63 :: .func (.func 47) #[] #[.pointer (some ⟨gB, 0, none⟩)] :: v :: ug :: U 67 :: U 68 :: U 69 :: U 70 :: U 71 :: U 72 :: U 73 :: U 74 :: U 75 :: U 76 :: []).toArray, []⟩) v ug a' W1)
                (fun k v ug a' W W1 o hl hh => by
                  obtain ⟨q, b17, h1, h2, h3⟩ := hh
                  exact ⟨q, b17, h1, h2, hl.nc.arr h3⟩)
                ?_ ?_ (fun k v u A B hh hb => hh.below hb) (fun k v u A o hl hh => hh.put hl) (fun A B hb => Kq.of_below hb) ?_ ?_
              · rintro k2 v ug W hk2 hI ⟨ms, g', hgk, hmv, hgd⟩ hsz
                obtain ⟨⟨⟨A9, n9, c9⟩, ⟨A10, n10, c10⟩⟩, rfl, hq⟩ := hgd.gv
                simp only [sv, List.zip_toArray, List.zip_cons_cons, List.zip_nil_right, List.foldl_toArray, List.foldl_cons, List.foldl_nil, List.setIfInBounds_toArray, List.set_cons_succ, List.set_cons_zero]
                gi_wp2_with fail
                refine ⟨⟨((A9, n9, c9), (A10, n10, c10)), W.heap.size, rfl, rfl, ?_⟩, ?_⟩
                · exact Arr.new W _ [_, _]
                · exact (Below.refl _ W).alloc (Nat.le_refl _) _
              · rintro k2 v ug a' W W1 hk2 ⟨hnb, hk1, hmk, hxB⟩ ⟨q, b17, rfl, rfl, hx17⟩ ⟨ms, g', hgk, hmv, hgd⟩ hsz
                have hq := hgd.gq
                have hvg := nbrs_vd HVH.out (List.mem_of_getElem? hgk)
                obtain ⟨⟨A9, n9, c9⟩, ⟨A10, n10, c10⟩⟩ := q
                have HCL := Lib.hid (class_any (.agg #[.slice A9 n9 c9, .slice A10 n10 c10]) g' W1 hq.gd hvg (HT.out _ hk1.c0.bel))
                simp only [sv] at hx17 ⊢
                have HK1 := Lib.hid hk1
                have HMK1 := Lib.hid hmk
                have HXB2 := Lib.hid hxB
                have HNB2 := Lib.hid hnb
                have HGK := Lib.hid hgk
                have HVG := Lib.hid hvg
                have y17 := hx17.cell 0
                have y18 := hx17.cell 1
                clear hnb hk1 hmk hxB hgk hvg hq hgd hmv hsz hk2
                by_cases hin : lstM g' ∈ gs
                · have HIN2 := Lib.hid hin
                  clear hin hx17
                  gi_wp2_with (refine ⟨trivial, ?_⟩; gi_at_call 30; refine (CallsIn.inRound (w12.heap.size + 1) (callsIn_wide.2 HCL.out)).mono ?_; rintro e14 w14 ⟨v14, rfl, hg14, hb14⟩; obtain ⟨⟨⟨A7, n7, c7⟩, ⟨A8, n8, c8⟩⟩, rfl, hq14⟩ := hg14.gv; simp only [sv]; have hal := (Below.refl w14.heap.size w14).alloc (Nat.le_refl _) (.cells #[.slice A7 n7 c7, .slice A8 n8 c8] 24); have K14 := Lib.hid ((HK1.out.below hb14).below hal); have yl := mpb_yes (P := Tryz.prog) K14.out.mp Tryz.underlying63 Tryz.underlying9 ((SK.mem HGV.out (lstM_vd HVG.out)).2 HIN2.out); unfold kyS at yl; have y5 := K14.out.x5.cell 0; have HB14 := Lib.hid (hb14.trans (hal.mono hb14.size)); clear y17 y18 hb14 hal hg14 hq14)
                  refine ⟨⟨fun p hp => ?_, K14.out, HMK1.out.keep fun D hD => HB14.out.block D (HMK1.out.lt D hD), HXB2.out.below HB14.out HXB2.out.lt⟩, Kq.of_below HB14.out, fun r t => t.below HB14.out⟩
                  have hkl := (List.getElem?_eq_some_iff.1 HGK.out).1
                  rw [List.take_succ_eq_append_getElem hkl] at hp
                  rcases List.mem_append.1 hp with hp | hp
                  · exact HNB2.out p hp
                  · rw [List.mem_singleton.1 hp, (List.getElem?_eq_some_iff.1 HGK.out).2]; exact HIN2.out
                · have HIN2 := Lib.hid hin
                  clear hin hx17
                  gi_wp2_with (refine ⟨trivial, ?_⟩; gi_at_call 30; refine (CallsIn.inRound (w12.heap.size + 1) (callsIn_wide.2 HCL.out)).mono ?_; rintro e14 w14 ⟨v14, rfl, hg14, hb14⟩; obtain ⟨⟨⟨A7, n7, c7⟩, ⟨A8, n8, c8⟩⟩, rfl, hq14⟩ := hg14.gv; simp only [sv]; have hal := (Below.refl w14.heap.size w14).alloc (Nat.le_refl _) (.cells #[.slice A7 n7 c7, .slice A8 n8 c8] 24); have K14 := Lib.hid ((HK1.out.below hb14).below hal); have yl := mpb_no (P := Tryz.prog) K14.out.mp Tryz.underlying63 Tryz.underlying9 (zero_bool _) (fun hs => HIN2.out ((SK.mem HGV.out (lstM_vd HVG.out)).1 hs)); unfold kyS at yl; have y5 := K14.out.x5.cell 0; have HB14 := Lib.hid (hb14.trans (hal.mono hb14.size)); obtain ⟨v4, h4⟩ := K14.out.c0.x4; have y4 := h4.cell 0; have f4 := h4.frozen 0; have H4 := Lib.hid h4; clear y17 y18 hb14 hal hg14 hq14 h4)
                  exact ⟨⟨⟨_, List.mem_of_getElem? HGK.out, HIN2.out⟩, H4.out.set 0 _, K14.out.c0.bel.setCell (p := ⟨b4, 0, none⟩) L4.out _, by have h9 := K14.out.c0.le; simpa using h9, mk_set1 (HMK1.out.keep fun D hD => HB14.out.block D (HMK1.out.lt D hD)) H4.out _⟩, fun r t => two6_set (t.below HB14.out) H4.out⟩
              · rintro W ⟨hn3, hk3, hm3, _⟩ hmark
                rw [List.take_length] at hn3
                have HK3 := Lib.hid (show Cl1 n0 b2 b4 b5 M [.slice A nX c, .slice A2 nO c2] w (SK gs gs.length) W ∧ MkD n0 (w12.heap.size :: Ds) W from ⟨hk3, List.nodup_cons.2 ⟨fun hm => by have := M12.out.lt _ hm; omega, hm3.1⟩, fun D hD => by
                  rcases List.mem_cons.1 hD with rfl | hD
                  · exact ⟨HNL.out, hmark⟩
                  · exact hm3.2 D hD⟩)
                have HNB3 := Lib.hid (show ∀ q ∈ gs.take (k + 1), ∀ ms z, (ms, z) ∈ nbrs q → lstM z ∈ gs from fun q hq ms z hz => by
                  rw [List.take_succ_eq_append_getElem hlt] at hq
                  rcases List.mem_append.1 hq with hq | hq
                  · exact HNB.out q hq ms z hz
                  · rw [List.mem_singleton.1 hq, ← HH.out] at hz
                    exact hn3 _ hz)
                have HDS2 := Lib.hid (show (w12.heap.size :: Ds).map mrkD = { target := .collected w12.heap.size, args := #[] } :: ds from by rw [List.map_cons, hds]; rfl)
                have hgl := HGL.out
                clear hn3 hk3 hm3 hmark
                go_wp2_with fail
                refine Handed.intro (gs.length - (k + 1)) (by omega) ?_
                apply hJ
                exact ⟨_, k + 1, w12.heap.size :: Ds, by omega, rfl, HDS2.out, HK3, HNB3, exl _ (fun u => ⟨[.agg #[.slice A nX c, .slice A2 nO c2], .slice (some ⟨b, o, none⟩) gs.length cl, .pointer (some ⟨b2, 0, none⟩), u 3, .pointer (some ⟨b4, 0, none⟩), .pointer (some ⟨b5, 0, none⟩), u 6, u 7, u 8, u 9, u 10, u 11, u 12, u 13, u 14, u 15, u 16, u 17, u 18, u 19, u 20, u 21, u 22, u 23, u 24, u 25, u 26, u 27, u 28, u 29, u 30, u 31, u 32, u 33, u 34, u 35, u 36, u 37, u 38, u 39, u 40, u 41, u 42, u 43, u 44, u 45, u 46, u 47, u 48, u 49, u 50, u 51, u 52, u 53, u 54, u 55, u 56, .slice (some ⟨b, o, none⟩) gs.length cl, .int .i64 (gs.length : Int), .int .i64 ((k + 1 : Nat) : Int), u 60, u 61, u 62, u 63, u 64, u 65, u 66, u 67, u 68, u 69, u 70, u 71, u 72, u 73, u 74, u 75, u 76].toArray, { target := .collected w12.heap.size, args := #[] } :: ds⟩) rfl⟩
              · rintro W ⟨⟨p, hp, hp2⟩, h2, h3, h4, h5⟩ hmark
                have HNLY := Lib.hid (show ¬ ClG (X, O) gs from fun hc => hp2 (hc.2.2.2.2 h (by rw [HH.out]; exact List.getElem_mem hlt) p.1 p.2 hp))
                have HMX := Lib.hid (show MkD n0 (w12.heap.size :: Ds) W from ⟨List.nodup_cons.2 ⟨fun hm => by have := M12.out.lt _ hm; omega, h5.1⟩, fun D hD => by
                  rcases List.mem_cons.1 hD with rfl | hD
                  · exact ⟨HNL.out, hmark⟩
                  · exact h5.2 D hD⟩)
                have HRX := Lib.hid h2
                have HBX := Lib.hid h3
                have HDS2 := Lib.hid (show (w12.heap.size :: Ds).map mrkD = { target := .collected w12.heap.size, args := #[] } :: ds from by rw [List.map_cons, hds]; rfl)
                clear hp hp2 h2 h3 h4 h5 hmark
                gi_wp2_with fail
                rw [← HDS2.out]
                refine cl_end (n0 := n0) (w := w) rfl (fun W hb => ⟨⟨false, rfl, by simp [HNLY.out]⟩, by rw [← HN0.out]; exact hb⟩) (w12.heap.size :: Ds) W HMX.out HRX.out HBX.out
            · obtain rfl : k = gs.length := by omega
              rw [List.take_length] at HNB
              have HYE := Lib.hid (show ClG (X, O) gs from ⟨HGV.out, HVD.out, HLS.out, HIN.out, HNB.out⟩)
              clear hk
              obtain ⟨v4, h4⟩ := KK.out.1.c0.x4
              have y4 := h4.cell 0
              have f4 := h4.frozen 0
              have HR := Lib.hid (h4.set 0 (.bool true))
              have HRB := Lib.hid (KK.out.1.c0.bel.setCell (p := ⟨b4, 0, none⟩) L4.out (.bool true))
              have HRM := Lib.hid (mk_set1 KK.out.2 h4 (.bool true))
              clear h4
              go_wp2_with fail
              clear y4 f4
              generalize wr.setCell ⟨b4, 0, none⟩ (.bool true) = w9 at HR HRB HRM ⊢
              subst hds
              refine cl_end (n0 := n0) (w := w) rfl (fun W hb => ⟨⟨true, rfl, by simp [HYE.out]⟩, by rw [← HN0.out]; exact hb⟩) Ds w9 HRM.out HR.out HRB.out
        · have yl := mpb_no (P := Tryz.prog) K7.out.mp Tryz.underlying63 Tryz.underlying9 (zero_bool _) (fun hs => hin ((SK.mem HGV.out (lstM_vd (g := (X, O)) HVD.out)).1 hs))
          unfold kyS at yl
          have HNL := Lib.hid (show ¬ ClG (X, O) gs from fun hc => hin hc.2.2.2.1)
          clear hin
          go_upto_region 17 with fail
          obtain ⟨v4, h4⟩ := K7.out.c0.x4
          have y4 := h4.cell 0
          have f4 := h4.frozen 0
          have HR := Lib.hid (h4.set 0 (.bool false))
          have HRB := Lib.hid (K7.out.c0.bel.setCell (p := ⟨b4, 0, none⟩) L4.out (.bool false))
          clear h4
          go_wp2_with fail
          clear y4 f4
          generalize w8.setCell ⟨b4, 0, none⟩ (.bool false) = w9 at HR HRB ⊢
          refine cl_end (n0 := n0) (w := w) rfl (fun W hb => ⟨⟨false, rfl, by simp [HNL.out]⟩, by rw [← HN0.out]; exact hb⟩) [] w9 ⟨by simp, by simp⟩ HR.out HRB.out
  · have zv : validB X O = false := by
      cases h : validB X O with
      | false => rfl
      | true => exact absurd ((validB_iff X O).1 h) hv
    have HVD := Lib.hid (show ¬ ClG (X, O) gs from fun hc => hv hc.2.1)
    have HV1 := Lib.hid (HV.out w1 E1.out.bel)
    rw [zv] at HV1
    clear hv zv
    go_upto_region 2 with (go_at_call 28; refine HV1.out.mono ?_; rintro e2 w2 ⟨rfl, hb2⟩)
    have E2 := Lib.hid (E1.out.below hb2)
    clear y0 y1 hb2 HV1 E1
    obtain ⟨v4, h4⟩ := E2.out.x4
    have y4 := h4.cell 0
    have f4 := h4.frozen 0
    have HR := Lib.hid (h4.set 0 (.bool false))
    have HRB := Lib.hid (E2.out.bel.setCell (p := ⟨b4, 0, none⟩) L4.out (.bool false))
    clear h4
    go_wp2_with fail
    clear y4 f4
    generalize w2.setCell ⟨b4, 0, none⟩ (.bool false) = w9 at HR HRB ⊢
    refine cl_end (n0 := n0) (w := w) rfl (fun W hb => ⟨⟨false, rfl, by simp [HVD.out]⟩, by rw [← HN0.out]; exact hb⟩) [] w9 ⟨by simp, by simp⟩ HR.out HRB.out
end Go.Proofs.YteliflcbegcdlaaGreatDoor

namespace Go.Proofs.YteliflcbegcdlaaGreatDoor
open Go.RowKit Go.Shelf
set_option linter.unusedVariables false
theorem Run.no_found {most : Int} {s : St} {r : Res} {short : Bool} (h : Run most short s r) : short = false → ∀ K c, r ≠ .found K c := by
  induction h with
  | done _ => intro _ K c e; cases e
  | found _ h _ => intro e; rw [e] at h; cases h
  | fuel _ _ _ => intro _ K c e; cases e
  | step _ _ _ _ ih => exact ih
theorem Exq.no_found {most : Int} {g : Gd} {K : List En} {c : Gd} (h : Exq most false g (.found K c)) : False := by
  cases h with
  | some _ hr => exact hr.no_found rfl K c rfl
/-- what Reached answers -/
def ReP (most : Int) (g : Gd) (w : World) (e : Ending) (w' : World) : Prop :=
  Below w.heap.size w w' ∧
  ((¬ VdG g ∧ e = .returned (.tuple #[.slice none 0 0, .int .i64 1])) ∨
   (VdG g ∧ 1 < comp g.1 g.2 ∧ e = .returned (.tuple #[.slice none 0 0, .int .i64 16])) ∨
   (VdG g ∧ comp g.1 g.2 ≤ 1 ∧ ∃ r, Exq most false g r ∧
     ((r = .fuel ∧ e = .returned (.tuple #[.slice none 0 0, .int .i64 13])) ∨
      ∃ K v gs, r = .done K ∧ gs.Perm (K.map En.key) ∧ SrtG gs ∧ Gds w' v gs ∧ e = .returned (.tuple #[v, .int .i64 0]))))
set_option maxHeartbeats 4000000 in
set_option maxRecDepth 100000 in
theorem Reached_anyW (vx vo : Value) (X O : List Int) (most : Int) (w : World) (hX : Ints w vx X) (hO : Ints w vo O) (lX : X.length ≤ 1000) (lO : O.length ≤ 1000) (hm : most ≤ 90000000 ∨ X.length ≤ 5) (ht : Tb w) :
    Calls Tryz.prog 7 #[.agg #[vx, vo], .int .i64 most] w (ReP most (X, O) w) := by
  have HE := Lib.hid (fun W (hb : Below w.heap.size w W) => explore_anyW vx vo X O most false W (hX.below hb) (hO.below hb) lX lO hm (ht.below hb))
  obtain ⟨A, c, rfl, -, -⟩ := hX
  obtain ⟨A2, c2, rfl, -, -⟩ := hO
  have HM := Lib.hid hm
  clear lX lO hm ht
  go_enter Tryz.func7, Tryz.ntmps7
  go_upto_region 1 with fail
  have hal := (Below.refl w.heap.size w).alloc (Nat.le_refl _) (.cells #[.slice A X.length c, .slice A2 O.length c2] 24)
  have X0 := Lib.hid (show Arr (w.alloc (.cells #[.slice A X.length c, .slice A2 O.length c2] 24)) w.heap.size 24 [.slice A X.length c, .slice A2 O.length c2] from Arr.new w _ [_, _])
  have HB1 := Lib.hid hal
  generalize w.alloc (.cells #[.slice A X.length c, .slice A2 O.length c2] 24) = w1 at X0 HB1 ⊢
  clear hal
  have y0 := X0.out.cell 0
  have y1 := X0.out.cell 1
  have HE1 := Lib.hid (HE.out w1 HB1.out)
  clear HE
  go_wp2_with fail
  refine HE1.out.mono ?_
  rintro e2 w2 ⟨hb2, hc⟩
  have HB2 := Lib.hid (HB1.out.trans (hb2.mono HB1.out.size))
  have hSZ := HB1.out.size
  clear y0 y1 HE1
  rcases hc with ⟨hv, rfl⟩ | ⟨hv, hc, rfl⟩ | ⟨hv, hc, r, hr, (⟨rfl, rfl⟩ | ⟨K, W, gS, p, hsi, hst, how, (⟨rfl, rfl⟩ | ⟨cl, rfl, rfl⟩)⟩)⟩
  · have HVD := Lib.hid hv
    clear hv
    go_wp2_with fail
    refine bodyPost_ret (results_tmp2 rfl _ _ _) rfl ?_
    exact ⟨HB2.out, .inl ⟨HVD.out, rfl⟩⟩
  · have HVD := Lib.hid (And.intro hv hc)
    clear hv hc
    go_wp2_with fail
    refine bodyPost_ret (results_tmp2 rfl _ _ _) rfl ?_
    exact ⟨HB2.out, .inr (.inl ⟨HVD.out.1, HVD.out.2, rfl⟩)⟩
  · have HVD := Lib.hid (And.intro hv (And.intro hc hr))
    clear hv hc hr
    go_wp2_with fail
    refine bodyPost_ret (results_tmp2 rfl _ _ _) rfl ?_
    exact ⟨HB2.out, .inr (.inr ⟨HVD.out.1, HVD.out.2.1, _, HVD.out.2.2, .inl ⟨rfl, rfl⟩⟩)⟩
  · have HVD := Lib.hid (And.intro hv (And.intro hc hr))
    obtain ⟨cs, hq, hal⟩ := hsi.cls
    have hds := hsi.hd
    have hne : sBlk p.vC ≠ some gS := by
      intro e
      obtain ⟨cs2, fr, h2⟩ := hq.typ _ e
      have h3 : w2.heap[gS]? = some _ := hds
      rw [h2] at h3
      injection h3 with h3
      injection h3 with _ h3 _
      exact absurd h3 (by decide)
    have hK : 0 < K.length ∧ K.length ≤ 90000000 := by
      constructor
      · obtain ⟨A3, hA, hn, _⟩ := (Exq.pl (g := (X, O)) hv hr).1 K rfl
        have := hA.1
        cases A3 with
        | nil => exact absurd rfl hn
        | cons a t => simp at this; omega
      · rcases HM.out with hm | hm
        · have := hr.most K (.inl rfl)
          omega
        · obtain ⟨A3, hA, hn, _⟩ := (Exq.pl (g := (X, O)) hv hr).1 K rfl
          have := ((alg_kl hA).mono hm).len2 hst.v1 hst.nd
          simp only at this
          omega
    have hlen : ∀ g ∈ K.map En.key, g.1.length ≤ 1000000 ∧ g.2.length ≤ 1000000 := by
      intro g hg
      obtain ⟨e, he, rfl⟩ := List.mem_map.1 hg
      have := hst.v1 e he
      have h1 := this.most
      have h2 := this.len
      omega
    have hbs : ∀ b, sBlk p.vC = some b → w.heap.size ≤ b := fun b hb => Nat.le_trans hSZ (how b (.inr (.inr (.inr (.inl hb)))))
    have HS := Lib.hid (sortG_any w.heap.size p.vC cs (K.map En.key) w2 (hq.up hbs) hal (by rw [List.length_map]; exact hK.1) (by rw [List.length_map]; omega) hlen)
    have hgl : gS < w2.heap.size := hds.lt
    have HDS := Lib.hid hds
    obtain ⟨Ac, cc, hvc⟩ := hq.form
    have HNE := Lib.hid hne
    have HGL := Lib.hid hgl
    obtain ⟨vC, hvC⟩ : ∃ v, v = p.vC := ⟨_, rfl⟩
    rw [← hvC] at HS HDS HNE
    have y2 := HDS.out.cell 2
    obtain ⟨csn, hcsn⟩ : ∃ n, n = cs.length := ⟨_, rfl⟩
    rw [← hvC, ← hcsn] at hvc
    clear hv hc hr hq hal hds hne hK hlen hbs hgl hvC hcsn hsi hst how hSZ
    subst hvc
    simp only [List.getElem?_cons_succ, List.getElem?_cons_zero] at y2
    go_wp2_with fail
    refine HS.out.mono ?_
    rintro e3 w3 ⟨rfl, ⟨gs, hp, hpw, hg⟩, hb3, hk⟩
    have hd3 := (World.cell?_of_block (a := ⟨gS, 2, none⟩) (hk gS HNE.out HGL.out)).trans y2
    have HB3 := Lib.hid (HB2.out.trans hb3)
    have HP := Lib.hid (And.intro hp (And.intro hpw hg))
    clear hp hpw hg hb3 hk y2 HS HDS
    go_wp2_with fail
    refine bodyPost_ret (results_tmp2 rfl _ _ _) rfl ?_
    exact ⟨HB3.out, .inr (.inr ⟨HVD.out.1, HVD.out.2.1, _, HVD.out.2.2, .inr ⟨K, _, gs, rfl, HP.out.1, HP.out.2.1, HP.out.2.2, rfl⟩⟩)⟩
  · exact (Exq.no_found hr).elim
theorem Reached_any (vx vo : Value) (X O : List Int) (most : Int) (w : World) (hX : Ints w vx X) (hO : Ints w vo O) (lX : X.length ≤ 1000) (lO : O.length ≤ 1000) (hm : most ≤ 90000000) (ht : Tb w) :
    Calls Tryz.prog 7 #[.agg #[vx, vo], .int .i64 most] w (ReP most (X, O) w) := Reached_anyW vx vo X O most w hX hO lX lO (.inl hm) ht
end Go.Proofs.YteliflcbegcdlaaGreatDoor

namespace Go.Proofs.YteliflcbegcdlaaGreatDoor
open Go.RowKit Go.Shelf
set_option linter.unusedVariables false
theorem Exq.other {n m : Int} {g : Gd} {K : List En} {short : Bool} {r' : Res} (h : Exq n false g (.done K)) (h' : Exq m short g r') :
    (r' = .fuel ∧ m < (K.length : Int)) ∨ r' = .done K ∨ (short = true ∧ ∃ K' c, r' = .found K' c) := by
  cases h with
  | some ha hr =>
    cases h' with
    | none ha' =>
      rcases addM_other (m := m) ha with q | ⟨q, q2⟩
      · rw [q] at ha'; cases ha'
      · obtain ⟨E, e1⟩ := hr.len (.inl rfl)
        exact .inl ⟨rfl, by rw [e1, List.length_append]; omega⟩
    | some ha' hr' =>
      rcases addM_other (m := m) ha with q | ⟨q, q2⟩
      · rw [q] at ha'; injection ha' with ha'; subst ha'
        exact hr.other rfl hr'
      · rw [q] at ha'; cases ha'
section
variable {va vb : Value} {X O : List Int} {w : World} {K : List En} {m : Int}
end
end Go.Proofs.YteliflcbegcdlaaGreatDoor

namespace Go.Proofs.YteliflcbegcdlaaGreatDoor
open Go.RowKit Go.Shelf
set_option linter.unusedVariables false
section
variable {g : Gd} {K : List En} {gs : List Gd}
theorem key_alg {A : List Gd} (hA : Alg g K A) {h : Gd} (hh : h ∈ K.map En.key) : ∃ a ∈ A, lstM a = h ∧ VdG a := by
  obtain ⟨e, he, rfl⟩ := List.mem_map.1 hh
  obtain ⟨i, hi⟩ := List.getElem?_of_mem he
  have hlt : i < A.length := by rw [hA.1]; exact (List.getElem?_eq_some_iff.1 hi).1
  obtain ⟨q1, q2, _⟩ := hA.2 i e _ hi (List.getElem?_eq_getElem hlt)
  exact ⟨A[i], List.getElem_mem hlt, q2, q1⟩
theorem alg_key {A : List Gd} (hA : Alg g K A) {a : Gd} (ha : a ∈ A) : lstM a ∈ K.map En.key ∧ VdG a := by
  obtain ⟨i, e, k1, _, k3, k4⟩ := hA.get ha
  exact ⟨by rw [k3]; exact List.mem_map.2 ⟨e, List.mem_of_getElem? k1, rfl⟩, k4⟩
theorem ver_vd (hd : Dn g false K) (hp : gs.Perm (K.map En.key)) : ∀ h ∈ gs, VdG h := by
  intro h hh
  obtain ⟨A, hA, _, _⟩ := hd
  obtain ⟨a, _, rfl, hv⟩ := key_alg hA (hp.mem_iff.1 hh)
  exact lstM_vd hv
theorem ver_closed (hv : VdG g) (hd : Dn g false K) (hp : gs.Perm (K.map En.key)) : ClP g gs := by
  obtain ⟨A, hA, hn, hall⟩ := hd
  refine ⟨hv, fun h hh => ?_, hp.mem_iff.2 (alg_key hA (alg_first hA hn)).1, fun h hh ms z hz => ?_⟩
  · obtain ⟨a, _, rfl, hva⟩ := key_alg hA (hp.mem_iff.1 hh)
    exact lstM_lstM hva
  · obtain ⟨a, ha, rfl, hva⟩ := key_alg hA (hp.mem_iff.1 hh)
    have hf : Fol a (lstM z) := (Fol.tl hva (Tl.least hva)).2 (nbrs_fol (lstM_vd hva) hz)
    obtain ⟨ms', z', hz', e⟩ := fol_nbrs hva hf
    obtain ⟨e', he', hk'⟩ := hasK_yes ((hall a ha).2 ms' z' hz')
    exact hp.mem_iff.2 (List.mem_map.2 ⟨e', he', by rw [hk', e]⟩)
end
end Go.Proofs.YteliflcbegcdlaaGreatDoor
