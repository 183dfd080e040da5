/- bivariate: Set at a unit and a polynomial of several terms; at two units. -/
/- bivariate's Text. -/
/- XPhl with late operations that take up what a property tells. -/
import Derived.Test.YtbfggncmjdhapaaGreatDoorZBst
import Derived.Test.YtbfggncmjdhapaaGreatDoorZTxt
import Derived.Test.YtbfggncmjdhapaaGreatDoorZBof
import Derived.Test.YtbfggncmjdhapaaGreatDoorZBmb
namespace Go.Proofs.YtbfggncmjdhapaaGreatDoor
open Go.RowKit
set_option linter.unusedVariables false

def LAu (ea ca : Int) (n : Int) : List T1 := [(ea * n, pwU ca n)]
def LZp (zl : List T1) (n : Int) : List T1 := powL zl n.toNat
/-- what the list of powers and the unit's box are, and what they lie apart from -/
def SAZ (w : World) (Ba : Nat) (am : PM) (Bk Bz : Nat) (zm : PM) (zl : List T1) (G : List Nat) (W : World) : Prop :=
  Below w.heap.size w W ∧ Arr W Ba 38 [.bool false, .slice am.1 am.2.1 am.2.2] ∧ ∃ (s : Value) (ms : List PM), KnS Bk Bz (Bz + 1) zm zl s ms W ∧ ms.length ≤ 100000 ∧ s.ownBlock ≠ some Ba ∧ ∀ k ∈ G, w.heap.size ≤ k ∧ k < W.heap.size ∧ k ≠ Ba ∧ k ≠ Bz ∧ k ≠ Bk ∧ s.ownBlock ≠ some k
theorem SAZ.s1 {w : World} {Ba : Nat} {am : PM} {Bk Bz : Nat} {zm : PM} {zl : List T1} (G G' : List Nat) (a b : World) (h : SAZ w Ba am Bk Bz zm zl G a) (hb : Below a.heap.size a b) (hG : ∀ k ∈ G', k ∈ G ∨ (a.heap.size ≤ k ∧ k < b.heap.size)) : SAZ w Ba am Bk Bz zm zl G' b := by
  obtain ⟨h1, h2, s, ms, h3, h4, h5, h6⟩ := h
  refine ⟨h1.trans (hb.mono h1.size), h2.below hb h2.lt, s, ms, h3.below hb, h4, h5, fun k hk => ?_⟩
  rcases hG k hk with q | ⟨q1, q2⟩
  · obtain ⟨a1, a2, a3, a4, a5, a6⟩ := h6 k q
    exact ⟨a1, Nat.lt_of_lt_of_le a2 hb.size, a3, a4, a5, a6⟩
  · exact ⟨Nat.le_trans h1.size q1, q2, fun e => by have := h2.lt; omega, fun e => by have := h3.bz.lt; omega, fun e => by have := h3.bk.lt; omega, fun e => by have := h3.own.lt k e; omega⟩
theorem SAZ.s2 {w : World} {Ba : Nat} {am : PM} {Bk Bz : Nat} {zm : PM} {zl : List T1} (G : List Nat) (a : World) (g j : Nat) (u : Value) (cs : List Value) (h : SAZ w Ba am Bk Bz zm zl G a) (hg : g ∈ G) (ha : Arr a g 38 cs) : SAZ w Ba am Bk Bz zm zl G (a.setCell ⟨g, j, none⟩ u) := by
  obtain ⟨h1, h2, s, ms, h3, h4, h5, h6⟩ := h
  obtain ⟨a1, a2, a3, a4, a5, a6⟩ := h6 g hg
  have kh : ∀ k, k ≠ g → (a.setCell ⟨g, j, none⟩ u).heap[k]? = a.heap[k]? := fun k hk => Below.heap_setCell a ⟨g, j, none⟩ u k hk
  have kt : ∀ b, TB a b → (a.setCell ⟨g, j, none⟩ u).heap[b]? = a.heap[b]? := fun b hb => kh b (fun e => TB_ne (t := 38) (cs := cs) hb (by rw [e]; exact ha) (by decide))
  refine ⟨h1.setCell (p := ⟨g, j, none⟩) a1 u, (kh Ba (Ne.symm a3)).trans h2, s, ms, ⟨(kh Bk (Ne.symm a5)).trans h3.bk, h3.own.keepK fun k hk => kh k (fun e => a6 (by rw [← e]; exact hk)), h3.pos, fun i hi => (h3.el i hi).keepT kt, (kh Bz (Ne.symm a4)).trans h3.bz, h3.zv.keepT kt, h3.nz⟩, h4, h5, fun k hk => ?_⟩
  obtain ⟨b1, b2, b3⟩ := h6 k hk
  exact ⟨b1, by simpa using b2, b3⟩
theorem arr_ne_LL {W : World} {k k' : Nat} {cs cs' : List Value} (h : Arr W k 38 cs) (h' : Arr W k' 117 cs') : k ≠ k' := fun e => by
  rw [e] at h
  unfold Arr at h h'
  rw [h] at h'
  injection h' with h'
  injection h' with _ h2 _
  exact absurd h2 (by decide)
/-- what a call of the list of powers keeps -/
theorem SAZ.pow2 {w W w' : World} {Ba : Nat} {am : PM} {Bk Bz : Nat} {zm : PM} {zl : List T1} {G : List Nat} {s : Value} {ms : List PM} {n : Nat} {e : Ending} (hw : w.heap.size ≤ Bz + 1) (h1 : Below w.heap.size w W) (h2 : Arr W Ba 38 [.bool false, .slice am.1 am.2.1 am.2.2]) (h3 : KnS Bk Bz (Bz + 1) zm zl s ms W) (h5 : s.ownBlock ≠ some Ba) (h6 : ∀ k ∈ G, w.heap.size ≤ k ∧ k < W.heap.size ∧ k ≠ Ba ∧ k ≠ Bz ∧ k ≠ Bk ∧ s.ownBlock ≠ some k) (hr : Pow2R Bk Bz (Bz + 1) zm zl s n W e w') : ∃ v, e = .returned v ∧ QL w' v (powL zl n) ∧ KT w.heap.size G (SAZ w Ba am Bk Bz zm zl G) W w' := by
  obtain ⟨v, s', ms', he, hq, hk, hb, hf, ho, hm⟩ := hr
  refine ⟨v, he, hq, hb.mono hw, fun k hk2 hl => ?_, fun k cs t fr hh t1 t2 => ?_, fun _ => ?_⟩
  · obtain ⟨_, _, _, _, a5, a6⟩ := h6 k hk2
    exact hf k hl a5 a6
  · refine hf k (heap_ltB hh) (fun e => ?_) (fun e => ?_)
    · have := h3.bk
      rw [← e] at this
      unfold Arr at this
      rw [hh] at this
      injection this with this
      injection this with _ h2 _
      exact t2 h2
    · obtain ⟨cs', fr', hh'⟩ := OwnA.typB h3.own k e
      rw [hh] at hh'
      injection hh' with hh'
      injection hh' with _ h2 _
      exact t1 h2
  · have ne1 : ∀ k, k < W.heap.size → s.ownBlock ≠ some k → s'.ownBlock ≠ some k := fun k hl hne e => by
      rcases ho with ho | ho
      · exact hne (ho ▸ e)
      · have := ho k e; omega
    refine ⟨h1.trans (hb.mono hw), (hf Ba h2.lt (arr_ne_LL h2 h3.bk) h5).trans h2, s', ms', hk, hm, ne1 Ba h2.lt h5, fun k hk2 => ?_⟩
    obtain ⟨a1, a2, a3, a4, a5, a6⟩ := h6 k hk2
    exact ⟨a1, Nat.lt_of_lt_of_le a2 hb.size, a3, a4, a5, ne1 k a2 a6⟩
theorem unitP_one {ea ca : Int} (h : ca = 1 ∨ ca = -1) : unitP (some [(ea, ca)]) = true := by
  have e1 : lowL ((some [(ea, ca)] : Pol).getD []) = ea := rfl
  have e2 : highL ((some [(ea, ca)] : Pol).getD []) = ea := rfl
  have e3 : cf ((some [(ea, ca)] : Pol).getD []) ea = ca := by show cf [(ea, ca)] ea = ca; rw [cf_one, if_pos rfl]
  unfold unitP
  rw [e1, e2, e3]
  exact decide_eq_true ⟨rfl, h⟩
theorem okP_one {ea ca : Int} (h : ca = 1 ∨ ca = -1) (he : -1048576 ≤ ea ∧ ea ≤ 1048576) : okP (some [(ea, ca)]) := ⟨⟨by unfold Srt; simp, by simp; rcases h with h | h <;> rw [h] <;> decide⟩, ⟨by simp; rcases h with h | h <;> rw [h] <;> decide, by simp; exact he⟩⟩
theorem asum1_LAu {ea ca n : Int} (h : ca = 1 ∨ ca = -1) : asum1 (LAu ea ca n) = 1 := by
  unfold LAu asum1 asum1
  simp only
  rcases pwU_bd h n with q | q <;> rw [q] <;> rfl
theorem Tms.inj {W : World} {v : Value} {l l' : List T1} (h : Tms W v l) (h' : Tms W v l') : l = l' := by
  obtain ⟨A, c, rfl, hx⟩ := h
  obtain ⟨A', c', hv, hx'⟩ := h'
  injection hv with e1 e2 e3
  subst e1
  apply List.ext_getElem e2
  intro k h1 h2
  obtain ⟨b, o, hA, c1, c2, _⟩ := hx k h1
  obtain ⟨b', o', hA', c1', c2', _⟩ := hx' k h2
  rw [hA] at hA'
  injection hA' with hA'
  injection hA' with e4 e5
  subst e4 e5
  rw [c1] at c1'
  rw [c2] at c2'
  injection c1' with c1'
  injection c1' with _ c1'
  injection c2' with c2'
  injection c2' with _ c2'
  exact Prod.ext c1' c2'
theorem PolyV.inj {W : World} {v : Value} {l l' : List T1} (h : PolyV W v (some l)) (h' : PolyV W v (some l')) : l = l' := by
  obtain ⟨A, c, rfl, hx⟩ := h
  obtain ⟨A', c', hv, hx'⟩ := h'
  simp only [Value.agg.injEq, Array.mk.injEq, List.cons.injEq, Value.slice.injEq, Option.getD_some, Option.isNone_some, true_and, and_true] at hv hx hx'
  obtain ⟨rfl, e2, rfl⟩ := hv
  rw [← e2] at hx'
  exact hx.inj hx'
def PsA (w : World) (va v : Value) (W : World) : Prop := ∃ (am : PM) (Ba : Nat), va = .agg #[.bool false, .slice am.1 am.2.1 am.2.2] ∧ v = .func (.func 75) #[] #[.pointer (some ⟨Ba, 0, none⟩)] ∧ w.heap.size + 4 ≤ Ba ∧ Arr W Ba 38 [.bool false, .slice am.1 am.2.1 am.2.2] ∧ Below w.heap.size w W
def PsZ (w : World) (zl : List T1) (v : Value) (W : World) : Prop := ∃ (zm : PM) (Bk Bz g : Nat) (m : PM), v = .func (.func 77) #[] #[.pointer (some ⟨Bk, 0, none⟩), .pointer (some ⟨Bz, 0, none⟩)] ∧ KnS Bk Bz (Bz + 1) zm zl (.slice (some ⟨g, 0, none⟩) 1 1) [m] W ∧ Bz + 1 ≤ Bk ∧ w.heap.size + 4 ≤ Bz ∧ Bz + 1 ≤ g
theorem psA_any (va : Value) (ea ca : Int) (w : World) (ha : PolyV w va (some [(ea, ca)])) (ok : okP (some [(ea, ca)])) (W : World) (hb : Below w.heap.size w W) (hz : w.heap.size + 4 ≤ W.heap.size) : Calls Tryz.prog 41 #[va] W fun e w' => ∃ v, e = .returned v ∧ Below W.heap.size W w' ∧ PsA w va v w' := by
  refine (powers_one va ea ca W (ha.below hb) ok).mono ?_
  rintro e w' ⟨A, n, c, h1, rfl, h2, h3⟩
  exact ⟨_, rfl, h3, (A, n, c), W.heap.size, h1, rfl, hz, h2, hb.trans (h3.mono hb.size)⟩
theorem psA_keep (w : World) (va v : Value) (a b : World) (h : PsA w va v a) (hb : Below a.heap.size a b) : PsA w va v b := by
  obtain ⟨am, Ba, h1, h2, h3, h4, h5⟩ := h
  exact ⟨am, Ba, h1, h2, h3, h4.below hb h4.lt, h5.trans (hb.mono h5.size)⟩
theorem psZ_any (vz : Value) (zl : List T1) (w : World) (hz : PolyV w vz (some zl)) (ok : okP (some zl)) (hne : zl ≠ []) (hlh : lowL zl ≠ highL zl) (W : World) (hb : Below w.heap.size w W) (hs : w.heap.size + 4 ≤ W.heap.size) : Calls Tryz.prog 41 #[vz] W fun e w' => ∃ v, e = .returned v ∧ Below W.heap.size W w' ∧ PsZ w zl v w' := by
  refine (powers_list vz zl W (hz.below hb) ok hne hlh).mono ?_
  rintro e w' ⟨zm, Bk, g, m, h1, rfl, h2, h3, h4⟩
  exact ⟨_, rfl, h4, zm, Bk, W.heap.size, g, m, rfl, h2, h3, hs, h2.own.block g rfl⟩
theorem psZ_keep (w : World) (zl : List T1) (v : Value) (a b : World) (h : PsZ w zl v a) (hb : Below a.heap.size a b) : PsZ w zl v b := by
  obtain ⟨zm, Bk, Bz, g, m, h1, h2, h3⟩ := h
  exact ⟨zm, Bk, Bz, g, m, h1, h2.below hb, h3⟩
set_option maxHeartbeats 1000000 in
theorem Set_list {N ZM : Nat} (vp va vz : Value) (l : List T2) (ea ca : Int) (zl : List T1) (w : World) (hp : PolyB w vp (some l)) (ha : PolyV w va (some [(ea, ca)])) (hz : PolyV w vz (some zl)) (hca : ca = 1 ∨ ca = -1) (hea : -1048576 ≤ ea ∧ ea ≤ 1048576) (okz : okP (some zl)) (hne : zl ≠ []) (hlh : lowL zl ≠ highL zl)
    (lp : Lim2 l) (kp : Can2 l) (hl : l.length ≤ 10000) (hnn : ∀ t ∈ l, 0 ≤ t.1.2 ∧ t.1.2 ≤ ZM) (hxa : ∀ t ∈ l, -400000 ≤ ea * t.1.1 ∧ ea * t.1.1 ≤ 400000) (hN : Eb1 N zl) (hZM : ZM ≤ 1000) (hzn : (ZM + 1) * N ≤ 400000) (hS : ∀ i, i ≤ ZM → asum1 zl ^ i ≤ 1125899906842624) (hz1 : 1 ≤ asum1 zl) (hsum : asum1 (setL (LAu ea ca) (LZp zl) l) ≤ 1125899906842624) (hno : ea ≠ 0) :
    Calls Tryz.prog 20 #[vp, va, vz] w (SetR (setL (LAu ea ca) (LZp zl) l) w) := by
  have oka := okP_one hca hea
  refine Set_walk2 vp va vz l [(ea, ca)] zl w (PsA w va) (PsZ w zl) (LAu ea ca) (LZp zl) (fun n => (-1000000000 ≤ n ∧ n ≤ 1000000000) ∧ -1048576 ≤ ea * n ∧ ea * n ≤ 1048576) (fun n => 0 ≤ n ∧ n ≤ ZM) hp ha hz oka (unitP_one hca) lp kp hl (fun t ht => (hnn t ht).1) (psA_any va ea ca w ha oka) (psZ_any vz zl w hz okz hne hlh) (psA_keep w va) (psZ_keep w zl) ?_ (fun t ht => ?_) hnn (fun t ht => ?_) (fun t ht => ?_) (fun t ht => by rw [asum1_LAu hca]; exact Nat.le_refl _) (fun t ht => ?_) hsum
  · rintro fA fZ W ⟨am, Ba, hva, rfl, h3, h4, h5⟩ ⟨zm, Bk, Bz, g, m, rfl, k2, k3, k4, k5⟩
    refine ⟨_, _, _, _, _, SAZ w Ba am Bk Bz zm zl, ⟨rfl, rfl, SAZ.s1, SAZ.s2, enters_of Tryz.func75 (by kernel_rfl) rfl, enters_of Tryz.func77 (by kernel_rfl) rfl, ?_, ?_⟩, ?_⟩
    · intro G n W' hn hS' hsz
      refine (pow1_any Ba am.2.1 am.2.2 am.1 ea ca n W' hS'.2.1 (by rw [← hva]; exact ha.below hS'.1) hca hn.1 hea hn.2).mono ?_
      rintro e w' ⟨v, he, hb, hv⟩
      have hd := pwU_bd hca n
      exact ⟨v, he, ⟨_, hv, (okP_one hd ⟨by have := hn.2; omega, by have := hn.2; omega⟩).1, (okP_one hd ⟨by have := hn.2; omega, by have := hn.2; omega⟩).2, fun e => rfl⟩, KT.of_below (fun a b h hb => SAZ.s1 G G a b h hb fun k hk => .inl hk) hb hsz⟩
    · intro G n W' hn hS' hsz
      obtain ⟨h1, h2, s, ms, q3, q4, q5, q6⟩ := hS'
      have hnt : (n.toNat : Int) = n := Int.toNat_of_nonneg hn.1
      have hle : n.toNat ≤ ZM := by omega
      have := pow2_any Bk Bz (Bz + 1) zm zl s ms n.toNat W' q3 (by omega) q4 (S := 0) (fun i hi => hS i (by omega)) hN (Nat.le_trans (Nat.mul_le_mul_right N (by omega : n.toNat + 1 ≤ ZM + 1)) (by omega)) (by omega) (by have := q3.bz.lt; omega)
      rw [hnt] at this
      refine this.mono ?_
      intro e w' hr
      exact SAZ.pow2 (by omega) h1 h2 q3 q5 q6 hr
    · have hgl := k2.own.lt g rfl
      refine ⟨h5, h4, _, _, k2, by simp, fun e => ?_, fun k hk => ?_⟩
      · have e1 : g = Ba := by simpa [Value.ownBlock] using e
        subst e1
        have c1 := (k2.at_ (k := 0) (by simp)).2
        have c2 := h4.cell 1
        simp only [Nat.zero_mul, Nat.zero_add, List.getElem_cons_zero] at c1
        have c3 : W.cell? ⟨g, 1, none⟩ = some (.slice am.1 am.2.1 am.2.2) := c2
        rw [c3] at c1
        injection c1 with c1
        have hq := k2.el 0 (by simp)
        simp only [List.getElem_cons_zero] at hq
        rw [← c1, ← hva] at hq
        obtain ⟨l', q1, q2, q3, q4⟩ := hq
        have := q1.inj (ha.below h5)
        subst this
        have h1 := q4 ea
        rw [cf_one, if_pos rfl] at h1
        have h2 : cf (powL zl 0) ea = 0 := by
          show cf [(0, 1)] ea = 0
          rw [cf_one, if_neg (fun q => hno q.symm)]
        rw [h2] at h1
        rcases hca with h | h <;> rw [h] at h1 <;> cases h1
      · have := List.mem_singleton.1 hk
        subst this
        refine ⟨by omega, by omega, by omega, by omega, by omega, fun e => ?_⟩
        have e1 : g = w.heap.size + 3 := by simpa [Value.ownBlock] using e
        omega
  · have h1 := lp.ea t ht
    have h2 := hxa t ht
    exact ⟨⟨by omega, by omega⟩, by omega, by omega⟩
  · intro s hs
    rw [List.mem_singleton.1 hs]
    exact hxa t ht
  · have h1 := hnn t ht
    have h2 : t.1.2.toNat ≤ ZM := by omega
    refine (hN.powL _).mono (Nat.le_trans (Nat.mul_le_mul_right N h2) ?_)
    rw [Nat.succ_mul] at hzn
    omega
  · unfold LZp
    rw [asum1_powL]
    exact Nat.one_le_pow _ _ hz1
end Go.Proofs.YtbfggncmjdhapaaGreatDoor

namespace Go.Proofs.YtbfggncmjdhapaaGreatDoor
open Go.RowKit
set_option linter.unusedVariables false

def powB (nm : List UInt8) (e : Int) : List UInt8 := vaT nm e ++ poT e
def coB (c : Int) (e : K2) : List UInt8 := if cabs c = 1 ∧ ¬ (e.1 = 0 ∧ e.2 = 0) then [] else Lib.itoa (cabs c)
def txtB1 (na nz : List UInt8) (i : Nat) (t : T2) : List UInt8 := sgT i t.2 ++ (coB t.2 t.1 ++ (powB na t.1.1 ++ powB nz t.1.2))
def txtBU (na nz : List UInt8) (l : List T2) : Nat → List UInt8
  | 0 => []
  | k + 1 => txtBU na nz l k ++ txtB1 na nz k (l[k]?.getD ((0, 0), 0))
def txtB (na nz : List UInt8) : PolB → List UInt8
  | none => [98, 105, 103]
  | some l => if l.length = 0 then [48] else txtBU na nz l l.length
theorem coB_len {c : Int} {e : K2} (h : -1125899906842624 ≤ c ∧ c ≤ 1125899906842624) : (coB c e).length ≤ 21 := by
  unfold coB
  split
  · simp
  · exact Lib.itoa_length_le _ (by unfold cabs; split <;> omega) (by unfold cabs; split <;> omega)
theorem powB_len {nm : List UInt8} {e : Int} (hn : nm.length ≤ 1000) (h : -1048576 ≤ e ∧ e ≤ 1048576) : (powB nm e).length ≤ 1022 := by
  have h1 := vaT_len (nm := nm) (e := e)
  have h2 := poT_len h
  unfold powB
  rw [List.length_append]; omega
theorem txtB1_len {na nz : List UInt8} {i : Nat} {t : T2} (hn : na.length ≤ 1000) (hz : nz.length ≤ 1000) (h1 : -1125899906842624 ≤ t.2 ∧ t.2 ≤ 1125899906842624) (h2 : -1048576 ≤ t.1.1 ∧ t.1.1 ≤ 1048576) (h3 : -1048576 ≤ t.1.2 ∧ t.1.2 ≤ 1048576) : (txtB1 na nz i t).length ≤ 3000 := by
  have a := sgT_len i t.2
  have b := coB_len (e := t.1) h1
  have c := powB_len hn h2
  have d := powB_len hz h3
  unfold txtB1
  simp only [List.length_append]
  omega
theorem txtBU_len {na nz : List UInt8} {l : List T2} (hn : na.length ≤ 1000) (hz : nz.length ≤ 1000) (hl : Lim2 l) : ∀ k, k ≤ l.length → (txtBU na nz l k).length ≤ 3000 * k
  | 0, _ => by simp [txtBU]
  | k + 1, h => by
    have h1 := txtBU_len hn hz hl k (by omega)
    have e : l[k]?.getD ((0, 0), 0) = l[k] := by rw [List.getElem?_eq_getElem (by omega)]; rfl
    have hm : l[k] ∈ l := List.getElem_mem (show k < l.length by omega)
    have h2 := txtB1_len (i := k) hn hz (hl.co _ hm) (hl.ea _ hm) (hl.ez _ hm)
    rw [txtBU, List.length_append, e]; omega
/-- the builder holds bs; what lies in other blocks stays as it was in w0 -/
structure BxSt (w w0 : World) (bs : List UInt8) (wx : World) : Prop where
  ib : IsB (w.heap.size + 1) (w.heap.size + 1) (Lib.byteCells bs) wx
  bel : Below w.heap.size w wx
  kb : KeepB (w.heap.size + 1) w0 wx
  sz : w.heap.size + 2 ≤ wx.heap.size
theorem BxSt.byte {w w0 wx : World} {bs : List UInt8} (h : BxSt w w0 bs wx) (hl : bs.length ≤ 10000000000) (x : UInt8) (n : Int) (hn : n = (x.toNat : Int)) :
    Calls Tryz.prog 62 #[.pointer (some ⟨w.heap.size + 1, 0, none⟩), .int .u8 n] wx fun e w' => e = .returned .nilIface ∧ BxSt w w0 (bs ++ [x]) w' := by
  subst hn
  have hs := h.sz
  refine Calls.mono (bld_byte _ _ _ _ wx h.ib (by rw [Lib.byteCells_length]; omega) (by omega)) ?_
  rintro e w' ⟨rfl, h1, h2, h3⟩
  exact ⟨rfl, by rw [Lib.byteCells_append]; exact h1, h.bel.trans (h2.mono (by omega)), h.kb.trans h3, by have := h2.size; omega⟩
theorem BxSt.str {w w0 wx : World} {bs : List UInt8} (h : BxSt w w0 bs wx) (hl : bs.length ≤ 10000000000) (s : List UInt8) (hsl : s.length ≤ 1000) :
    Calls Tryz.prog 61 #[.pointer (some ⟨w.heap.size + 1, 0, none⟩), .string ⟨s.toArray⟩] wx fun e w' => (∃ q, e = .returned (.tuple #[.int .i64 q, .nilIface])) ∧ BxSt w w0 (bs ++ s) w' := by
  have hs := h.sz
  have e1 : (ByteArray.mk s.toArray).size = s.length := rfl
  refine Calls.mono (bld_string _ _ _ ⟨s.toArray⟩ wx h.ib (by rw [Lib.byteCells_length, e1]; omega) (by omega)) ?_
  rintro e w' ⟨rfl, h1, h2, h3⟩
  exact ⟨⟨_, rfl⟩, by rw [Lib.byteCells_append]; exact h1, h.bel.trans (h2.mono (by omega)), h.kb.trans h3, by have := h2.size; omega⟩
theorem BxSt.itoa {w w0 wx : World} {bs : List UInt8} (h : BxSt w w0 bs wx) (ht : Tb w) (n : Int) (h0 : -9223372036854775808 ≤ n) (h1 : n ≤ 9223372036854775807) :
    Calls Tryz.prog 63 #[.int .i64 n] wx fun e w' => e = .returned (.string ⟨(Lib.itoa n).toArray⟩) ∧ BxSt w w0 bs w' := by
  have hs := h.sz
  refine Calls.mono (itoa_any n h0 h1 wx (ht.below h.bel)) ?_
  rintro e w' ⟨rfl, h2⟩
  exact ⟨rfl, h.ib.below h2, h.bel.trans (h2.mono (by have := h.bel.size; omega)), h.kb.below h2, by have := h2.size; omega⟩
set_option maxHeartbeats 2000000 in
set_option maxRecDepth 100000 in
theorem pow_any {w w0 wx : World} {bs : List UInt8} (h : BxSt w w0 bs wx) (hl : bs.length ≤ 1000000000) (nm : List UInt8) (hn : nm.length ≤ 1000) (e : Int) (he : -1048576 ≤ e ∧ e ≤ 1048576) (ht : Tb w) :
    Calls Tryz.prog 60 #[.string ⟨nm.toArray⟩, .int .i64 e, .pointer (some ⟨w.heap.size + 1, 0, none⟩)] wx fun en w' => en = .returned (.tuple #[]) ∧ BxSt w w0 (bs ++ powB nm e) w' := by
  by_cases h0 : e = 0
  · have n0 : (e == 0) = true := by simp [h0]
    have HE := Lib.hid (show bs ++ powB nm e = bs by rw [h0]; unfold powB vaT poT; simp)
    clear h0
    have HH := Lib.hid h
    clear h
    go_enter Tryz.func60, Tryz.ntmps60
    go_wp2_with fail
    refine bodyPost_ret (results_none rfl _ _ _) rfl ?_
    exact ⟨rfl, by rw [HE.out]; exact HH.out⟩
  · have n0 : (e == 0) = false := beq_eq_false_iff_ne.2 h0
    have HS := Lib.hid (h.str (by omega) nm hn)
    have hl2 : (bs ++ nm).length = bs.length + nm.length := List.length_append
    by_cases h1 : e = 1
    · have n1 : (e != 1) = false := by simp [h1]
      have HE := Lib.hid (show bs ++ powB nm e = bs ++ nm by rw [h1]; unfold powB vaT poT; simp)
      clear h1
      clear h
      go_enter Tryz.func60, Tryz.ntmps60
      go_wp2_with fail
      refine HS.out.mono ?_
      rintro e w7 ⟨⟨q, rfl⟩, h7⟩
      have H7 := Lib.hid h7
      clear h7
      go_wp2_with fail
      go_end0
      exact ⟨rfl, by rw [HE.out]; exact H7.out⟩
    · have n1 : (e != 1) = true := by simp [h1]
      have HE := Lib.hid (show bs ++ powB nm e = ((bs ++ nm) ++ [94]) ++ Lib.itoa e by unfold powB vaT poT; rw [if_neg h0, if_neg (by omega)]; simp)
      have hil := Lib.itoa_length_le e (by omega) (by omega)
      have hl7 : ((bs ++ nm) ++ [94]).length = (bs ++ nm).length + 1 := List.length_append
      clear h
      go_enter Tryz.func60, Tryz.ntmps60
      go_wp2_with fail
      refine HS.out.mono ?_
      rintro e1 w7 ⟨⟨q, rfl⟩, h7⟩
      have HB := Lib.hid (h7.byte (by omega) 94 94 rfl)
      clear h7
      go_wp2_with fail
      refine HB.out.mono ?_
      rintro e1 w8 ⟨rfl, h8⟩
      have HI := Lib.hid (h8.itoa ht e (by omega) (by omega))
      clear h8
      go_wp2_with fail
      refine HI.out.mono ?_
      rintro e1 w9 ⟨rfl, h9⟩
      have HS2 := Lib.hid (h9.str (by omega) (Lib.itoa e) (by omega))
      clear h9
      go_wp2_with fail
      refine HS2.out.mono ?_
      rintro e1 w10 ⟨⟨q2, rfl⟩, h10⟩
      have H10 := Lib.hid h10
      clear h10
      go_wp2_with fail
      go_end0
      exact ⟨rfl, by rw [HE.out]; exact H10.out⟩
theorem clo_text (args : Array Value) (W : World) : (callFunc 60 args).run Tryz.prog W = .ok (.enter 60 args) W := enters_of Tryz.func60 (by kernel_rfl) rfl args W
set_option maxHeartbeats 4000000 in
set_option maxRecDepth 100000 in
theorem bText_any (v : Value) (p : PolB) (na nz : List UInt8) (w : World) (hv : PolyB w v p) (hok : okB2 p) (hlen : lenB p ≤ 100000) (hn : na.length ≤ 1000) (hz : nz.length ≤ 1000) (ht : Tb w) :
    Calls Tryz.prog 28 #[v, .string ⟨na.toArray⟩, .string ⟨nz.toArray⟩] w fun e w' => e = .returned (.string ⟨(txtB na nz p).toArray⟩) ∧ Below w.heap.size w w' := by
  obtain ⟨b1, A, n, c, rfl, j1, j2⟩ := hv.parts
  have HX := Lib.hid (fun W (hb : Below w.heap.size w W) => hv.below hb)
  have hW : ∀ W, W = (w.alloc (.cells #[.bool b1, .slice A n c] 27)) → Arr W w.heap.size 27 [.bool b1, .slice A n c] ∧ Below w.heap.size w W ∧ W.heap.size = w.heap.size + 1 := by
    intro W hW
    subst hW
    exact ⟨Arr.new _ _ [_, _], ((Below.refl _ _).alloc (Nat.le_refl _) _), by simp⟩
  clear hv
  cases p with
  | none =>
    have jj : b1 = true := j1
    subst jj
    clear j1 j2 HX
    go_enter Tryz.func28, Tryz.ntmps28
    go_upto_region 1 with fail
    generalize (w.alloc (.cells #[.bool true, .slice A n c] 27)) = w3 at hW ⊢
    obtain ⟨qb, hb3, hs3⟩ := hW w3 rfl
    have y0 := qb.cell 0
    go_wp2_with fail
    go_ret
    exact ⟨rfl, hb3⟩
  | some l =>
    have jj : b1 = false := j1
    have jn : n = l.length := j2
    subst jj jn
    clear j1 j2
    have hlm : l.length ≤ 100000 := hlen
    obtain ⟨T, hT⟩ : ∃ T, T = txtB na nz (some l) := ⟨_, rfl⟩
    rw [← hT]
    have HT := Lib.hid hT
    clear hT hlen
    obtain ⟨hcan, hlim⟩ := hok
    go_enter Tryz.func28, Tryz.ntmps28
    go_upto_region 1 with fail
    generalize (w.alloc (.cells #[.bool false, .slice A l.length c] 27)) = w3 at hW ⊢
    obtain ⟨qb, hb3, hs3⟩ := hW w3 rfl
    have y0 := qb.cell 0
    have y1 := qb.cell 1
    clear hW
    by_cases h0 : l.length = 0
    · have z1 : ((l.length : Int) == 0) = true := by rw [beq_iff_eq]; omega
      have HT2 := Lib.hid (show T = [48] from by rw [HT.out]; exact if_pos h0)
      go_wp2_with fail
      go_ret
      exact ⟨by rw [HT2.out]; rfl, hb3⟩
    · have z1 : ((l.length : Int) == 0) = false := by rw [beq_eq_false_iff_ne]; omega
      have HT2 := Lib.hid (show T = txtBU na nz l l.length from by rw [HT.out]; exact if_neg h0)
      have HLI := Lib.hid hlim
      have eg := clo_text
      clear HT hcan hlim
      go_upto_region 7 with fail
      have hB : Arr (w3.alloc (.cells #[.pointer none, .slice none 0 0] 102)) w.heap.size 27 [.bool false, .slice A l.length c] ∧ Below w.heap.size w (w3.alloc (.cells #[.pointer none, .slice none 0 0] 102)) ∧ IsB (w.heap.size + 1) (w.heap.size + 1) [] (w3.alloc (.cells #[.pointer none, .slice none 0 0] 102)) ∧ (w3.alloc (.cells #[.pointer none, .slice none 0 0] 102)).heap.size = w.heap.size + 2 := by
        refine ⟨qb.alloc _, hb3.alloc (by omega) _, .inl ⟨Nat.le_refl _, _, ?_, ⟨rfl, .inl ⟨rfl, rfl⟩⟩, by simp [Value.ownBlock]⟩, by simp; omega⟩
        have := Arr.new w3 102 [.pointer none, .slice none 0 0]
        rw [hs3] at this
        exact this
      generalize (w3.alloc (.cells #[.pointer none, .slice none 0 0] 102)) = w4 at *
      obtain ⟨qb4, hb4, hib, hs4⟩ := hB
      have y2 := qb4.cell 1
      clear y0 y1 qb hb3 qb4
      go_wp2_with fail
      go_loopg [24] l.length (fun gk s24 wr => ∃ k : Nat, k ≤ l.length ∧ gk = l.length - k ∧ s24 = .int .i64 (k : Int) ∧ IsB (w.heap.size + 1) (w.heap.size + 1) (Lib.byteCells (txtBU na nz l k)) wr ∧ Below w.heap.size w wr ∧ w.heap.size + 2 ≤ wr.heap.size)
      case atStart => exact ⟨0, Nat.zero_le _, rfl, rfl, hib, hb4, by omega⟩
      case round =>
        clear hib hb4 hs4 y2
        obtain ⟨k, hk, rfl, rfl, hib, hbr, hsr⟩ := hrel
        by_cases hlt : k < l.length
        · have z2 : (k : Int) < (l.length : Int) := by omega
          obtain ⟨b, o, rfl, _, y0, y1, y3⟩ := (HX.out wr hbr).tm_some.at_ hlt
          have hco := HLI.out.co _ (List.getElem_mem hlt)
          have hea := HLI.out.ea _ (List.getElem_mem hlt)
          have hez := HLI.out.ez _ (List.getElem_mem hlt)
          have HTX := Lib.hid (show txtBU na nz l (k + 1) = txtBU na nz l k ++ txtB1 na nz k ((l[k].1.1, l[k].1.2), l[k].2) from by rw [txtBU, List.getElem?_eq_getElem hlt]; rfl)
          have htl := txtBU_len hn hz HLI.out k hk
          generalize l[k].1.1 = ta at *
          generalize l[k].1.2 = tz at *
          generalize l[k].2 = tc at *
          generalize txtBU na nz l k = bs at *
          have hWt : ∀ W, W = wr.alloc (.cells #[.int .i64 ta, .int .i64 tz, .int .i64 tc] 65) → Arr W wr.heap.size 65 [.int .i64 ta, .int .i64 tz, .int .i64 tc] ∧ BxSt w W bs W := by
            intro W hW
            subst hW
            exact ⟨Arr.new _ _ [_, _, _], hib.below ((Below.refl _ _).alloc (Nat.le_refl _) _), hbr.alloc (by omega) _, KeepB.refl _ _, by simp; omega⟩
          go_upto_region 10 with fail
          generalize (wr.alloc (.cells #[.int .i64 ta, .int .i64 tz, .int .i64 tc] 65)) = w5 at hWt ⊢
          obtain ⟨qt, hst⟩ := hWt w5 rfl
          have hgb : wr.heap.size ≠ w.heap.size + 1 := by omega
          have HQT := Lib.hid (fun wx bs' (h : BxSt w w5 bs' wx) => h.kb wr.heap.size _ _ qt (by decide) hgb)
          generalize wr.heap.size = g at *
          clear hib hbr y0 y1 y3 hWt qt hgb
          have x2 : w5.cell? ⟨g, 2, none⟩ = some (.int .i64 tc) := (HQT.out w5 bs hst).cell 2
          go_upto_if 32 with fail
          clear x2
          go_cut [11, 24, 9] from 24 to 64 (fun s11 s24 s9 wx => s11 = .int .i64 (cabs tc) ∧ s24 = .int .i64 (k : Int) ∧ s9 = .int .i64 (k : Int) ∧ BxSt w w5 (bs ++ sgT k tc) wx)
          case first =>
            by_cases c1 : tc < 0
            · have HB := Lib.hid (hst.byte (by omega) 45 45 rfl)
              have E1 := Lib.hid (show sgT k tc = [45] from if_pos c1)
              have E2 := Lib.hid (show cabs tc = -tc from if_pos c1)
              clear hst
              go_wp2_with fail
              refine HB.out.mono ?_
              rintro e w6 ⟨rfl, h6⟩
              go_wp2_with fail
              go_meet
              case rel => exact ⟨by rw [E2.out], rfl, rfl, by rw [E1.out]; exact h6⟩
            · have E2 := Lib.hid (show cabs tc = tc from if_neg c1)
              by_cases c2 : 0 < k
              · have z4 : (k : Int) > 0 := by omega
                have HB := Lib.hid (hst.byte (by omega) 43 43 rfl)
                have E1 := Lib.hid (show sgT k tc = [43] from by unfold sgT; rw [if_neg c1, if_pos c2])
                clear hst
                go_wp2_with fail
                refine HB.out.mono ?_
                rintro e w6 ⟨rfl, h6⟩
                go_wp2_with fail
                go_meet
                case rel => exact ⟨by rw [E2.out], rfl, rfl, by rw [E1.out]; exact h6⟩
              · have z4 : ¬ (k : Int) > 0 := by omega
                have E1 := Lib.hid (show sgT k tc = [] from by unfold sgT; rw [if_neg c1, if_neg c2])
                go_wp2_with fail
                go_meet
                case rel => exact ⟨by rw [E2.out], rfl, rfl, by rw [E1.out, List.append_nil]; exact hst⟩
          case rest =>
            obtain ⟨rfl, rfl, rfl, hst1⟩ := hcut
            have HTX1 := Lib.hid (show txtBU na nz l (k + 1) = (bs ++ sgT k tc) ++ (coB tc (ta, tz) ++ (powB na ta ++ powB nz tz)) from by rw [HTX.out]; unfold txtB1; simp only [List.append_assoc])
            have hl1 := sgT_len k tc
            have hl2 : (bs ++ sgT k tc).length = bs.length + (sgT k tc).length := List.length_append
            clear HTX hst
            generalize bs ++ sgT k tc = b1 at *
            have hcc : 0 ≤ cabs tc ∧ cabs tc ≤ 1125899906842624 := by unfold cabs; split <;> omega
            obtain ⟨ca, hca⟩ : ∃ ca, ca = cabs tc := ⟨_, rfl⟩
            have HCA := Lib.hid hca
            rw [← hca] at hcc ⊢
            clear hca
            go_upto_region 16 with fail
            obtain ⟨D, hD⟩ : ∃ D, D = decide (ca ≠ 1 ∨ (ta = 0 ∧ tz = 0)) := ⟨_, rfl⟩
            have HD := Lib.hid hD
            clear hD
            have qt := HQT.out wc b1 hst1
            go_cut [11, 24, 9, 50] from 24 to 64 (fun s11 s24 s9 s50 wx => s11 = .int .i64 ca ∧ s24 = .int .i64 (k : Int) ∧ s9 = .int .i64 (k : Int) ∧ s50 = .bool D ∧ wx = wc)
            case first =>
              have x0 := qt.cell 0
              have x1 := qt.cell 1
              by_cases c1 : ca = 1
              · have z3 : (ca != 1) = false := by simp [c1]
                by_cases c2 : ta = 0
                · have z4 : (ta == 0) = true := by simp [c2]
                  by_cases c3 : tz = 0
                  · have z5 : (tz == 0) = true := by simp [c3]
                    have HE := Lib.hid (HD.out.trans (decide_eq_true (.inr ⟨c2, c3⟩)))
                    clear c1 c2 c3
                    go_wp2_with fail
                    go_meet
                    case rel => exact ⟨rfl, rfl, rfl, by rw [HE.out], rfl⟩
                  · have z5 : (tz == 0) = false := by simp [c3]
                    have HE := Lib.hid (HD.out.trans (decide_eq_false (fun h => h.elim (fun h => h c1) (fun h => c3 h.2))))
                    clear c1 c2 c3
                    go_wp2_with fail
                    go_meet
                    case rel => exact ⟨rfl, rfl, rfl, by rw [HE.out], rfl⟩
                · have z4 : (ta == 0) = false := by simp [c2]
                  have HE := Lib.hid (HD.out.trans (decide_eq_false (fun h => h.elim (fun h => h c1) (fun h => c2 h.1))))
                  clear c1 c2
                  go_wp2_with fail
                  go_meet
                  case rel => exact ⟨rfl, rfl, rfl, by rw [HE.out], rfl⟩
              · have z3 : (ca != 1) = true := by simp [c1]
                have HE := Lib.hid (HD.out.trans (decide_eq_true (.inl c1)))
                clear c1
                go_wp2_with fail
                go_meet
                case rel => exact ⟨rfl, rfl, rfl, by rw [HE.out], rfl⟩
            case rest =>
              obtain ⟨rfl, rfl, rfl, rfl, rfl⟩ := hcut
              have HC2 := Lib.hid (show coB tc (ta, tz) = if D = true then Lib.itoa ca else [] from by
                rw [HD.out, HCA.out]; unfold coB
                simp only
                by_cases c1 : cabs tc = 1 ∧ ¬ (ta = 0 ∧ tz = 0)
                · rw [if_pos c1, if_neg]
                  intro h
                  have := of_decide_eq_true h
                  rcases this with h | h
                  · exact h c1.1
                  · exact c1.2 h
                · rw [if_neg c1, if_pos]
                  refine decide_eq_true ?_
                  by_cases c2 : cabs tc = 1
                  · by_cases c3 : ta = 0 ∧ tz = 0
                    · exact .inr c3
                    · exact absurd ⟨c2, c3⟩ c1
                  · exact .inl c2)
              clear qt
              go_upto_if 50 with fail
              go_cut [24] from 24 to 64 (fun s24 wx => s24 = .int .i64 (k : Int) ∧ BxSt w w5 (b1 ++ coB tc (ta, tz)) wx)
              case first =>
                cases D with
                | false =>
                  go_wp2_with fail
                  go_meet
                  case rel => exact ⟨rfl, by rw [HC2.out, if_neg (by simp), List.append_nil]; exact hst1⟩
                | true =>
                  have HI := Lib.hid (hst1.itoa ht ca (by omega) (by omega))
                  have hil := Lib.itoa_length_le ca (by omega) (by omega)
                  have HC3 := Lib.hid (HC2.out.trans (if_pos rfl))
                  clear HC2
                  go_wp2_with fail
                  refine HI.out.mono ?_
                  rintro e w6 ⟨rfl, h6⟩
                  have HS := Lib.hid (h6.str (by omega) (Lib.itoa ca) (by omega))
                  go_wp2_with fail
                  refine HS.out.mono ?_
                  rintro e w7 ⟨⟨q, rfl⟩, h7⟩
                  go_wp2_with fail
                  go_meet
                  case rel => exact ⟨rfl, by rw [HC3.out]; exact h7⟩
              case rest =>
                obtain ⟨rfl, hst2⟩ := hcut
                have hl3 := coB_len (c := tc) (e := (ta, tz)) hco
                have hl4 : (b1 ++ coB tc (ta, tz)).length = b1.length + (coB tc (ta, tz)).length := List.length_append
                have HTX2 := Lib.hid (show txtBU na nz l (k + 1) = ((b1 ++ coB tc (ta, tz)) ++ powB na ta) ++ powB nz tz from by rw [HTX1.out]; simp only [List.append_assoc])
                clear HTX1 hst1 HC2
                generalize b1 ++ coB tc (ta, tz) = b2 at *
                have x0 := (HQT.out wc b2 hst2).cell 0
                have HP1 := Lib.hid (pow_any hst2 (by omega) na hn ta hea ht)
                have hl5 := powB_len hn hea
                have hl6 : (b2 ++ powB na ta).length = b2.length + (powB na ta).length := List.length_append
                go_wp2_with fail
                refine HP1.out.mono ?_
                rintro e w6 ⟨rfl, h6⟩
                have x1 := (HQT.out w6 _ h6).cell 1
                have HP2 := Lib.hid (pow_any h6 (by omega) nz hz tz hez ht)
                clear HP1 hst2 h6 x0
                go_wp2_with fail
                refine HP2.out.mono ?_
                rintro e w7 ⟨rfl, h7⟩
                have H7 := Lib.hid h7
                have HE := Lib.hid HTX2.out
                clear HP2 x1 h7 HTX2
                go_wp2_with fail
                go_roundg (l.length - (k + 1))
                case measure => omega
                case rel => exact ⟨k + 1, by omega, rfl, by go_num, by rw [HE.out]; exact H7.out.ib, H7.out.bel, H7.out.sz⟩
        · have z2 : ¬ ((k : Int) < (l.length : Int)) := by omega
          obtain rfl : k = l.length := by omega
          have HS := Lib.hid (Tryz.Builder_String_any (w.heap.size + 1) (w.heap.size + 1) (txtBU na nz l l.length) wr hib (by omega))
          clear hib
          go_wp2_with fail
          refine HS.out.mono ?_
          rintro e w6 ⟨rfl, h6⟩
          go_wp2_with fail
          go_ret
          exact ⟨by rw [HT2.out]; rfl, hbr.trans (h6.mono (by omega))⟩
end Go.Proofs.YtbfggncmjdhapaaGreatDoor

namespace Go.Proofs.YtbfggncmjdhapaaGreatDoor
open Go.RowKit
set_option linter.unusedVariables false

section
variable {P : Program} {Q : Exit → Act → World → Prop}
theorem wp_region_phim {id : Nat} {l : List Oper} {a : Act} {w0 : World} (n : Nat) (late : Nat → Bool) (hm : P.follows .mixedOrders = true) (hd : apartD (dstOf l.toArray) = true) (hb : backD l.toArray = true) (hg : l.all (fun o => o.guard.isNone) = true) (hn : inD a.tmps.size (dstOf l.toArray) = true)
    (hlt : late n = false) (hnl2 : n < l.length) (hneed : needL l.toArray n late = true)
    (e : Nat → Option Value) (Φ : Nat → Value → World → Prop) (hΦ : ∀ i v w w', Φ i v w → Below w.heap.size w w' → Φ i v w') (hv : ∀ i u v w, Φ i u w → e i = some v → u = v) (R : (Nat → Value) → World → Prop) (hRl : ∀ x w i v, late i = true → R x w → R (upd x i v) w)
    (hstep : AllOps (fun i o => ∀ (x : Nat → Value) w (b : Act), (∀ j, i ∈ depsAt l.toArray j → x j = slotV a ((dstOf l.toArray).getD (j - 0) none)) → (∀ t : Nat, b.tmps[t]?.getD undef = look (dstOf l.toArray) x a t) →
      (late i = false → i ≠ n → Below w0.heap.size w0 w → (∀ j ∈ deps o, Φ j (x j) w) → o.wp P b w (PhiPost w Φ i b o.dst) NoQ) ∧
      (i = n → Below w0.heap.size w0 w → (∀ j ∈ deps o, Φ j (x j) w) → (∀ j, j < l.length → late j = false → j ≠ n → Φ j (x j) w) → o.wp P b w (fun a' w' => ∃ v, a' = b.put o.dst v ∧ R (upd x n v) w' ∧ ∀ u, e n = some u → v = u) NoQ) ∧
      (late i = true → (∀ j ∈ deps o, ∀ v, e j = some v → x j = v) → (R x w ∨ (Below w0.heap.size w0 w ∧ ∀ j ∈ deps o, Φ j (x j) w)) → ∃ v, e i = some v ∧ (execOp b.eval o).run P w = .ok (.value v) w ∧ Φ i v w)) 0 l)
    (hend : ∀ (x : Nat → Value) w, R x w → (∀ i v, i < l.length → e i = some v → x i = v) → Q .normal (putAll (dstOf l.toArray) 0 x a) w) : (Code.region id l.toArray true).wp P Q a w0 := by
  refine wp_region_facts2U hm hd hb hg hn (PhlI w0 n e Φ R (fun j => slotV a ((dstOf l.toArray).getD (j - 0) none))) ⟨fun i v h => Bool.noConfusion h, fun _ _ => rfl, by rw [if_neg (by simp)]; exact ⟨(Below.refl _ _).drew, fun i h => Bool.noConfusion h⟩⟩ ?_ ?_
  · have key : ∀ k o, l[k]? = some o → ∀ D x W (b : Act), PhlI w0 n e Φ R (fun j => slotV a ((dstOf l.toArray).getD (j - 0) none)) D x W → D k = false → (∀ j ∈ deps o, D j = true) → (∀ j, D j = true → ∀ q ∈ depsAt l.toArray j, D q = true) → (∀ t : Nat, b.tmps[t]?.getD undef = look (dstOf l.toArray) x a t) → o.wp P b W (StepPost (PhlI w0 n e Φ R (fun j => slotV a ((dstOf l.toArray).getD (j - 0) none))) D x k b o.dst) NoQ := by
      intro k o ho D x W b hI hD hdep hcl hbt
      have hklt : k < l.length := (List.getElem?_eq_some_iff.1 ho).1
      have hs := hstep.get _ _ k o ho x W b (fun j hj => hI.old j (by
        cases h : D j with
        | false => rfl
        | true =>
          rw [Nat.zero_add] at hj
          have := hcl j h k hj
          rw [hD] at this; cases this)) hbt
      rw [Nat.zero_add] at hs
      obtain ⟨s1, s2, s3⟩ := hs
      have hold : ∀ v, ∀ i, upd D k true i = false → upd x k v i = slotV a ((dstOf l.toArray).getD (i - 0) none) := fun v i hi => by
        by_cases q : i = k
        · subst q; rw [upd_same] at hi; cases hi
        · rw [upd_ne _ _ q] at hi ⊢; exact hI.old i hi
      have hval : ∀ v, (∀ u, e k = some u → v = u) → ∀ i u, upd D k true i = true → e i = some u → upd x k v i = u := fun v hvk i u hi hu => by
        by_cases q : i = k
        · subst q; rw [upd_same]; exact hvk u hu
        · rw [upd_ne _ _ q] at hi ⊢; exact hI.val i u hi hu
      have hst := hI.st
      by_cases hkn : k = n
      · subst hkn
        rw [hD, if_neg (by simp)] at hst
        have hall : ∀ j, j < l.length → late j = false → j ≠ k → D j = true := by
          intro j hj hlj hjk
          have hcl' : ∀ j, upd D k true j = true → ∀ q ∈ depsAt l.toArray j, upd D k true q = true := by
            intro j hj q hq
            by_cases eq : q = k
            · subst eq; rw [upd_same]
            rw [upd_ne _ _ eq]
            by_cases ej : j = k
            · subst ej
              have : depsAt l.toArray j = deps o := by
                have h1 : l.toArray[j]? = some o := by simpa using ho
                simp [depsAt, h1]
              rw [this] at hq
              exact hdep q hq
            · rw [upd_ne _ _ ej] at hj
              exact hcl j hj q hq
          have := needL_all hneed hcl' (upd_same _ _ _) _ j (by simpa using hj) (Nat.le_refl _) hlj
          rwa [upd_ne _ _ hjk] at this
        refine Oper.wp_mono ?_ (s2 rfl hst.1 (fun j hj => hst.2 j (hdep j hj)) (fun j h1 h2 h3 => hst.2 j (hall j h1 h2 h3)))
        rintro a' w' ⟨v, rfl, hR, hvk⟩
        exact ⟨v, rfl, hval v hvk, hold v, by rw [upd_same, if_pos rfl]; exact hR⟩
      · cases hl : late k with
        | true =>
          obtain ⟨v, hev, hrun, hΦv⟩ := s3 hl (fun j hj u hu => hI.val j u (hdep j hj) hu) (by
            by_cases hDn : D n = true
            · rw [if_pos hDn] at hst; exact .inl hst
            · rw [if_neg hDn] at hst; exact .inr ⟨hst.1, fun j hj => hst.2 j (hdep j hj)⟩)
          unfold Oper.wp
          rw [hrun]
          refine ⟨v, rfl, hval v (fun u hu => by rw [hev] at hu; injection hu), hold v, ?_⟩
          rw [upd_ne _ _ (Ne.symm hkn)]
          by_cases hDn : D n = true
          · rw [if_pos hDn] at hst ⊢; exact hRl _ _ _ _ hl hst
          · rw [if_neg hDn] at hst ⊢
            refine ⟨hst.1, fun i hi => ?_⟩
            by_cases q : i = k
            · subst q; rw [upd_same]; exact hΦv
            · rw [upd_ne _ _ q] at hi ⊢; exact hst.2 i hi
        | false =>
          have hDn : ¬ D n = true := fun hDn => by
            have := needL_all hneed hcl hDn _ k (by simpa using hklt) (Nat.le_refl _) hl
            rw [hD] at this; cases this
          rw [if_neg hDn] at hst
          refine Oper.wp_mono ?_ (s1 hl hkn hst.1 (fun j hj => hst.2 j (hdep j hj)))
          rintro a' w' ⟨v, rfl, hb', hv'⟩
          refine ⟨v, rfl, hval v (fun u hu => hv _ _ _ _ hv' hu), hold v, ?_⟩
          rw [upd_ne _ _ (Ne.symm hkn), if_neg hDn]
          refine ⟨hst.1.trans (hb'.mono hst.1.size), fun i hi => ?_⟩
          by_cases q : i = k
          · subst q; rw [upd_same]; exact hv'
          · rw [upd_ne _ _ q] at hi ⊢
            exact hΦ i (x i) W w' (hst.2 i hi) hb'
    have aux : ∀ (r : List Oper) (s : Nat), (∀ k, r[k]? = l[s + k]?) → AllOps (fun i o => ∀ D x W (b : Act), PhlI w0 n e Φ R (fun j => slotV a ((dstOf l.toArray).getD (j - 0) none)) D x W → D i = false → (∀ j ∈ deps o, D j = true) → (∀ j, D j = true → ∀ q ∈ depsAt l.toArray j, D q = true) → (∀ t : Nat, b.tmps[t]?.getD undef = look (dstOf l.toArray) x a t) → o.wp P b W (StepPost (PhlI w0 n e Φ R (fun j => slotV a ((dstOf l.toArray).getD (j - 0) none))) D x i b o.dst) NoQ) s r := by
      intro r
      induction r with
      | nil => intro s _; trivial
      | cons o r ih =>
        intro s hr
        refine ⟨key s o (by have := hr 0; simpa using this.symm), ih (s + 1) (fun k => ?_)⟩
        have := hr (k + 1)
        rw [List.getElem?_cons_succ] at this
        rw [this]; congr 1; omega
    exact aux l 0 (fun k => by rw [Nat.zero_add])
  · intro D x W hI hall
    have hst := hI.st
    have hnl : n < l.length ∨ ¬ n < l.length := by omega
    by_cases hDn : D n = true
    · rw [if_pos hDn] at hst
      exact hend x W hst (fun i v hi hv2 => hI.val i v (hall i hi) hv2)
    · rcases hnl with h | h
      · exact absurd (hall n h) hDn
      · exact absurd hnl2 h
end
end Go.Proofs.YtbfggncmjdhapaaGreatDoor
