/- package unknot: Closed. -/
/- package unknot: Closed, at whatever lists. -/
/- package unknot: Reached. -/
/- package unknot: searches with other budgets: contracts. -/
/- package unknot: what a verdict and the list of the reachable classes have to do with each other (plain). -/
import Derived.Test.YteliflcbegcdlaaGreatDoorWwTwo
import Derived.Test.YteliflcbegcdlaaGreatDoorWwGrf
import Derived.Test.YteliflcbegcdlaaGreatDoorWwAwu
import Derived.Deep.LoopGhost
import Derived.Test.YteliflcbegcdlaaGreatDoorWwFmb
import Derived.Test.YteliflcbegcdlaaGreatDoorWwGso
import Derived.Test.YteliflcbegcdlaaGreatDoorWwPlc
namespace Go.Proofs.YteliflcbegcdlaaGreatDoor
open Go.RowKit Go.Shelf
set_option linter.unusedVariables false
attribute [local go_sem] Oper.semAt_some
section
variable {n0 b2 b4 b5 M gB k l : Nat} {gc : List Value} {w W W' : World} {gs : List Gd} {Ds : List Nat} {h : Gd} {cs : List Value} {o : Obj}
end
end Go.Proofs.YteliflcbegcdlaaGreatDoor

namespace Go.Proofs.YteliflcbegcdlaaGreatDoor
open Go.RowKit Go.Shelf
set_option linter.unusedVariables false
attribute [local go_sem] Oper.semAt_some
end Go.Proofs.YteliflcbegcdlaaGreatDoor

namespace Go.Proofs.YteliflcbegcdlaaGreatDoor
open Go.RowKit Go.Shelf
set_option linter.unusedVariables false
theorem Run.no_found {most : Int} {s : St} {r : Res} {short : Bool} (h : Run most short s r) : short = false → ∀ K c, r ≠ .found K c := by
  induction h with
  | done _ => intro _ K c e; cases e
  | found _ h _ => intro e; rw [e] at h; cases h
  | fuel _ _ _ => intro _ K c e; cases e
  | step _ _ _ _ ih => exact ih
theorem Exq.no_found {most : Int} {g : Gd} {K : List En} {c : Gd} (h : Exq most false g (.found K c)) : False := by
  cases h with
  | some _ hr => exact hr.no_found rfl K c rfl
/-- what Reached answers -/
def ReP (most : Int) (g : Gd) (w : World) (e : Ending) (w' : World) : Prop :=
  Below w.heap.size w w' ∧
  ((¬ VdG g ∧ e = .returned (.tuple #[.slice none 0 0, .int .i64 1])) ∨
   (VdG g ∧ 1 < comp g.1 g.2 ∧ e = .returned (.tuple #[.slice none 0 0, .int .i64 16])) ∨
   (VdG g ∧ comp g.1 g.2 ≤ 1 ∧ ∃ r, Exq most false g r ∧
     ((r = .fuel ∧ e = .returned (.tuple #[.slice none 0 0, .int .i64 13])) ∨
      ∃ K v gs, r = .done K ∧ gs.Perm (K.map En.key) ∧ SrtG gs ∧ Gds w' v gs ∧ e = .returned (.tuple #[v, .int .i64 0]))))
set_option maxHeartbeats 4000000 in
set_option maxRecDepth 100000 in
theorem Reached_anyW (vx vo : Value) (X O : List Int) (most : Int) (w : World) (hX : Ints w vx X) (hO : Ints w vo O) (lX : X.length ≤ 1000) (lO : O.length ≤ 1000) (hm : most ≤ 90000000 ∨ X.length ≤ 5) (ht : Tb w) :
    Calls Tryz.prog 7 #[.agg #[vx, vo], .int .i64 most] w (ReP most (X, O) w) := by
  have HE := Lib.hid (fun W (hb : Below w.heap.size w W) => explore_anyW vx vo X O most false W (hX.below hb) (hO.below hb) lX lO hm (ht.below hb))
  obtain ⟨A, c, rfl, -, -⟩ := hX
  obtain ⟨A2, c2, rfl, -, -⟩ := hO
  have HM := Lib.hid hm
  clear lX lO hm ht
  go_enter Tryz.func7, Tryz.ntmps7
  go_upto_region 1 with fail
  have hal := (Below.refl w.heap.size w).alloc (Nat.le_refl _) (.cells #[.slice A X.length c, .slice A2 O.length c2] 24)
  have X0 := Lib.hid (show Arr (w.alloc (.cells #[.slice A X.length c, .slice A2 O.length c2] 24)) w.heap.size 24 [.slice A X.length c, .slice A2 O.length c2] from Arr.new w _ [_, _])
  have HB1 := Lib.hid hal
  generalize w.alloc (.cells #[.slice A X.length c, .slice A2 O.length c2] 24) = w1 at X0 HB1 ⊢
  clear hal
  have y0 := X0.out.cell 0
  have y1 := X0.out.cell 1
  have HE1 := Lib.hid (HE.out w1 HB1.out)
  clear HE
  go_wp2_with fail
  refine HE1.out.mono ?_
  rintro e2 w2 ⟨hb2, hc⟩
  have HB2 := Lib.hid (HB1.out.trans (hb2.mono HB1.out.size))
  have hSZ := HB1.out.size
  clear y0 y1 HE1
  rcases hc with ⟨hv, rfl⟩ | ⟨hv, hc, rfl⟩ | ⟨hv, hc, r, hr, (⟨rfl, rfl⟩ | ⟨K, W, gS, p, hsi, hst, how, (⟨rfl, rfl⟩ | ⟨cl, rfl, rfl⟩)⟩)⟩
  · have HVD := Lib.hid hv
    clear hv
    go_wp2_with fail
    refine bodyPost_ret (results_tmp2 rfl _ _ _) rfl ?_
    exact ⟨HB2.out, .inl ⟨HVD.out, rfl⟩⟩
  · have HVD := Lib.hid (And.intro hv hc)
    clear hv hc
    go_wp2_with fail
    refine bodyPost_ret (results_tmp2 rfl _ _ _) rfl ?_
    exact ⟨HB2.out, .inr (.inl ⟨HVD.out.1, HVD.out.2, rfl⟩)⟩
  · have HVD := Lib.hid (And.intro hv (And.intro hc hr))
    clear hv hc hr
    go_wp2_with fail
    refine bodyPost_ret (results_tmp2 rfl _ _ _) rfl ?_
    exact ⟨HB2.out, .inr (.inr ⟨HVD.out.1, HVD.out.2.1, _, HVD.out.2.2, .inl ⟨rfl, rfl⟩⟩)⟩
  · have HVD := Lib.hid (And.intro hv (And.intro hc hr))
    obtain ⟨cs, hq, hal⟩ := hsi.cls
    have hds := hsi.hd
    have hne : sBlk p.vC ≠ some gS := by
      intro e
      obtain ⟨cs2, fr, h2⟩ := hq.typ _ e
      have h3 : w2.heap[gS]? = some _ := hds
      rw [h2] at h3
      injection h3 with h3
      injection h3 with _ h3 _
      exact absurd h3 (by decide)
    have hK : 0 < K.length ∧ K.length ≤ 90000000 := by
      constructor
      · obtain ⟨A3, hA, hn, _⟩ := (Exq.pl (g := (X, O)) hv hr).1 K rfl
        have := hA.1
        cases A3 with
        | nil => exact absurd rfl hn
        | cons a t => simp at this; omega
      · rcases HM.out with hm | hm
        · have := hr.most K (.inl rfl)
          omega
        · obtain ⟨A3, hA, hn, _⟩ := (Exq.pl (g := (X, O)) hv hr).1 K rfl
          have := ((alg_kl hA).mono hm).len2 hst.v1 hst.nd
          simp only at this
          omega
    have hlen : ∀ g ∈ K.map En.key, g.1.length ≤ 1000000 ∧ g.2.length ≤ 1000000 := by
      intro g hg
      obtain ⟨e, he, rfl⟩ := List.mem_map.1 hg
      have := hst.v1 e he
      have h1 := this.most
      have h2 := this.len
      omega
    have hbs : ∀ b, sBlk p.vC = some b → w.heap.size ≤ b := fun b hb => Nat.le_trans hSZ (how b (.inr (.inr (.inr (.inl hb)))))
    have HS := Lib.hid (sortG_any w.heap.size p.vC cs (K.map En.key) w2 (hq.up hbs) hal (by rw [List.length_map]; exact hK.1) (by rw [List.length_map]; omega) hlen)
    have hgl : gS < w2.heap.size := hds.lt
    have HDS := Lib.hid hds
    obtain ⟨Ac, cc, hvc⟩ := hq.form
    have HNE := Lib.hid hne
    have HGL := Lib.hid hgl
    obtain ⟨vC, hvC⟩ : ∃ v, v = p.vC := ⟨_, rfl⟩
    rw [← hvC] at HS HDS HNE
    have y2 := HDS.out.cell 2
    obtain ⟨csn, hcsn⟩ : ∃ n, n = cs.length := ⟨_, rfl⟩
    rw [← hvC, ← hcsn] at hvc
    clear hv hc hr hq hal hds hne hK hlen hbs hgl hvC hcsn hsi hst how hSZ
    subst hvc
    simp only [List.getElem?_cons_succ, List.getElem?_cons_zero] at y2
    go_wp2_with fail
    refine HS.out.mono ?_
    rintro e3 w3 ⟨rfl, ⟨gs, hp, hpw, hg⟩, hb3, hk⟩
    have hd3 := (World.cell?_of_block (a := ⟨gS, 2, none⟩) (hk gS HNE.out HGL.out)).trans y2
    have HB3 := Lib.hid (HB2.out.trans hb3)
    have HP := Lib.hid (And.intro hp (And.intro hpw hg))
    clear hp hpw hg hb3 hk y2 HS HDS
    go_wp2_with fail
    refine bodyPost_ret (results_tmp2 rfl _ _ _) rfl ?_
    exact ⟨HB3.out, .inr (.inr ⟨HVD.out.1, HVD.out.2.1, _, HVD.out.2.2, .inr ⟨K, _, gs, rfl, HP.out.1, HP.out.2.1, HP.out.2.2, rfl⟩⟩)⟩
  · exact (Exq.no_found hr).elim
end Go.Proofs.YteliflcbegcdlaaGreatDoor

namespace Go.Proofs.YteliflcbegcdlaaGreatDoor
open Go.RowKit Go.Shelf
set_option linter.unusedVariables false
theorem Exq.other {n m : Int} {g : Gd} {K : List En} {short : Bool} {r' : Res} (h : Exq n false g (.done K)) (h' : Exq m short g r') :
    (r' = .fuel ∧ m < (K.length : Int)) ∨ r' = .done K ∨ (short = true ∧ ∃ K' c, r' = .found K' c) := by
  cases h with
  | some ha hr =>
    cases h' with
    | none ha' =>
      rcases addM_other (m := m) ha with q | ⟨q, q2⟩
      · rw [q] at ha'; cases ha'
      · obtain ⟨E, e1⟩ := hr.len (.inl rfl)
        exact .inl ⟨rfl, by rw [e1, List.length_append]; omega⟩
    | some ha' hr' =>
      rcases addM_other (m := m) ha with q | ⟨q, q2⟩
      · rw [q] at ha'; injection ha' with ha'; subst ha'
        exact hr.other rfl hr'
      · rw [q] at ha'; cases ha'
section
variable {va vb : Value} {X O : List Int} {w : World} {K : List En} {m : Int}
end
end Go.Proofs.YteliflcbegcdlaaGreatDoor

namespace Go.Proofs.YteliflcbegcdlaaGreatDoor
open Go.RowKit Go.Shelf
set_option linter.unusedVariables false
section
variable {g : Gd} {K : List En} {gs : List Gd}
theorem alg_key {A : List Gd} (hA : Alg g K A) {a : Gd} (ha : a ∈ A) : lstM a ∈ K.map En.key ∧ VdG a := by
  obtain ⟨i, e, k1, _, k3, k4⟩ := hA.get ha
  exact ⟨by rw [k3]; exact List.mem_map.2 ⟨e, List.mem_of_getElem? k1, rfl⟩, k4⟩
end
end Go.Proofs.YteliflcbegcdlaaGreatDoor
