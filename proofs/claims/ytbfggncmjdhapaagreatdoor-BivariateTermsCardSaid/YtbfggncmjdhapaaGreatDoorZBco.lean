/- bivariate.Coef: the comparison, slices.BinarySearchFunc at terms. -/
import Derived.Test.YtbfggncmjdhapaaGreatDoorZBso
import Derived.Test.YtbfggncmjdhapaaGreatDoorZBeq
import Derived.Test.YtbfggncmjdhapaaGreatDoorZPhx
namespace Go.Proofs.YtbfggncmjdhapaaGreatDoor
open Go.RowKit
set_option linter.unusedVariables false

set_option maxHeartbeats 2000000 in
set_option maxRecDepth 100000 in
theorem bccmp_any (x y : T2) (W : World) : Calls Tryz.prog 66 #[.agg #[.int .i64 x.1.1, .int .i64 x.1.2, .int .i64 x.2], .agg #[.int .i64 y.1.1, .int .i64 y.1.2, .int .i64 y.2]] W fun e w' => e = .returned (.int .i64 (cfB x y)) ∧ ∃ q os', w' = Sort.grow (W.drewN q) os' := by
  have HC1 := Lib.hid (fun W' => Tryz.cmp_Compare_int x.1.1 y.1.1 W')
  have HC2 := Lib.hid (fun W' => Tryz.cmp_Compare_int x.1.2 y.1.2 W')
  unfold cfB
  generalize Lib.compareInt x.1.1 y.1.1 = r1 at *
  generalize Lib.compareInt x.1.2 y.1.2 = r2 at *
  generalize x.1.1 = x1 at *
  generalize x.1.2 = x2 at *
  generalize x.2 = xc at *
  generalize y.1.1 = y1 at *
  generalize y.1.2 = y2 at *
  generalize y.2 = yc at *
  obtain ⟨rr, hrr⟩ : ∃ rr, rr = if r1 = 0 then r2 else r1 := ⟨_, rfl⟩
  rw [← hrr]
  have HRR := Lib.hid hrr
  clear hrr
  have hW : ∀ w, w = (W.alloc (.cells #[.int .i64 x1, .int .i64 x2, .int .i64 xc] 65)).alloc (.cells #[.int .i64 y1, .int .i64 y2, .int .i64 yc] 65) → Arr w W.heap.size 65 [.int .i64 x1, .int .i64 x2, .int .i64 xc] ∧ Arr w (W.heap.size + 1) 65 [.int .i64 y1, .int .i64 y2, .int .i64 yc] ∧ Grw W w := by
    intro w hw
    subst hw
    exact ⟨(Arr.new _ _ [_, _, _]).alloc _, Arr.newAt (W.alloc _) _ [_, _, _] _ (by simp), (Grw.alloc _ _).trans (Grw.alloc _ _)⟩
  go_enter Tryz.func66, Tryz.ntmps66
  go_upto_region 1 with fail
  generalize (W.alloc (.cells #[.int .i64 x1, .int .i64 x2, .int .i64 xc] 65)).alloc (.cells #[.int .i64 y1, .int .i64 y2, .int .i64 yc] 65) = w3 at hW ⊢
  obtain ⟨q1, q2, hg3⟩ := hW w3 rfl
  obtain ⟨B1, hB1⟩ : ∃ B, B = W.heap.size := ⟨_, rfl⟩
  obtain ⟨B2, hB2⟩ : ∃ B, B = W.heap.size + 1 := ⟨_, rfl⟩
  rw [← hB2] at q2
  try rw [← hB2]
  rw [← hB1] at q1 ⊢
  rw [← hB1] at hB2
  try rw [← hB2]
  have Q1 := Lib.hid q1
  have Q2 := Lib.hid q2
  have HG3 := Lib.hid hg3
  clear q1 q2 hg3 hW hB1 hB2
  refine wp_region_phw Grw Grw.refl Grw.trans Grw.drew (by kernel_rfl) (by kernel_rfl) (by kernel_rfl) (by kernel_rfl) (by kernel_rfl) (phiT (fun i => ([some (.pointer (some ⟨B1, 0, none⟩)), some (.int .i64 x1), some (.pointer (some ⟨B2, 0, none⟩)), some (.int .i64 y1), some (.int .i64 r1), some (.pointer (some ⟨B1, 1, none⟩)), some (.int .i64 x2), some (.pointer (some ⟨B2, 1, none⟩)), some (.int .i64 y2), some (.int .i64 r2), none, some (.int .i64 rr), some (.int .i64 rr)] : List (Option Value)).getD i none) (fun i v w => (if i = 10 then (fun v w => ∃ g, v = .slice (some ⟨g, 0, none⟩) 2 2 ∧ Arr w g 3 [.int .i64 r1, .int .i64 r2]) v w else True))) (fun i v w w' h hb => ?_) ⟨?_, ?_, ?_, ?_, ?_, ?_, ?_, ?_, ?_, ?_, ?_, ?_, ?_, trivial⟩ ?_
  · unfold phiT at h ⊢
    split
    · next u hu => rw [hu] at h; exact h
    · next hu =>
      rw [hu] at h
      simp only at h ⊢
      by_cases q10 : i = 10
      · rw [if_pos q10] at h ⊢; exact by obtain ⟨g, h1, h2⟩ := h; exact ⟨g, h1, h2.below hb.below h2.lt⟩
      · rw [if_neg q10] at h ⊢
        trivial
  · intro x w1 bA hbel hdep hold hb
    have e2 : bA.tmps[2]?.getD undef = .pointer (some ⟨B1, 0, none⟩) := hb 2
    refine phw_run Grw.refl (.pointer (some ⟨B1, 0, none⟩)) ?_ rfl
    clear hb hdep hold
    go_simp
  · intro x w1 bA hbel hdep hold hb
    have e5 : bA.tmps[5]?.getD undef = .pointer (some ⟨B1, 0, none⟩) := (hb 5).trans (hdep 0 (by decide))
    have cc := (Q1.out.below hbel.below Q1.out.lt).cell 0
    refine phw_run Grw.refl (.int .i64 x1) ?_ rfl
    clear hb hdep hold
    go_simp
  · intro x w1 bA hbel hdep hold hb
    have e3 : bA.tmps[3]?.getD undef = .pointer (some ⟨B2, 0, none⟩) := hb 3
    refine phw_run Grw.refl (.pointer (some ⟨B2, 0, none⟩)) ?_ rfl
    clear hb hdep hold
    go_simp
  · intro x w1 bA hbel hdep hold hb
    have e7 : bA.tmps[7]?.getD undef = .pointer (some ⟨B2, 0, none⟩) := (hb 7).trans (hdep 2 (by decide))
    have cc := (Q2.out.below hbel.below Q2.out.lt).cell 0
    refine phw_run Grw.refl (.int .i64 y1) ?_ rfl
    clear hb hdep hold
    go_simp
  · intro x w1 bA hbel hdep hold hb
    have e6 : bA.tmps[6]?.getD undef = .int .i64 x1 := (hb 6).trans (hdep 1 (by decide))
    have e8 : bA.tmps[8]?.getD undef = .int .i64 y1 := (hb 8).trans (hdep 3 (by decide))
    refine phw_call ?_ ((HC1.out w1).mono fun e w' h => ⟨_, h.1, by rw [h.2]; exact Grw.refl _, rfl⟩)
    clear hb hdep hold
    go_simp
  · intro x w1 bA hbel hdep hold hb
    have e2 : bA.tmps[2]?.getD undef = .pointer (some ⟨B1, 0, none⟩) := hb 2
    refine phw_run Grw.refl (.pointer (some ⟨B1, 1, none⟩)) ?_ rfl
    clear hb hdep hold
    go_simp
  · intro x w1 bA hbel hdep hold hb
    have e10 : bA.tmps[10]?.getD undef = .pointer (some ⟨B1, 1, none⟩) := (hb 10).trans (hdep 5 (by decide))
    have cc := (Q1.out.below hbel.below Q1.out.lt).cell 1
    refine phw_run Grw.refl (.int .i64 x2) ?_ rfl
    clear hb hdep hold
    go_simp
  · intro x w1 bA hbel hdep hold hb
    have e3 : bA.tmps[3]?.getD undef = .pointer (some ⟨B2, 0, none⟩) := hb 3
    refine phw_run Grw.refl (.pointer (some ⟨B2, 1, none⟩)) ?_ rfl
    clear hb hdep hold
    go_simp
  · intro x w1 bA hbel hdep hold hb
    have e12 : bA.tmps[12]?.getD undef = .pointer (some ⟨B2, 1, none⟩) := (hb 12).trans (hdep 7 (by decide))
    have cc := (Q2.out.below hbel.below Q2.out.lt).cell 1
    refine phw_run Grw.refl (.int .i64 y2) ?_ rfl
    clear hb hdep hold
    go_simp
  · intro x w1 bA hbel hdep hold hb
    have e11 : bA.tmps[11]?.getD undef = .int .i64 x2 := (hb 11).trans (hdep 6 (by decide))
    have e13 : bA.tmps[13]?.getD undef = .int .i64 y2 := (hb 13).trans (hdep 8 (by decide))
    refine phw_call ?_ ((HC2.out w1).mono fun e w' h => ⟨_, h.1, by rw [h.2]; exact Grw.refl _, rfl⟩)
    clear hb hdep hold
    go_simp
  · intro x w1 bA hbel hdep hold hb
    have e9 : bA.tmps[9]?.getD undef = .int .i64 r1 := (hb 9).trans (hdep 4 (by decide))
    have e14 : bA.tmps[14]?.getD undef = .int .i64 r2 := (hb 14).trans (hdep 9 (by decide))
    refine phw_make (.slice (some ⟨w1.heap.size, 0, none⟩) 2 2) (w1.alloc (.cells #[.int .i64 r1, .int .i64 r2] 3)) ?_ (Grw.alloc _ _) (⟨w1.heap.size, rfl, Arr.new w1 3 [.int .i64 r1, .int .i64 r2]⟩)
    clear hb hdep hold
    go_simp
  · intro x w1 bA hbel hdep hold hb
    have p15 := hdep 10 (by decide)
    have e15 : bA.tmps[15]?.getD undef = x 10 := hb 15
    generalize x 10 = x15 at p15 e15
    have P15 := Lib.hid (show (fun v w => ∃ g, v = .slice (some ⟨g, 0, none⟩) 2 2 ∧ Arr w g 3 [.int .i64 r1, .int .i64 r2]) x15 w1 from p15)
    clear p15
    obtain ⟨gq, heq, haq⟩ := P15.out
    subst heq
    have HAQ := Lib.hid haq
    clear haq P15
    refine phw_call ?_ ((cor_any gq r1 r2 w1 HAQ.out).mono fun e w' h => ⟨.int .i64 rr, by rw [h.1, HRR.out], by rw [h.2]; exact Grw.refl _, rfl⟩)
    clear hb hdep hold
    go_simp
  · intro x w1 bA hbel hdep hold hb
    have e16 : bA.tmps[16]?.getD undef = .int .i64 rr := (hb 16).trans (hdep 11 (by decide))
    refine phw_run Grw.refl (.int .i64 rr) ?_ rfl
    clear hb hdep hold
    go_simp
  intro x w1 hbel hall
  have x0e : x 0 = .pointer (some ⟨B1, 0, none⟩) := hall 0 (by decide)
  have x1e : x 1 = .int .i64 x1 := hall 1 (by decide)
  have x2e : x 2 = .pointer (some ⟨B2, 0, none⟩) := hall 2 (by decide)
  have x3e : x 3 = .int .i64 y1 := hall 3 (by decide)
  have x4e : x 4 = .int .i64 r1 := hall 4 (by decide)
  have x5e : x 5 = .pointer (some ⟨B1, 1, none⟩) := hall 5 (by decide)
  have x6e : x 6 = .int .i64 x2 := hall 6 (by decide)
  have x7e : x 7 = .pointer (some ⟨B2, 1, none⟩) := hall 7 (by decide)
  have x8e : x 8 = .int .i64 y2 := hall 8 (by decide)
  have x9e : x 9 = .int .i64 r2 := hall 9 (by decide)
  have p15 := hall 10 (by decide)
  have x11e : x 11 = .int .i64 rr := hall 11 (by decide)
  have x12e : x 12 = .int .i64 rr := hall 12 (by decide)
  simp only [putAll, dstOf, Act.put, List.map_cons, List.map_nil, List.setIfInBounds_toArray, List.set_cons_succ, List.set_cons_zero, Nat.reduceAdd, x0e, x1e, x2e, x3e, x4e, x5e, x6e, x7e, x8e, x9e, x11e, x12e]
  clear x0e x1e x2e x3e x4e x5e x6e x7e x8e x9e x11e x12e hall
  clear p15
  have HG := Lib.hid (HG3.out.trans hbel)
  clear hbel
  go_wp2_with fail
  go_ret
  exact ⟨rfl, HG.out⟩
theorem btake_snoc {l : List T2} {k : Nat} (h : k < l.length) : l.take (k + 1) = l.take k ++ [l[k]] := by
  rw [List.take_add_one, List.getElem?_eq_getElem h]; rfl
theorem bsrt_drop {l : List T2} (h : Srt2 l) {i : Nat} (hi : i < l.length) : (∀ s ∈ l.take i, kb s.1 l[i].1) ∧ (∀ s ∈ l.drop (i + 1), kb l[i].1 s.1) := by
  have h2 : Srt2 (l.take i ++ l[i] :: l.drop (i + 1)) := by
    rw [← List.drop_eq_getElem_cons hi, List.take_append_drop]; exact h
  obtain ⟨a, b, c⟩ := List.pairwise_append.1 h2
  exact ⟨fun s hs => c s hs _ (List.mem_cons_self ..), (List.pairwise_cons.1 b).1⟩
theorem kb_not {a b : K2} (h : ¬ kb a b) {c : K2} (k : kb c b) : kb c a ∨ c = a := by
  rcases kb_tri c a with q | q | q
  · exact .inl q
  · exact .inr q
  · exact absurd (kb_trans q k) h
/-- what the search returns -/
def BbR (l : List T2) (e : K2) (w : World) (en : Ending) (w' : World) : Prop := Below w.heap.size w w' ∧ ∃ (i : Nat) (ok : Bool), en = .returned (.tuple #[.int .i64 (i : Int), .bool ok]) ∧ i ≤ l.length ∧ (ok = true → ∃ h : i < l.length, l[i].1 = e) ∧ (ok = false → cg2 l e = 0)
set_option maxHeartbeats 4000000 in
set_option maxRecDepth 100000 in
theorem bbsf_any (A : Option Addr) (c : Nat) (l : List T2) (ea ez : Int) (w : World) (hx : TmB w (.slice A l.length c) l) (kl : Srt2 l) (hl : l.length ≤ 1000000000) :
    Calls Tryz.prog 65 #[.slice A l.length c, .agg #[.int .i64 ea, .int .i64 ez, .int .i64 0], .func (.func 66) #[] #[]] w (BbR l (ea, ez) w) := by
  have HX := Lib.hid (fun W (hb : Below w.heap.size w W) => hx.below hb)
  have HK := Lib.hid kl
  have eg := enters_of Tryz.func66 (by kernel_rfl) rfl
  clear hx kl
  have hW : ∀ W, W = w.alloc (.cells #[.int .i64 ea, .int .i64 ez, .int .i64 0] 65) → Arr W w.heap.size 65 [.int .i64 ea, .int .i64 ez, .int .i64 0] ∧ Below w.heap.size w W := by
    intro W hW
    subst hW
    exact ⟨Arr.new _ _ [_, _, _], (Below.refl _ _).alloc (Nat.le_refl _) _⟩
  go_enter Tryz.func65, Tryz.ntmps65
  go_upto_region 1 with fail
  generalize w.alloc (.cells #[.int .i64 ea, .int .i64 ez, .int .i64 0] 65) = w3 at hW ⊢
  obtain ⟨qe, hb3⟩ := hW w3 rfl
  obtain ⟨B1, hB1⟩ : ∃ B, B = w.heap.size := ⟨_, rfl⟩
  rw [← hB1] at qe ⊢
  have Q3 := Lib.hid qe
  have HB3 := Lib.hid hb3
  clear hW qe hb3 hB1
  go_wp2_with fail
  go_loopg [9, 10, 11] l.length (fun gk s9 s10 s11 wr => ∃ lo hi : Nat, lo ≤ hi ∧ hi ≤ l.length ∧ gk = hi - lo ∧ s9 = .int .i64 (lo : Int) ∧ s10 = .int .i64 (hi : Int) ∧ Hid ((∀ s ∈ l.take lo, kb s.1 (ea, ez)) ∧ ∀ s ∈ l.drop hi, ¬ kb s.1 (ea, ez)) ∧ Arr wr B1 65 [.int .i64 ea, .int .i64 ez, .int .i64 0] ∧ Below w.heap.size w wr)
  case atStart => exact ⟨0, l.length, Nat.zero_le _, Nat.le_refl _, rfl, rfl, rfl, Lib.hid ⟨fun s h => by simp at h, fun s h => by simp at h⟩, Q3.out, HB3.out⟩
  case round =>
    obtain ⟨lo, hi, hlh, hhi, rfl, rfl, rfl, HI, hqe, hbr⟩ := hrel
    have QE := Lib.hid hqe
    have HBR := Lib.hid hbr
    clear Q3 HB3
    have HC := Lib.hid (fun (x : T2) W => bccmp_any x ((ea, ez), 0) W)
    by_cases hlt : lo < hi
    · have z1 : (lo : Int) < (hi : Int) := by omega
      obtain ⟨m, hm⟩ : ∃ m : Nat, m = (lo + hi) / 2 := ⟨_, rfl⟩
      have hml : m < l.length := by omega
      have HZ2 := Lib.hid (show (m : Int) < (l.length : Int) by omega)
      have z3 : ((lo : Int) + (hi : Int)) / 2 = (m : Int) := by omega
      obtain ⟨b, o, rfl, -, -, -, -⟩ := (HX.out wr hbr).at_ hml
      have HLC := Lib.hid (fun W (hb : Below wr.heap.size wr W) => ((HX.out W (hbr.trans (hb.mono hbr.size))).cells hml))
      have HL := Lib.hid (fun (h : kb l[m].1 (ea, ez)) => (show ∀ s ∈ l.take (m + 1), kb s.1 (ea, ez) from fun s hs => by
        rw [btake_snoc hml] at hs
        rcases List.mem_append.1 hs with hs | hs
        · exact kb_trans ((bsrt_drop HK.out hml).1 s hs) h
        · rw [List.mem_singleton.1 hs]; exact h))
      have HR := Lib.hid (fun (h : ¬ kb l[m].1 (ea, ez)) => (show ∀ s ∈ l.drop m, ¬ kb s.1 (ea, ez) from fun s hs => by
        rw [List.drop_eq_getElem_cons hml] at hs
        rcases List.mem_cons.1 hs with rfl | hs
        · exact h
        · exact fun q => h (kb_trans ((bsrt_drop HK.out hml).2 s hs) q)))
      have HCm := Lib.hid (fun W => HC.out l[m] W)
      have hcc := cfB_cases l[m] ((ea, ez), 0)
      generalize cfB l[m] ((ea, ez), 0) = r at HCm hcc
      have HCC := Lib.hid hcc
      clear hcc
      generalize l[m] = t at HCC HCm HL HR HLC
      obtain ⟨⟨t1, t2⟩, t3⟩ := t
      clear HC
      have HC := Lib.hid HCm.out
      clear HCm
      have hm1 : lo ≤ m := by omega
      have hm2 : m < hi := by omega
      clear hm hqe hbr
      dsimp only at *
      by_cases hr : r < 0
      · have HS := Lib.hid (HL.out (by
          rcases HCC.out with ⟨h, _⟩ | ⟨h, e⟩ | ⟨h, e⟩
          · exact h
          · omega
          · omega))
        have HR0 := Lib.hid hr
        clear HL HR HCC hr
        go_wp2_with fail
        refine wp_region_phy (fun a b => Below a.heap.size a b) (fun h k => h.trans (k.mono h.size)) ((Below.refl _ _).drew) (by kernel_rfl) (by kernel_rfl) (by kernel_rfl) (by kernel_rfl) (phiT (fun i => ([some (.func (.func 66) #[] #[]), some (.slice (some ⟨b, o, none⟩) l.length c), some (.int .i64 m), some (.pointer (some ⟨b, o + m * 3, none⟩)), some (.agg #[.int .i64 t1, .int .i64 t2, .int .i64 t3]), some (.agg #[.int .i64 ea, .int .i64 ez, .int .i64 0]), some (.int .i64 r), some (.bool true)] : List (Option Value)).getD i none) (fun i v w => True)) (fun i v w w' h hb => ?_) ⟨?_, ?_, ?_, ?_, ?_, ?_, ?_, ?_, trivial⟩ ?_
        · unfold phiT at h ⊢
          split
          · next u hu => rw [hu] at h; exact h
          · next hu =>
            rw [hu] at h
            exact True.intro
        · intro x w1 bA hT hdep hold hb
          refine .inl ⟨trivial, ?_⟩
          have e2 : bA.tmps[2]?.getD undef = .func (.func 66) #[] #[] := hb 2
          refine phx_run (.func (.func 66) #[] #[]) ?_ (Below.refl _ _) rfl
          clear hb hdep hold
          go_simp
        · intro x w1 bA hT hdep hold hb
          refine .inl ⟨trivial, ?_⟩
          have e0 : bA.tmps[0]?.getD undef = .slice (some ⟨b, o, none⟩) l.length c := hb 0
          refine phx_run (.slice (some ⟨b, o, none⟩) l.length c) ?_ (Below.refl _ _) rfl
          clear hb hdep hold
          go_simp
        · intro x w1 bA hT hdep hold hb
          refine .inl ⟨trivial, ?_⟩
          have e11 : bA.tmps[11]?.getD undef = .int .i64 m := hb 11
          refine phx_run (.int .i64 m) ?_ (Below.refl _ _) rfl
          clear hb hdep hold
          go_simp
        · intro x w1 bA hT hdep hold hb
          refine .inl ⟨trivial, ?_⟩
          have e25 : bA.tmps[25]?.getD undef = .slice (some ⟨b, o, none⟩) l.length c := (hb 25).trans (hdep 1 (by decide))
          have e26 : bA.tmps[26]?.getD undef = .int .i64 m := (hb 26).trans (hdep 2 (by decide))
          have zz := HZ2.out
          refine phx_run (.pointer (some ⟨b, o + m * 3, none⟩)) ?_ (Below.refl _ _) rfl
          clear hb hdep hold
          go_simp
        · intro x w1 bA hT hdep hold hb
          refine .inl ⟨trivial, ?_⟩
          have e27 : bA.tmps[27]?.getD undef = .pointer (some ⟨b, o + m * 3, none⟩) := (hb 27).trans (hdep 3 (by decide))
          have cc := HLC.out w1 hT
          obtain ⟨c0, c1, c2⟩ := cc
          refine phx_run (.agg #[.int .i64 t1, .int .i64 t2, .int .i64 t3]) ?_ (Below.refl _ _) rfl
          clear hb hdep hold
          go_simp
        · intro x w1 bA hT hdep hold hb
          refine .inl ⟨trivial, ?_⟩
          have e4 : bA.tmps[4]?.getD undef = .pointer (some ⟨B1, 0, none⟩) := hb 4
          have cc0 := (QE.out.below hT QE.out.lt).cell 0
          have cc1 := (QE.out.below hT QE.out.lt).cell 1
          have cc2 := (QE.out.below hT QE.out.lt).cell 2
          refine phx_run (.agg #[.int .i64 ea, .int .i64 ez, .int .i64 0]) ?_ (Below.refl _ _) rfl
          clear hb hdep hold
          go_simp
        · intro x w1 bA hT hdep hold hb
          refine .inl ⟨trivial, ?_⟩
          have e24 : bA.tmps[24]?.getD undef = .func (.func 66) #[] #[] := (hb 24).trans (hdep 0 (by decide))
          have e28 : bA.tmps[28]?.getD undef = .agg #[.int .i64 t1, .int .i64 t2, .int .i64 t3] := (hb 28).trans (hdep 4 (by decide))
          have e29 : bA.tmps[29]?.getD undef = .agg #[.int .i64 ea, .int .i64 ez, .int .i64 0] := (hb 29).trans (hdep 5 (by decide))
          refine phx_call ?_ ((HC.out w1).mono fun e w' h => ⟨_, h.1, Grw.below h.2, rfl⟩)
          clear hb hdep hold
          go_simp
        · intro x w1 bA hT hdep hold hb
          refine .inl ⟨trivial, ?_⟩
          have e30 : bA.tmps[30]?.getD undef = .int .i64 r := (hb 30).trans (hdep 6 (by decide))
          have zz := HR0.out
          refine phx_run (.bool true) ?_ (Below.refl _ _) rfl
          clear hb hdep hold
          go_simp
        intro x w1 hT hall
        have x0e : x 0 = .func (.func 66) #[] #[] := hall 0 (by decide)
        have x1e : x 1 = .slice (some ⟨b, o, none⟩) l.length c := hall 1 (by decide)
        have x2e : x 2 = .int .i64 m := hall 2 (by decide)
        have x3e : x 3 = .pointer (some ⟨b, o + m * 3, none⟩) := hall 3 (by decide)
        have x4e : x 4 = .agg #[.int .i64 t1, .int .i64 t2, .int .i64 t3] := hall 4 (by decide)
        have x5e : x 5 = .agg #[.int .i64 ea, .int .i64 ez, .int .i64 0] := hall 5 (by decide)
        have x6e : x 6 = .int .i64 r := hall 6 (by decide)
        have x7e : x 7 = .bool true := hall 7 (by decide)
        simp only [putAll, dstOf, Act.put, List.map_cons, List.map_nil, List.setIfInBounds_toArray, List.set_cons_succ, List.set_cons_zero, Nat.reduceAdd, x0e, x1e, x2e, x3e, x4e, x5e, x6e, x7e]
        clear x0e x1e x2e x3e x4e x5e x6e x7e hall
        have QE' := Lib.hid (QE.out.below hT QE.out.lt)
        have HB' := Lib.hid (HBR.out.trans (hT.mono HBR.out.size))
        clear QE HBR HLC hT
        go_wp2_with fail
        go_roundg (hi - (m + 1))
        case measure => omega
        case rel => exact ⟨m + 1, hi, by omega, by omega, rfl, by go_num, rfl, Lib.hid ⟨HS.out, HI.out.2⟩, QE'.out, HB'.out⟩
      · have HS := Lib.hid (HR.out (fun h => by
          rcases HCC.out with ⟨_, e⟩ | ⟨h2, _⟩ | ⟨h2, _⟩
          · omega
          · exact kb_ne h h2
          · exact kb_irrefl _ (kb_trans h h2)))
        have HR0 := Lib.hid hr
        clear HL HR HCC hr
        go_wp2_with fail
        refine wp_region_phy (fun a b => Below a.heap.size a b) (fun h k => h.trans (k.mono h.size)) ((Below.refl _ _).drew) (by kernel_rfl) (by kernel_rfl) (by kernel_rfl) (by kernel_rfl) (phiT (fun i => ([some (.func (.func 66) #[] #[]), some (.slice (some ⟨b, o, none⟩) l.length c), some (.int .i64 m), some (.pointer (some ⟨b, o + m * 3, none⟩)), some (.agg #[.int .i64 t1, .int .i64 t2, .int .i64 t3]), some (.agg #[.int .i64 ea, .int .i64 ez, .int .i64 0]), some (.int .i64 r), some (.bool false)] : List (Option Value)).getD i none) (fun i v w => True)) (fun i v w w' h hb => ?_) ⟨?_, ?_, ?_, ?_, ?_, ?_, ?_, ?_, trivial⟩ ?_
        · unfold phiT at h ⊢
          split
          · next u hu => rw [hu] at h; exact h
          · next hu =>
            rw [hu] at h
            exact True.intro
        · intro x w1 bA hT hdep hold hb
          refine .inl ⟨trivial, ?_⟩
          have e2 : bA.tmps[2]?.getD undef = .func (.func 66) #[] #[] := hb 2
          refine phx_run (.func (.func 66) #[] #[]) ?_ (Below.refl _ _) rfl
          clear hb hdep hold
          go_simp
        · intro x w1 bA hT hdep hold hb
          refine .inl ⟨trivial, ?_⟩
          have e0 : bA.tmps[0]?.getD undef = .slice (some ⟨b, o, none⟩) l.length c := hb 0
          refine phx_run (.slice (some ⟨b, o, none⟩) l.length c) ?_ (Below.refl _ _) rfl
          clear hb hdep hold
          go_simp
        · intro x w1 bA hT hdep hold hb
          refine .inl ⟨trivial, ?_⟩
          have e11 : bA.tmps[11]?.getD undef = .int .i64 m := hb 11
          refine phx_run (.int .i64 m) ?_ (Below.refl _ _) rfl
          clear hb hdep hold
          go_simp
        · intro x w1 bA hT hdep hold hb
          refine .inl ⟨trivial, ?_⟩
          have e25 : bA.tmps[25]?.getD undef = .slice (some ⟨b, o, none⟩) l.length c := (hb 25).trans (hdep 1 (by decide))
          have e26 : bA.tmps[26]?.getD undef = .int .i64 m := (hb 26).trans (hdep 2 (by decide))
          have zz := HZ2.out
          refine phx_run (.pointer (some ⟨b, o + m * 3, none⟩)) ?_ (Below.refl _ _) rfl
          clear hb hdep hold
          go_simp
        · intro x w1 bA hT hdep hold hb
          refine .inl ⟨trivial, ?_⟩
          have e27 : bA.tmps[27]?.getD undef = .pointer (some ⟨b, o + m * 3, none⟩) := (hb 27).trans (hdep 3 (by decide))
          have cc := HLC.out w1 hT
          obtain ⟨c0, c1, c2⟩ := cc
          refine phx_run (.agg #[.int .i64 t1, .int .i64 t2, .int .i64 t3]) ?_ (Below.refl _ _) rfl
          clear hb hdep hold
          go_simp
        · intro x w1 bA hT hdep hold hb
          refine .inl ⟨trivial, ?_⟩
          have e4 : bA.tmps[4]?.getD undef = .pointer (some ⟨B1, 0, none⟩) := hb 4
          have cc0 := (QE.out.below hT QE.out.lt).cell 0
          have cc1 := (QE.out.below hT QE.out.lt).cell 1
          have cc2 := (QE.out.below hT QE.out.lt).cell 2
          refine phx_run (.agg #[.int .i64 ea, .int .i64 ez, .int .i64 0]) ?_ (Below.refl _ _) rfl
          clear hb hdep hold
          go_simp
        · intro x w1 bA hT hdep hold hb
          refine .inl ⟨trivial, ?_⟩
          have e24 : bA.tmps[24]?.getD undef = .func (.func 66) #[] #[] := (hb 24).trans (hdep 0 (by decide))
          have e28 : bA.tmps[28]?.getD undef = .agg #[.int .i64 t1, .int .i64 t2, .int .i64 t3] := (hb 28).trans (hdep 4 (by decide))
          have e29 : bA.tmps[29]?.getD undef = .agg #[.int .i64 ea, .int .i64 ez, .int .i64 0] := (hb 29).trans (hdep 5 (by decide))
          refine phx_call ?_ ((HC.out w1).mono fun e w' h => ⟨_, h.1, Grw.below h.2, rfl⟩)
          clear hb hdep hold
          go_simp
        · intro x w1 bA hT hdep hold hb
          refine .inl ⟨trivial, ?_⟩
          have e30 : bA.tmps[30]?.getD undef = .int .i64 r := (hb 30).trans (hdep 6 (by decide))
          have zz := HR0.out
          refine phx_run (.bool false) ?_ (Below.refl _ _) rfl
          clear hb hdep hold
          go_simp
        intro x w1 hT hall
        have x0e : x 0 = .func (.func 66) #[] #[] := hall 0 (by decide)
        have x1e : x 1 = .slice (some ⟨b, o, none⟩) l.length c := hall 1 (by decide)
        have x2e : x 2 = .int .i64 m := hall 2 (by decide)
        have x3e : x 3 = .pointer (some ⟨b, o + m * 3, none⟩) := hall 3 (by decide)
        have x4e : x 4 = .agg #[.int .i64 t1, .int .i64 t2, .int .i64 t3] := hall 4 (by decide)
        have x5e : x 5 = .agg #[.int .i64 ea, .int .i64 ez, .int .i64 0] := hall 5 (by decide)
        have x6e : x 6 = .int .i64 r := hall 6 (by decide)
        have x7e : x 7 = .bool false := hall 7 (by decide)
        simp only [putAll, dstOf, Act.put, List.map_cons, List.map_nil, List.setIfInBounds_toArray, List.set_cons_succ, List.set_cons_zero, Nat.reduceAdd, x0e, x1e, x2e, x3e, x4e, x5e, x6e, x7e]
        clear x0e x1e x2e x3e x4e x5e x6e x7e hall
        have QE' := Lib.hid (QE.out.below hT QE.out.lt)
        have HB' := Lib.hid (HBR.out.trans (hT.mono HBR.out.size))
        clear QE HBR HLC hT
        go_wp2_with fail
        go_roundg (m - lo)
        case measure => omega
        case rel => exact ⟨lo, m, by omega, by omega, rfl, rfl, rfl, Lib.hid ⟨HI.out.1, HS.out⟩, QE'.out, HB'.out⟩
    · have z1 : ¬ (lo : Int) < (hi : Int) := by omega
      obtain rfl : lo = hi := by omega
      by_cases hln : lo < l.length
      · have HZ1 := Lib.hid (show (lo : Int) < (l.length : Int) by omega)
        have HZ2 := Lib.hid (show (lo : Int) < (l.length : Int) by omega)
        obtain ⟨b, o, rfl, -, -, -, -⟩ := (HX.out wr hbr).at_ hln
        have HLC := Lib.hid (fun W (hb : Below wr.heap.size wr W) => ((HX.out W (hbr.trans (hb.mono hbr.size))).cells hln))
        have HN := Lib.hid (fun (h : l[lo].1 ≠ (ea, ez)) => (show cg2 l (ea, ez) = 0 from by
          refine cg2_out fun s hs => ?_
          rw [← List.take_append_drop lo l] at hs
          rcases List.mem_append.1 hs with hs | hs
          · exact kb_ne (HI.out.1 s hs)
          · have hs0 := HI.out.2
            have h0 := hs0 l[lo] (by rw [List.drop_eq_getElem_cons hln]; exact List.mem_cons_self ..)
            rw [List.drop_eq_getElem_cons hln] at hs
            rcases List.mem_cons.1 hs with rfl | hs
            · exact h
            · have h1 := (bsrt_drop HK.out hln).2 s hs
              intro q
              rw [q] at h1
              exact h0 h1))
        have HCm := Lib.hid (fun W => HC.out l[lo] W)
        have hcc := cfB_cases l[lo] ((ea, ez), 0)
        generalize cfB l[lo] ((ea, ez), 0) = r at HCm hcc
        have HCC := Lib.hid hcc
        clear hcc
        have HT := Lib.hid (fun (h : r = 0) => (show ∃ h : lo < l.length, l[lo].1 = (ea, ez) from ⟨hln, by
          rcases HCC.out with ⟨_, e⟩ | ⟨h2, _⟩ | ⟨_, e⟩
          · omega
          · exact h2
          · omega⟩))
        have HF := Lib.hid (fun (h : r ≠ 0) => HN.out (fun q => by
          rcases HCC.out with ⟨h2, e⟩ | ⟨_, e⟩ | ⟨h2, e⟩
          · rw [q] at h2; exact kb_irrefl _ h2
          · exact h e
          · rw [q] at h2; exact kb_irrefl _ h2))
        clear HN HCC HI
        generalize l[lo] = t at HCm HLC
        obtain ⟨⟨t1, t2⟩, t3⟩ := t
        clear HC
        have HC := Lib.hid HCm.out
        clear HCm hqe hbr
        dsimp only at HC HLC
        by_cases hr0 : r = 0
        · have HR0 := Lib.hid (show (r == 0) = true from by simp [hr0])
          have HT2 := Lib.hid (HT.out hr0)
          clear HT HF hr0
          go_wp2_with fail
          refine wp_region_phy (fun a b => Below a.heap.size a b) (fun h k => h.trans (k.mono h.size)) ((Below.refl _ _).drew) (by kernel_rfl) (by kernel_rfl) (by kernel_rfl) (by kernel_rfl) (phiT (fun i => ([some (.int .i64 lo), some (.int .i64 lo), some (.int .i64 (l.length : Int)), some (.bool true), some (.bool true), some (.func (.func 66) #[] #[]), some (.slice (some ⟨b, o, none⟩) l.length c), some (.int .i64 lo), some (.pointer (some ⟨b, o + lo * 3, none⟩)), some (.agg #[.int .i64 t1, .int .i64 t2, .int .i64 t3]), some (.agg #[.int .i64 ea, .int .i64 ez, .int .i64 0]), some (.int .i64 r), some (.bool true), some (.bool true), some (.int .i64 lo), some (.bool true)] : List (Option Value)).getD i none) (fun i v w => True)) (fun i v w w' h hb => ?_) ⟨?_, ?_, ?_, ?_, ?_, ?_, ?_, ?_, ?_, ?_, ?_, ?_, ?_, ?_, ?_, ?_, trivial⟩ ?_
          · unfold phiT at h ⊢
            split
            · next u hu => rw [hu] at h; exact h
            · next hu =>
              rw [hu] at h
              exact True.intro
          · intro x w1 bA hT hdep hold hb
            refine .inl ⟨trivial, ?_⟩
            have e9 : bA.tmps[9]?.getD undef = .int .i64 lo := hb 9
            refine phx_run (.int .i64 lo) ?_ (Below.refl _ _) rfl
            clear hb hdep hold
            go_simp
          · intro x w1 bA hT hdep hold hb
            refine .inl ⟨trivial, ?_⟩
            have e9 : bA.tmps[9]?.getD undef = .int .i64 lo := hb 9
            refine phx_run (.int .i64 lo) ?_ (Below.refl _ _) rfl
            clear hb hdep hold
            go_simp
          · intro x w1 bA hT hdep hold hb
            refine .inl ⟨trivial, ?_⟩
            have e8 : bA.tmps[8]?.getD undef = .int .i64 (l.length : Int) := hb 8
            refine phx_run (.int .i64 (l.length : Int)) ?_ (Below.refl _ _) rfl
            clear hb hdep hold
            go_simp
          · intro x w1 bA hT hdep hold hb
            refine .inl ⟨trivial, ?_⟩
            have e36 : bA.tmps[36]?.getD undef = .int .i64 lo := (hb 36).trans (hdep 1 (by decide))
            have e37 : bA.tmps[37]?.getD undef = .int .i64 (l.length : Int) := (hb 37).trans (hdep 2 (by decide))
            have zz := HZ1.out
            refine phx_run (.bool true) ?_ (Below.refl _ _) rfl
            clear hb hdep hold
            go_simp
          · intro x w1 bA hT hdep hold hb
            refine .inl ⟨trivial, ?_⟩
            have e38 : bA.tmps[38]?.getD undef = .bool true := (hb 38).trans (hdep 3 (by decide))
            refine phx_run (.bool true) ?_ (Below.refl _ _) rfl
            clear hb hdep hold
            go_simp
          · intro x w1 bA hT hdep hold hb
            refine .inl ⟨⟨39, rfl, (hb 39).trans (hdep 4 (by decide))⟩, ?_⟩
            have e2 : bA.tmps[2]?.getD undef = .func (.func 66) #[] #[] := hb 2
            refine phx_run (.func (.func 66) #[] #[]) ?_ (Below.refl _ _) rfl
            clear hb hdep hold
            go_simp
          · intro x w1 bA hT hdep hold hb
            refine .inl ⟨⟨39, rfl, (hb 39).trans (hdep 4 (by decide))⟩, ?_⟩
            have e0 : bA.tmps[0]?.getD undef = .slice (some ⟨b, o, none⟩) l.length c := hb 0
            refine phx_run (.slice (some ⟨b, o, none⟩) l.length c) ?_ (Below.refl _ _) rfl
            clear hb hdep hold
            go_simp
          · intro x w1 bA hT hdep hold hb
            refine .inl ⟨⟨39, rfl, (hb 39).trans (hdep 4 (by decide))⟩, ?_⟩
            have e9 : bA.tmps[9]?.getD undef = .int .i64 lo := hb 9
            refine phx_run (.int .i64 lo) ?_ (Below.refl _ _) rfl
            clear hb hdep hold
            go_simp
          · intro x w1 bA hT hdep hold hb
            refine .inl ⟨⟨39, rfl, (hb 39).trans (hdep 4 (by decide))⟩, ?_⟩
            have e41 : bA.tmps[41]?.getD undef = .slice (some ⟨b, o, none⟩) l.length c := (hb 41).trans (hdep 6 (by decide))
            have e42 : bA.tmps[42]?.getD undef = .int .i64 lo := (hb 42).trans (hdep 7 (by decide))
            have zz := HZ2.out
            refine phx_run (.pointer (some ⟨b, o + lo * 3, none⟩)) ?_ (Below.refl _ _) rfl
            clear hb hdep hold
            go_simp
          · intro x w1 bA hT hdep hold hb
            refine .inl ⟨⟨39, rfl, (hb 39).trans (hdep 4 (by decide))⟩, ?_⟩
            have e43 : bA.tmps[43]?.getD undef = .pointer (some ⟨b, o + lo * 3, none⟩) := (hb 43).trans (hdep 8 (by decide))
            have cc := HLC.out w1 hT
            obtain ⟨c0, c1, c2⟩ := cc
            refine phx_run (.agg #[.int .i64 t1, .int .i64 t2, .int .i64 t3]) ?_ (Below.refl _ _) rfl
            clear hb hdep hold
            go_simp
          · intro x w1 bA hT hdep hold hb
            refine .inl ⟨⟨39, rfl, (hb 39).trans (hdep 4 (by decide))⟩, ?_⟩
            have e4 : bA.tmps[4]?.getD undef = .pointer (some ⟨B1, 0, none⟩) := hb 4
            have cc0 := (QE.out.below hT QE.out.lt).cell 0
            have cc1 := (QE.out.below hT QE.out.lt).cell 1
            have cc2 := (QE.out.below hT QE.out.lt).cell 2
            refine phx_run (.agg #[.int .i64 ea, .int .i64 ez, .int .i64 0]) ?_ (Below.refl _ _) rfl
            clear hb hdep hold
            go_simp
          · intro x w1 bA hT hdep hold hb
            refine .inl ⟨⟨39, rfl, (hb 39).trans (hdep 4 (by decide))⟩, ?_⟩
            have e40 : bA.tmps[40]?.getD undef = .func (.func 66) #[] #[] := (hb 40).trans (hdep 5 (by decide))
            have e44 : bA.tmps[44]?.getD undef = .agg #[.int .i64 t1, .int .i64 t2, .int .i64 t3] := (hb 44).trans (hdep 9 (by decide))
            have e45 : bA.tmps[45]?.getD undef = .agg #[.int .i64 ea, .int .i64 ez, .int .i64 0] := (hb 45).trans (hdep 10 (by decide))
            refine phx_call ?_ ((HC.out w1).mono fun e w' h => ⟨_, h.1, Grw.below h.2, rfl⟩)
            clear hb hdep hold
            go_simp
          · intro x w1 bA hT hdep hold hb
            refine .inl ⟨⟨39, rfl, (hb 39).trans (hdep 4 (by decide))⟩, ?_⟩
            have e46 : bA.tmps[46]?.getD undef = .int .i64 r := (hb 46).trans (hdep 11 (by decide))
            have zz := HR0.out
            refine phx_run (.bool true) ?_ (Below.refl _ _) rfl
            clear hb hdep hold
            go_simp
          · intro x w1 bA hT hdep hold hb
            refine .inl ⟨trivial, ?_⟩
            have e39 : bA.tmps[39]?.getD undef = .bool true := (hb 39).trans (hdep 4 (by decide))
            have e47 : bA.tmps[47]?.getD undef = .bool true := (hb 47).trans (hdep 12 (by decide))
            refine phx_run (.bool true) ?_ (Below.refl _ _) rfl
            clear hb hdep hold
            go_simp
          · intro x w1 bA hT hdep hold hb
            refine .inl ⟨trivial, ?_⟩
            have e35 : bA.tmps[35]?.getD undef = .int .i64 lo := (hb 35).trans (hdep 0 (by decide))
            refine phx_run (.int .i64 lo) ?_ (Below.refl _ _) rfl
            clear hb hdep hold
            go_simp
          · intro x w1 bA hT hdep hold hb
            refine .inl ⟨trivial, ?_⟩
            have e48 : bA.tmps[48]?.getD undef = .bool true := (hb 48).trans (hdep 13 (by decide))
            refine phx_run (.bool true) ?_ (Below.refl _ _) rfl
            clear hb hdep hold
            go_simp
          intro x w1 hT hall
          have x0e : x 0 = .int .i64 lo := hall 0 (by decide)
          have x1e : x 1 = .int .i64 lo := hall 1 (by decide)
          have x2e : x 2 = .int .i64 (l.length : Int) := hall 2 (by decide)
          have x3e : x 3 = .bool true := hall 3 (by decide)
          have x4e : x 4 = .bool true := hall 4 (by decide)
          have x5e : x 5 = .func (.func 66) #[] #[] := hall 5 (by decide)
          have x6e : x 6 = .slice (some ⟨b, o, none⟩) l.length c := hall 6 (by decide)
          have x7e : x 7 = .int .i64 lo := hall 7 (by decide)
          have x8e : x 8 = .pointer (some ⟨b, o + lo * 3, none⟩) := hall 8 (by decide)
          have x9e : x 9 = .agg #[.int .i64 t1, .int .i64 t2, .int .i64 t3] := hall 9 (by decide)
          have x10e : x 10 = .agg #[.int .i64 ea, .int .i64 ez, .int .i64 0] := hall 10 (by decide)
          have x11e : x 11 = .int .i64 r := hall 11 (by decide)
          have x12e : x 12 = .bool true := hall 12 (by decide)
          have x13e : x 13 = .bool true := hall 13 (by decide)
          have x14e : x 14 = .int .i64 lo := hall 14 (by decide)
          have x15e : x 15 = .bool true := hall 15 (by decide)
          simp only [putAll, dstOf, Act.put, List.map_cons, List.map_nil, List.setIfInBounds_toArray, List.set_cons_succ, List.set_cons_zero, Nat.reduceAdd, x0e, x1e, x2e, x3e, x4e, x5e, x6e, x7e, x8e, x9e, x10e, x11e, x12e, x13e, x14e, x15e]
          clear x0e x1e x2e x3e x4e x5e x6e x7e x8e x9e x10e x11e x12e x13e x14e x15e hall
          have HB' := Lib.hid (HBR.out.trans (hT.mono HBR.out.size))
          clear QE HBR HLC hT
          go_wp2_with fail
          go_ret2
          exact ⟨HB'.out, lo, true, rfl, by omega, fun _ => HT2.out, fun h => by cases h⟩
        · have HR0 := Lib.hid (show (r == 0) = false from by simp [hr0])
          have HF2 := Lib.hid (HF.out hr0)
          clear HT HF hr0
          go_wp2_with fail
          refine wp_region_phy (fun a b => Below a.heap.size a b) (fun h k => h.trans (k.mono h.size)) ((Below.refl _ _).drew) (by kernel_rfl) (by kernel_rfl) (by kernel_rfl) (by kernel_rfl) (phiT (fun i => ([some (.int .i64 lo), some (.int .i64 lo), some (.int .i64 (l.length : Int)), some (.bool true), some (.bool true), some (.func (.func 66) #[] #[]), some (.slice (some ⟨b, o, none⟩) l.length c), some (.int .i64 lo), some (.pointer (some ⟨b, o + lo * 3, none⟩)), some (.agg #[.int .i64 t1, .int .i64 t2, .int .i64 t3]), some (.agg #[.int .i64 ea, .int .i64 ez, .int .i64 0]), some (.int .i64 r), some (.bool false), some (.bool false), some (.int .i64 lo), some (.bool false)] : List (Option Value)).getD i none) (fun i v w => True)) (fun i v w w' h hb => ?_) ⟨?_, ?_, ?_, ?_, ?_, ?_, ?_, ?_, ?_, ?_, ?_, ?_, ?_, ?_, ?_, ?_, trivial⟩ ?_
          · unfold phiT at h ⊢
            split
            · next u hu => rw [hu] at h; exact h
            · next hu =>
              rw [hu] at h
              exact True.intro
          · intro x w1 bA hT hdep hold hb
            refine .inl ⟨trivial, ?_⟩
            have e9 : bA.tmps[9]?.getD undef = .int .i64 lo := hb 9
            refine phx_run (.int .i64 lo) ?_ (Below.refl _ _) rfl
            clear hb hdep hold
            go_simp
          · intro x w1 bA hT hdep hold hb
            refine .inl ⟨trivial, ?_⟩
            have e9 : bA.tmps[9]?.getD undef = .int .i64 lo := hb 9
            refine phx_run (.int .i64 lo) ?_ (Below.refl _ _) rfl
            clear hb hdep hold
            go_simp
          · intro x w1 bA hT hdep hold hb
            refine .inl ⟨trivial, ?_⟩
            have e8 : bA.tmps[8]?.getD undef = .int .i64 (l.length : Int) := hb 8
            refine phx_run (.int .i64 (l.length : Int)) ?_ (Below.refl _ _) rfl
            clear hb hdep hold
            go_simp
          · intro x w1 bA hT hdep hold hb
            refine .inl ⟨trivial, ?_⟩
            have e36 : bA.tmps[36]?.getD undef = .int .i64 lo := (hb 36).trans (hdep 1 (by decide))
            have e37 : bA.tmps[37]?.getD undef = .int .i64 (l.length : Int) := (hb 37).trans (hdep 2 (by decide))
            have zz := HZ1.out
            refine phx_run (.bool true) ?_ (Below.refl _ _) rfl
            clear hb hdep hold
            go_simp
          · intro x w1 bA hT hdep hold hb
            refine .inl ⟨trivial, ?_⟩
            have e38 : bA.tmps[38]?.getD undef = .bool true := (hb 38).trans (hdep 3 (by decide))
            refine phx_run (.bool true) ?_ (Below.refl _ _) rfl
            clear hb hdep hold
            go_simp
          · intro x w1 bA hT hdep hold hb
            refine .inl ⟨⟨39, rfl, (hb 39).trans (hdep 4 (by decide))⟩, ?_⟩
            have e2 : bA.tmps[2]?.getD undef = .func (.func 66) #[] #[] := hb 2
            refine phx_run (.func (.func 66) #[] #[]) ?_ (Below.refl _ _) rfl
            clear hb hdep hold
            go_simp
          · intro x w1 bA hT hdep hold hb
            refine .inl ⟨⟨39, rfl, (hb 39).trans (hdep 4 (by decide))⟩, ?_⟩
            have e0 : bA.tmps[0]?.getD undef = .slice (some ⟨b, o, none⟩) l.length c := hb 0
            refine phx_run (.slice (some ⟨b, o, none⟩) l.length c) ?_ (Below.refl _ _) rfl
            clear hb hdep hold
            go_simp
          · intro x w1 bA hT hdep hold hb
            refine .inl ⟨⟨39, rfl, (hb 39).trans (hdep 4 (by decide))⟩, ?_⟩
            have e9 : bA.tmps[9]?.getD undef = .int .i64 lo := hb 9
            refine phx_run (.int .i64 lo) ?_ (Below.refl _ _) rfl
            clear hb hdep hold
            go_simp
          · intro x w1 bA hT hdep hold hb
            refine .inl ⟨⟨39, rfl, (hb 39).trans (hdep 4 (by decide))⟩, ?_⟩
            have e41 : bA.tmps[41]?.getD undef = .slice (some ⟨b, o, none⟩) l.length c := (hb 41).trans (hdep 6 (by decide))
            have e42 : bA.tmps[42]?.getD undef = .int .i64 lo := (hb 42).trans (hdep 7 (by decide))
            have zz := HZ2.out
            refine phx_run (.pointer (some ⟨b, o + lo * 3, none⟩)) ?_ (Below.refl _ _) rfl
            clear hb hdep hold
            go_simp
          · intro x w1 bA hT hdep hold hb
            refine .inl ⟨⟨39, rfl, (hb 39).trans (hdep 4 (by decide))⟩, ?_⟩
            have e43 : bA.tmps[43]?.getD undef = .pointer (some ⟨b, o + lo * 3, none⟩) := (hb 43).trans (hdep 8 (by decide))
            have cc := HLC.out w1 hT
            obtain ⟨c0, c1, c2⟩ := cc
            refine phx_run (.agg #[.int .i64 t1, .int .i64 t2, .int .i64 t3]) ?_ (Below.refl _ _) rfl
            clear hb hdep hold
            go_simp
          · intro x w1 bA hT hdep hold hb
            refine .inl ⟨⟨39, rfl, (hb 39).trans (hdep 4 (by decide))⟩, ?_⟩
            have e4 : bA.tmps[4]?.getD undef = .pointer (some ⟨B1, 0, none⟩) := hb 4
            have cc0 := (QE.out.below hT QE.out.lt).cell 0
            have cc1 := (QE.out.below hT QE.out.lt).cell 1
            have cc2 := (QE.out.below hT QE.out.lt).cell 2
            refine phx_run (.agg #[.int .i64 ea, .int .i64 ez, .int .i64 0]) ?_ (Below.refl _ _) rfl
            clear hb hdep hold
            go_simp
          · intro x w1 bA hT hdep hold hb
            refine .inl ⟨⟨39, rfl, (hb 39).trans (hdep 4 (by decide))⟩, ?_⟩
            have e40 : bA.tmps[40]?.getD undef = .func (.func 66) #[] #[] := (hb 40).trans (hdep 5 (by decide))
            have e44 : bA.tmps[44]?.getD undef = .agg #[.int .i64 t1, .int .i64 t2, .int .i64 t3] := (hb 44).trans (hdep 9 (by decide))
            have e45 : bA.tmps[45]?.getD undef = .agg #[.int .i64 ea, .int .i64 ez, .int .i64 0] := (hb 45).trans (hdep 10 (by decide))
            refine phx_call ?_ ((HC.out w1).mono fun e w' h => ⟨_, h.1, Grw.below h.2, rfl⟩)
            clear hb hdep hold
            go_simp
          · intro x w1 bA hT hdep hold hb
            refine .inl ⟨⟨39, rfl, (hb 39).trans (hdep 4 (by decide))⟩, ?_⟩
            have e46 : bA.tmps[46]?.getD undef = .int .i64 r := (hb 46).trans (hdep 11 (by decide))
            have zz := HR0.out
            refine phx_run (.bool false) ?_ (Below.refl _ _) rfl
            clear hb hdep hold
            go_simp
          · intro x w1 bA hT hdep hold hb
            refine .inl ⟨trivial, ?_⟩
            have e39 : bA.tmps[39]?.getD undef = .bool true := (hb 39).trans (hdep 4 (by decide))
            have e47 : bA.tmps[47]?.getD undef = .bool false := (hb 47).trans (hdep 12 (by decide))
            refine phx_run (.bool false) ?_ (Below.refl _ _) rfl
            clear hb hdep hold
            go_simp
          · intro x w1 bA hT hdep hold hb
            refine .inl ⟨trivial, ?_⟩
            have e35 : bA.tmps[35]?.getD undef = .int .i64 lo := (hb 35).trans (hdep 0 (by decide))
            refine phx_run (.int .i64 lo) ?_ (Below.refl _ _) rfl
            clear hb hdep hold
            go_simp
          · intro x w1 bA hT hdep hold hb
            refine .inl ⟨trivial, ?_⟩
            have e48 : bA.tmps[48]?.getD undef = .bool false := (hb 48).trans (hdep 13 (by decide))
            refine phx_run (.bool false) ?_ (Below.refl _ _) rfl
            clear hb hdep hold
            go_simp
          intro x w1 hT hall
          have x0e : x 0 = .int .i64 lo := hall 0 (by decide)
          have x1e : x 1 = .int .i64 lo := hall 1 (by decide)
          have x2e : x 2 = .int .i64 (l.length : Int) := hall 2 (by decide)
          have x3e : x 3 = .bool true := hall 3 (by decide)
          have x4e : x 4 = .bool true := hall 4 (by decide)
          have x5e : x 5 = .func (.func 66) #[] #[] := hall 5 (by decide)
          have x6e : x 6 = .slice (some ⟨b, o, none⟩) l.length c := hall 6 (by decide)
          have x7e : x 7 = .int .i64 lo := hall 7 (by decide)
          have x8e : x 8 = .pointer (some ⟨b, o + lo * 3, none⟩) := hall 8 (by decide)
          have x9e : x 9 = .agg #[.int .i64 t1, .int .i64 t2, .int .i64 t3] := hall 9 (by decide)
          have x10e : x 10 = .agg #[.int .i64 ea, .int .i64 ez, .int .i64 0] := hall 10 (by decide)
          have x11e : x 11 = .int .i64 r := hall 11 (by decide)
          have x12e : x 12 = .bool false := hall 12 (by decide)
          have x13e : x 13 = .bool false := hall 13 (by decide)
          have x14e : x 14 = .int .i64 lo := hall 14 (by decide)
          have x15e : x 15 = .bool false := hall 15 (by decide)
          simp only [putAll, dstOf, Act.put, List.map_cons, List.map_nil, List.setIfInBounds_toArray, List.set_cons_succ, List.set_cons_zero, Nat.reduceAdd, x0e, x1e, x2e, x3e, x4e, x5e, x6e, x7e, x8e, x9e, x10e, x11e, x12e, x13e, x14e, x15e]
          clear x0e x1e x2e x3e x4e x5e x6e x7e x8e x9e x10e x11e x12e x13e x14e x15e hall
          have HB' := Lib.hid (HBR.out.trans (hT.mono HBR.out.size))
          clear QE HBR HLC hT
          go_wp2_with fail
          go_ret2
          exact ⟨HB'.out, lo, false, rfl, by omega, fun h => (by cases h), fun _ => HF2.out⟩
      · have HZ1 := Lib.hid (show ¬ (lo : Int) < (l.length : Int) by omega)
        have HF2 := Lib.hid (show cg2 l (ea, ez) = 0 from cg2_out fun s hs => kb_ne (HI.out.1 s (by rw [List.take_of_length_le (by omega)]; exact hs)))
        clear HI hqe hbr HC
        go_wp2_with fail
        refine wp_region_phy (fun a b => Below a.heap.size a b) (fun h k => h.trans (k.mono h.size)) ((Below.refl _ _).drew) (by kernel_rfl) (by kernel_rfl) (by kernel_rfl) (by kernel_rfl) (phiT (fun i => ([some (.int .i64 lo), some (.int .i64 lo), some (.int .i64 (l.length : Int)), some (.bool false), some (.bool false), some (undef), some (undef), some (undef), some (undef), some (undef), some (undef), some (undef), some (undef), some (.bool false), some (.int .i64 lo), some (.bool false)] : List (Option Value)).getD i none) (fun i v w => True)) (fun i v w w' h hb => ?_) ⟨?_, ?_, ?_, ?_, ?_, ?_, ?_, ?_, ?_, ?_, ?_, ?_, ?_, ?_, ?_, ?_, trivial⟩ ?_
        · unfold phiT at h ⊢
          split
          · next u hu => rw [hu] at h; exact h
          · next hu =>
            rw [hu] at h
            exact True.intro
        · intro x w1 bA hT hdep hold hb
          refine .inl ⟨trivial, ?_⟩
          have e9 : bA.tmps[9]?.getD undef = .int .i64 lo := hb 9
          refine phx_run (.int .i64 lo) ?_ (Below.refl _ _) rfl
          clear hb hdep hold
          go_simp
        · intro x w1 bA hT hdep hold hb
          refine .inl ⟨trivial, ?_⟩
          have e9 : bA.tmps[9]?.getD undef = .int .i64 lo := hb 9
          refine phx_run (.int .i64 lo) ?_ (Below.refl _ _) rfl
          clear hb hdep hold
          go_simp
        · intro x w1 bA hT hdep hold hb
          refine .inl ⟨trivial, ?_⟩
          have e8 : bA.tmps[8]?.getD undef = .int .i64 (l.length : Int) := hb 8
          refine phx_run (.int .i64 (l.length : Int)) ?_ (Below.refl _ _) rfl
          clear hb hdep hold
          go_simp
        · intro x w1 bA hT hdep hold hb
          refine .inl ⟨trivial, ?_⟩
          have e36 : bA.tmps[36]?.getD undef = .int .i64 lo := (hb 36).trans (hdep 1 (by decide))
          have e37 : bA.tmps[37]?.getD undef = .int .i64 (l.length : Int) := (hb 37).trans (hdep 2 (by decide))
          have zz := HZ1.out
          refine phx_run (.bool false) ?_ (Below.refl _ _) rfl
          clear hb hdep hold
          go_simp
        · intro x w1 bA hT hdep hold hb
          refine .inl ⟨trivial, ?_⟩
          have e38 : bA.tmps[38]?.getD undef = .bool false := (hb 38).trans (hdep 3 (by decide))
          refine phx_run (.bool false) ?_ (Below.refl _ _) rfl
          clear hb hdep hold
          go_simp
        · intro x w1 bA hT hdep hold hb
          exact .inr ⟨⟨39, rfl, .inl ((hb 39).trans (hdep 4 (by decide)))⟩, rfl⟩
        · intro x w1 bA hT hdep hold hb
          exact .inr ⟨⟨39, rfl, .inl ((hb 39).trans (hdep 4 (by decide)))⟩, rfl⟩
        · intro x w1 bA hT hdep hold hb
          exact .inr ⟨⟨39, rfl, .inl ((hb 39).trans (hdep 4 (by decide)))⟩, rfl⟩
        · intro x w1 bA hT hdep hold hb
          exact .inr ⟨⟨39, rfl, .inl ((hb 39).trans (hdep 4 (by decide)))⟩, rfl⟩
        · intro x w1 bA hT hdep hold hb
          exact .inr ⟨⟨39, rfl, .inl ((hb 39).trans (hdep 4 (by decide)))⟩, rfl⟩
        · intro x w1 bA hT hdep hold hb
          exact .inr ⟨⟨39, rfl, .inl ((hb 39).trans (hdep 4 (by decide)))⟩, rfl⟩
        · intro x w1 bA hT hdep hold hb
          exact .inr ⟨⟨39, rfl, .inl ((hb 39).trans (hdep 4 (by decide)))⟩, rfl⟩
        · intro x w1 bA hT hdep hold hb
          exact .inr ⟨⟨39, rfl, .inl ((hb 39).trans (hdep 4 (by decide)))⟩, rfl⟩
        · intro x w1 bA hT hdep hold hb
          refine .inl ⟨trivial, ?_⟩
          have e39 : bA.tmps[39]?.getD undef = .bool false := (hb 39).trans (hdep 4 (by decide))
          refine phx_run (.bool false) ?_ (Below.refl _ _) rfl
          clear hb hdep hold
          go_simp
        · intro x w1 bA hT hdep hold hb
          refine .inl ⟨trivial, ?_⟩
          have e35 : bA.tmps[35]?.getD undef = .int .i64 lo := (hb 35).trans (hdep 0 (by decide))
          refine phx_run (.int .i64 lo) ?_ (Below.refl _ _) rfl
          clear hb hdep hold
          go_simp
        · intro x w1 bA hT hdep hold hb
          refine .inl ⟨trivial, ?_⟩
          have e48 : bA.tmps[48]?.getD undef = .bool false := (hb 48).trans (hdep 13 (by decide))
          refine phx_run (.bool false) ?_ (Below.refl _ _) rfl
          clear hb hdep hold
          go_simp
        intro x w1 hT hall
        have x0e : x 0 = .int .i64 lo := hall 0 (by decide)
        have x1e : x 1 = .int .i64 lo := hall 1 (by decide)
        have x2e : x 2 = .int .i64 (l.length : Int) := hall 2 (by decide)
        have x3e : x 3 = .bool false := hall 3 (by decide)
        have x4e : x 4 = .bool false := hall 4 (by decide)
        have x5e : x 5 = undef := hall 5 (by decide)
        have x6e : x 6 = undef := hall 6 (by decide)
        have x7e : x 7 = undef := hall 7 (by decide)
        have x8e : x 8 = undef := hall 8 (by decide)
        have x9e : x 9 = undef := hall 9 (by decide)
        have x10e : x 10 = undef := hall 10 (by decide)
        have x11e : x 11 = undef := hall 11 (by decide)
        have x12e : x 12 = undef := hall 12 (by decide)
        have x13e : x 13 = .bool false := hall 13 (by decide)
        have x14e : x 14 = .int .i64 lo := hall 14 (by decide)
        have x15e : x 15 = .bool false := hall 15 (by decide)
        simp only [putAll, dstOf, Act.put, List.map_cons, List.map_nil, List.setIfInBounds_toArray, List.set_cons_succ, List.set_cons_zero, Nat.reduceAdd, x0e, x1e, x2e, x3e, x4e, x5e, x6e, x7e, x8e, x9e, x10e, x11e, x12e, x13e, x14e, x15e]
        clear x0e x1e x2e x3e x4e x5e x6e x7e x8e x9e x10e x11e x12e x13e x14e x15e hall
        have HB' := Lib.hid (HBR.out.trans (hT.mono HBR.out.size))
        clear QE HBR hT
        go_wp2_with fail
        go_ret2
        exact ⟨HB'.out, lo, false, rfl, by omega, fun h => (by cases h), fun _ => HF2.out⟩
set_option maxHeartbeats 1000000 in
theorem bCoef_any (vp : Value) (p : PolB) (ea ez : Int) (w : World) (hp : PolyB w vp p) (okp : okB2 p) (hl : lenB p ≤ 1000000000) : Calls Tryz.prog 31 #[vp, .int .i64 ea, .int .i64 ez] w fun en w' => en = .returned (.int .i64 (cg2 (p.getD []) (ea, ez))) ∧ Below w.heap.size w w' := by
  have hl2 : (p.getD []).length ≤ 1000000000 := hl
  have hsr : Srt2 (p.getD []) := by
    cases p with
    | none => exact List.Pairwise.nil
    | some l => exact okp.1.srt
  have HSR := Lib.hid hsr
  obtain ⟨A, c, rfl, hx⟩ := hp
  have HX := Lib.hid (fun W (hb : Below w.heap.size w W) => hx.below hb)
  clear hx okp hsr hl
  generalize p.isNone = b1 at *
  generalize p.getD [] = l at *
  have hb : Below w.heap.size w (w.alloc (.cells #[.bool b1, .slice A l.length c] 27)) := (Below.refl _ _).alloc (Nat.le_refl _) _
  have qp := Arr.new w 27 [.bool b1, .slice A l.length c]
  change Arr (w.alloc (.cells #[.bool b1, .slice A l.length c] 27)) w.heap.size 27 [.bool b1, .slice A l.length c] at qp
  go_enter Tryz.func31, Tryz.ntmps31
  go_upto_region 1 with fail
  generalize (w.alloc (.cells #[.bool b1, .slice A l.length c] 27)) = w3 at *
  have y1 := qp.cell 1
  have HQ := Lib.hid qp
  have HBS := Lib.hid (bbsf_any A c l ea ez w3 (HX.out w3 hb) HSR.out hl2)
  have HB := Lib.hid hb
  clear qp hb
  go_wp2_with fail
  refine HBS.out.mono ?_
  rintro en w4 ⟨hb4, i, ok, rfl, hi, h1, h2⟩
  have qp := HQ.out.below hb4 HQ.out.lt
  have y1 := qp.cell 1
  have HB4 := Lib.hid (HB.out.trans (hb4.mono HB.out.size))
  have HX4 := Lib.hid (HX.out w4 HB4.out)
  clear hb4 qp HBS
  cases ok with
  | false =>
    have HE := Lib.hid (h2 rfl)
    clear h1 h2
    go_wp2_with fail
    go_ret
    exact ⟨by rw [HE.out]; rfl, HB4.out⟩
  | true =>
    obtain ⟨hil, hie⟩ := h1 rfl
    have HE := Lib.hid (show cg2 l (ea, ez) = l[i].2 from by rw [← hie]; exact cg2_mem HSR.out (List.getElem_mem hil))
    obtain ⟨b, o, rfl, -, -, -, y3⟩ := HX4.out.at_ hil
    have z1 : (i : Int) < (l.length : Int) := by omega
    clear h1 h2 hie
    generalize l[i].2 = x at *
    go_wp2_with fail
    go_ret
    exact ⟨by rw [HE.out]; rfl, HB4.out⟩
end Go.Proofs.YtbfggncmjdhapaaGreatDoor
