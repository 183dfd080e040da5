/- laurent.sparse: the closure over a map of wide integers. -/
/- append onto a slice of integers that the call itself owns: laws in the words of this seat. -/
/- word.push, Reduce. -/
import Derived.Test.YtbfggncmjdhapaaGreatDoorZPrd
import Derived.Maps.OwnSet
import Derived.Maps.OwnOps
import Derived.Lib.SlKeysI
import Derived.Test.YtbfggncmjdhapaaGreatDoorZBase
import Derived.Maps.AppendAt
import Derived.Deep.AppendLies
import Derived.RegionTactic
import Derived.OwnWalk
import Derived.Deep.RegionLaw
import Derived.Test.YtbfggncmjdhapaaGreatDoorZFod
import Derived.Test.YtbfggncmjdhapaaGreatDoorChecked
import Derived.Deep.LoopGhost
import Derived.Deep.DeepCutAuto
import Derived.Deep.Cut
namespace Go.Proofs.YtbfggncmjdhapaaGreatDoor
open Go.RowKit
set_option linter.unusedVariables false

/-- wide integers as cells -/
def wc (x : Int) : List Value := [.int .u64 ((hiN (rs x) : Nat) : Int), .int .u64 ((loN (rs x) : Nat) : Int)]
def wrow (F : Int → Int) (low : Int) (n : Nat) : List Value := (List.range n).flatMap fun (k : Nat) => wc (F (low + (k : Int)))
theorem wflat_get : ∀ (l : List Int) (k j : Nat) (h : k < l.length), j < 2 → (l.flatMap wc)[k * 2 + j]? = (wc l[k])[j]? := by
  intro l
  induction l with
  | nil => intro k j h; simp at h
  | cons m l ih =>
    intro k j h hj
    rw [List.flatMap_cons]
    cases k with
    | zero => rw [List.getElem?_append_left (by simp [wc]; omega)]; simp
    | succ k =>
      rw [List.getElem?_append_right (by simp [wc]; omega)]
      have := ih k j (by simpa using h) hj
      rw [show (k + 1) * 2 + j - (wc m).length = k * 2 + j from by simp [wc]; omega, this]
      simp
theorem wflat_len (l : List Int) : (l.flatMap wc).length = l.length * 2 := by
  induction l with
  | nil => rfl
  | cons m l ih => rw [List.flatMap_cons, List.length_append, ih, List.length_cons]; simp [wc]; omega
theorem wrow_map (F : Int → Int) (low : Int) (n : Nat) : wrow F low n = ((List.range n).map fun (k : Nat) => F (low + (k : Int))).flatMap wc := by unfold wrow; rw [List.flatMap_map]
theorem wrow_len (F : Int → Int) (low : Int) (n : Nat) : (wrow F low n).length = n * 2 := by rw [wrow_map, wflat_len]; simp
theorem wrow_get (F : Int → Int) (low : Int) (n k : Nat) (h : k < n) : (wrow F low n)[k * 2]? = some (.int .u64 ((hiN (rs (F (low + (k : Int)))) : Nat) : Int)) ∧ (wrow F low n)[k * 2 + 1]? = some (.int .u64 ((loN (rs (F (low + (k : Int)))) : Nat) : Int)) := by
  have h1 := wflat_get ((List.range n).map fun (k : Nat) => F (low + (k : Int))) k 0 (by simpa using h) (by omega)
  have h2 := wflat_get ((List.range n).map fun (k : Nat) => F (low + (k : Int))) k 1 (by simpa using h) (by omega)
  rw [← wrow_map] at h1 h2
  simp only [List.getElem_map, List.getElem_range] at h1 h2
  exact ⟨h1, h2⟩
theorem wrow_set (F G : Int → Int) (low : Int) (n k : Nat) (h : k < n) (hG : ∀ j : Nat, j < n → j ≠ k → G (low + (j : Int)) = F (low + (j : Int))) :
    ((wrow F low n).set (k * 2) (.int .u64 ((hiN (rs (G (low + (k : Int)))) : Nat) : Int))).set (k * 2 + 1) (.int .u64 ((loN (rs (G (low + (k : Int)))) : Nat) : Int)) = wrow G low n := by
  apply List.ext_getElem?
  intro i
  rw [List.getElem?_set, List.getElem?_set]
  have hl := wrow_len F low n
  have hl2 := wrow_len G low n
  by_cases hi : i < n * 2
  · have hj : i / 2 < n := by omega
    by_cases h2 : i % 2 = 0
    · have e : i = i / 2 * 2 := by omega
      generalize hm : i / 2 = m at *
      subst e
      rw [(wrow_get G low n m hj).1]
      rw [if_neg (by omega)]
      by_cases hk : m = k
      · subst hk; rw [if_pos rfl, if_pos (by omega)]
      · rw [if_neg (by omega), (wrow_get F low n m hj).1, hG m hj hk]
    · have e : i = i / 2 * 2 + 1 := by omega
      generalize hm : i / 2 = m at *
      subst e
      rw [(wrow_get G low n m hj).2]
      by_cases hk : m = k
      · subst hk; rw [if_pos rfl, if_pos (by rw [List.length_set]; omega)]
      · rw [if_neg (by omega), if_neg (by omega), (wrow_get F low n m hj).2, hG m hj hk]
  · rw [if_neg (by omega), if_neg (by omega), List.getElem?_eq_none (by omega), List.getElem?_eq_none (by omega)]
/-- the state of the sums -/
structure SumS (Sb Lb g n : Nat) (low : Int) (done : List (Int × Int)) (W : World) : Prop where
  ss : Arr W Sb 81 [.slice (some ⟨g, 0, none⟩) n n]
  ll : Arr W Lb 3 [.int .i64 low]
  row : Arr W g 85 (wrow (cf done) low n)
theorem SumS.kp {Sb Lb g n : Nat} {low : Int} {done : List (Int × Int)} {W W' : World} (h : SumS Sb Lb g n low done W) (hb : Below W.heap.size W W') : SumS Sb Lb g n low done W' := ⟨h.ss.below hb h.ss.lt, h.ll.below hb h.ll.lt, h.row.below hb h.row.lt⟩
set_option maxHeartbeats 2000000 in
set_option maxRecDepth 100000 in
theorem mulclo_any (Sb Lb g n base : Nat) (low e c : Int) (m : Nat) (done : List (Int × Int)) (w : World) (hs : SumS Sb Lb g n low done w) (he : e = low + (m : Int)) (hi : m < n) (hn : n ≤ 1000000000) (hlo : -1000000000 ≤ low ∧ low ≤ 1000000000) (hgS : g ≠ Sb) (hgL : g ≠ Lb) (hbg : base ≤ g) (hbw : base ≤ w.heap.size) :
    Calls Tryz.prog 47 #[.int .i64 e, .agg #[.int .u64 ((hiN (rs c) : Nat) : Int), .int .u64 ((loN (rs c) : Nat) : Int)], .pointer (some ⟨Sb, 0, none⟩), .pointer (some ⟨Lb, 0, none⟩)] w fun en w' => en = .returned (.tuple #[]) ∧ SumS Sb Lb g n low (done ++ [(e, c)]) w' ∧ Oth base [g] none w w' := by
  have HI := Lib.hid hi
  have HG := Lib.hid (And.intro hgS hgL)
  have HBG := Lib.hid (And.intro hbg hbw)
  have HCF := Lib.hid (show ∀ x, cf (done ++ [(e, c)]) x = cf done x + if e = x then c else 0 from fun x => by rw [cf_append, cf_one])
  have HWR := Lib.hid (show IntKind.i64.wrap (e - low) = (m : Int) from by rw [he, show low + (m : Int) - low = (m : Int) by omega]; exact IntWalk.i64_in _ (by omega))
  have HE := Lib.hid he
  have zi : (m : Int) < (n : Int) := by omega
  have hW : ∀ (c1 c2 : Int) W, W = w.alloc (.cells #[.int .u64 c1, .int .u64 c2] 85) → SumS Sb Lb g n low done W ∧ Arr W w.heap.size 85 [.int .u64 c1, .int .u64 c2] ∧ Below w.heap.size w W ∧ W.heap.size = w.heap.size + 1 := by
    intro c1 c2 W hW
    subst hW
    exact ⟨hs.kp ((Below.refl _ _).alloc (Nat.le_refl _) _), Arr.new _ _ [_, _], (Below.refl _ _).alloc (Nat.le_refl _) _, by simp⟩
  replace hW := hW ((hiN (rs c) : Nat) : Int) ((loN (rs c) : Nat) : Int)
  have HGW := Lib.hid hs.row.lt
  clear hs he hi hn hlo hgS hgL hbg hbw
  obtain ⟨B, hB⟩ : ∃ B, B = w.heap.size := ⟨_, rfl⟩
  go_enter Tryz.func47, Tryz.ntmps47
  go_upto_region 1 with fail
  generalize (w.alloc (.cells #[.int .u64 ((hiN (rs c) : Nat) : Int), .int .u64 ((loN (rs c) : Nat) : Int)] 85)) = w3 at hW ⊢
  obtain ⟨hs3, qb, hb3, hs⟩ := hW w3 rfl
  rw [← hB] at qb hs HGW HBG ⊢
  have HS3 := Lib.hid hs3
  have QB := Lib.hid qb
  have HB3 := Lib.hid hb3
  have HSZ := Lib.hid hs
  have HBE := Lib.hid hB
  clear hW hs3 qb hb3 hs hB
  refine wp_region_phis 13 (by kernel_rfl) (by kernel_rfl) (by kernel_rfl) (by kernel_rfl) (by kernel_rfl) rfl (by kernel_rfl) (phiT (fun i => ([some (.slice (some ⟨g, 0, none⟩) n n), some (.int .i64 e), some (.int .i64 low), some (.int .i64 (m : Int)), some (.slice (some ⟨g, 0, none⟩) n n), some (.int .i64 e), some (.int .i64 low), some (.int .i64 (m : Int)), some (.pointer (some ⟨g, m * 2, none⟩)), some (.agg #[.int .u64 ((hiN (rs (cf done e)) : Nat) : Int), .int .u64 ((loN (rs (cf done e)) : Nat) : Int)]), some (.agg #[.int .u64 ((hiN (rs c) : Nat) : Int), .int .u64 ((loN (rs c) : Nat) : Int)]), some (.agg #[.int .u64 ((hiN (rs (cf done e + c)) : Nat) : Int), .int .u64 ((loN (rs (cf done e + c)) : Nat) : Int)]), some (.pointer (some ⟨g, m * 2, none⟩)), some (undef)] : List (Option Value)).getD i none) (fun i v w => True)) (fun i v w w' h hb => ?_) (fun i => false) (fun i v w hi h k hk => ?_) (fun _ W => SumS Sb Lb g n low (done ++ [(e, c)]) W ∧ Oth base [g] none w3 W) ⟨?_, ?_, ?_, ?_, ?_, ?_, ?_, ?_, ?_, ?_, ?_, ?_, ?_, ?_, trivial⟩ ?_
  · unfold phiT at h ⊢
    split
    · next u hu => rw [hu] at h; exact h
    · next hu =>
      rw [hu] at h
      exact True.intro
  · simp only [Bool.or_eq_true, decide_eq_true_eq, Bool.false_eq_true] at hi
  · intro x w1 bA hbel hdep hdap hold hb
    refine ⟨fun _ => ?_, fun h => absurd h (by decide)⟩
    have e2 : bA.tmps[2]?.getD undef = .pointer (some ⟨Sb, 0, none⟩) := hb 2
    have cc := ((HS3.out.kp hbel).ss).cell 0
    refine phf_run (.slice (some ⟨g, 0, none⟩) n n) rfl ?_ rfl
    clear hb hdep hdap hold
    go_simp
  · intro x w1 bA hbel hdep hdap hold hb
    refine ⟨fun _ => ?_, fun h => absurd h (by decide)⟩
    have e0 : bA.tmps[0]?.getD undef = .int .i64 e := hb 0
    refine phf_run (.int .i64 e) rfl ?_ rfl
    clear hb hdep hdap hold
    go_simp
  · intro x w1 bA hbel hdep hdap hold hb
    refine ⟨fun _ => ?_, fun h => absurd h (by decide)⟩
    have e3 : bA.tmps[3]?.getD undef = .pointer (some ⟨Lb, 0, none⟩) := hb 3
    have cc := ((HS3.out.kp hbel).ll).cell 0
    refine phf_run (.int .i64 low) rfl ?_ rfl
    clear hb hdep hdap hold
    go_simp
  · intro x w1 bA hbel hdep hdap hold hb
    refine ⟨fun _ => ?_, fun h => absurd h (by decide)⟩
    have e7 : bA.tmps[7]?.getD undef = .int .i64 e := (hb 7).trans (hdep 1 (by decide))
    have e8 : bA.tmps[8]?.getD undef = .int .i64 low := (hb 8).trans (hdep 2 (by decide))
    have cw := HWR.out
    refine phf_run (.int .i64 (m : Int)) rfl ?_ rfl
    clear hb hdep hdap hold
    go_simp
  · intro x w1 bA hbel hdep hdap hold hb
    refine ⟨fun _ => ?_, fun h => absurd h (by decide)⟩
    have e2 : bA.tmps[2]?.getD undef = .pointer (some ⟨Sb, 0, none⟩) := hb 2
    have cc := ((HS3.out.kp hbel).ss).cell 0
    refine phf_run (.slice (some ⟨g, 0, none⟩) n n) rfl ?_ rfl
    clear hb hdep hdap hold
    go_simp
  · intro x w1 bA hbel hdep hdap hold hb
    refine ⟨fun _ => ?_, fun h => absurd h (by decide)⟩
    have e0 : bA.tmps[0]?.getD undef = .int .i64 e := hb 0
    refine phf_run (.int .i64 e) rfl ?_ rfl
    clear hb hdep hdap hold
    go_simp
  · intro x w1 bA hbel hdep hdap hold hb
    refine ⟨fun _ => ?_, fun h => absurd h (by decide)⟩
    have e3 : bA.tmps[3]?.getD undef = .pointer (some ⟨Lb, 0, none⟩) := hb 3
    have cc := ((HS3.out.kp hbel).ll).cell 0
    refine phf_run (.int .i64 low) rfl ?_ rfl
    clear hb hdep hdap hold
    go_simp
  · intro x w1 bA hbel hdep hdap hold hb
    refine ⟨fun _ => ?_, fun h => absurd h (by decide)⟩
    have e11 : bA.tmps[11]?.getD undef = .int .i64 e := (hb 11).trans (hdep 5 (by decide))
    have e12 : bA.tmps[12]?.getD undef = .int .i64 low := (hb 12).trans (hdep 6 (by decide))
    have cw := HWR.out
    refine phf_run (.int .i64 (m : Int)) rfl ?_ rfl
    clear hb hdep hdap hold
    go_simp
  · intro x w1 bA hbel hdep hdap hold hb
    refine ⟨fun _ => ?_, fun h => absurd h (by decide)⟩
    have e10 : bA.tmps[10]?.getD undef = .slice (some ⟨g, 0, none⟩) n n := (hb 10).trans (hdep 4 (by decide))
    have e13 : bA.tmps[13]?.getD undef = .int .i64 (m : Int) := (hb 13).trans (hdep 7 (by decide))
    refine phf_run (.pointer (some ⟨g, m * 2, none⟩)) rfl ?_ rfl
    clear hb hdep hdap hold
    go_simp
  · intro x w1 bA hbel hdep hdap hold hb
    refine ⟨fun _ => ?_, fun h => absurd h (by decide)⟩
    have e14 : bA.tmps[14]?.getD undef = .pointer (some ⟨g, m * 2, none⟩) := (hb 14).trans (hdep 8 (by decide))
    have cc0 := ((HS3.out.kp hbel).row).cell (m * 2)
    have cc1 := ((HS3.out.kp hbel).row).cell (m * 2 + 1)
    rw [(wrow_get (cf done) low n m HI.out).1, ← HE.out] at cc0
    rw [(wrow_get (cf done) low n m HI.out).2, ← HE.out] at cc1
    refine phf_run (.agg #[.int .u64 ((hiN (rs (cf done e)) : Nat) : Int), .int .u64 ((loN (rs (cf done e)) : Nat) : Int)]) rfl ?_ rfl
    clear hb hdep hdap hold
    go_simp
  · intro x w1 bA hbel hdep hdap hold hb
    refine ⟨fun _ => ?_, fun h => absurd h (by decide)⟩
    have e5 : bA.tmps[5]?.getD undef = .pointer (some ⟨B, 0, none⟩) := hb 5
    have cc0 := (QB.out.below hbel QB.out.lt).cell 0
    have cc1 := (QB.out.below hbel QB.out.lt).cell 1
    refine phf_run (.agg #[.int .u64 ((hiN (rs c) : Nat) : Int), .int .u64 ((loN (rs c) : Nat) : Int)]) rfl ?_ rfl
    clear hb hdep hdap hold
    go_simp
  · intro x w1 bA hbel hdep hdap hold hb
    refine ⟨fun _ => ?_, fun h => absurd h (by decide)⟩
    have e15 : bA.tmps[15]?.getD undef = .agg #[.int .u64 ((hiN (rs (cf done e)) : Nat) : Int), .int .u64 ((loN (rs (cf done e)) : Nat) : Int)] := (hb 15).trans (hdep 9 (by decide))
    have e16 : bA.tmps[16]?.getD undef = .agg #[.int .u64 ((hiN (rs c) : Nat) : Int), .int .u64 ((loN (rs c) : Nat) : Int)] := (hb 16).trans (hdep 10 (by decide))
    refine phf_call ?_ ((wadd_any (cf done e) c w1).mono fun e w' h => ⟨_, h.1, h.2, rfl, fun e => Bool.noConfusion e⟩)
    clear hb hdep hdap hold
    go_simp
  · intro x w1 bA hbel hdep hdap hold hb
    refine ⟨fun _ => ?_, fun h => absurd h (by decide)⟩
    have e6 : bA.tmps[6]?.getD undef = .slice (some ⟨g, 0, none⟩) n n := (hb 6).trans (hdep 0 (by decide))
    have e9 : bA.tmps[9]?.getD undef = .int .i64 (m : Int) := (hb 9).trans (hdep 3 (by decide))
    refine phf_run (.pointer (some ⟨g, m * 2, none⟩)) rfl ?_ rfl
    clear hb hdep hdap hold
    go_simp
  · intro x w1 bA hbel hdep hdap hold hb
    refine ⟨fun h => absurd h (by decide), fun _ hall => ?_⟩
    have e17 : bA.tmps[17]?.getD undef = .agg #[.int .u64 ((hiN (rs (cf done e + c)) : Nat) : Int), .int .u64 ((loN (rs (cf done e + c)) : Nat) : Int)] := (hb 17).trans (hdep 11 (by decide))
    have e18 : bA.tmps[18]?.getD undef = .pointer (some ⟨g, m * 2, none⟩) := (hb 18).trans (hdep 12 (by decide))
    clear hb hdep hdap hold
    have hs1 := HS3.out.kp hbel
    have rr0 := hs1.row.cell (m * 2)
    have rr1 := hs1.row.cell (m * 2 + 1)
    rw [(wrow_get (cf done) low n m HI.out).1] at rr0
    rw [(wrow_get (cf done) low n m HI.out).2] at rr1
    have f0 := hs1.row.frozen (m * 2)
    have f1 := hs1.row.frozen (m * 2 + 1)
    have hset := (hs1.row.set (m * 2) (.int .u64 ((hiN (rs (cf done e + c)) : Nat) : Int))).set (m * 2 + 1) (.int .u64 ((loN (rs (cf done e + c)) : Nat) : Int))
    have hrow : ((wrow (cf done) low n).set (m * 2) (.int .u64 ((hiN (rs (cf done e + c)) : Nat) : Int))).set (m * 2 + 1) (.int .u64 ((loN (rs (cf done e + c)) : Nat) : Int)) = wrow (cf (done ++ [(e, c)])) low n := by
      have h1 : cf done e + c = cf (done ++ [(e, c)]) (low + (m : Int)) := by rw [HCF.out, HE.out, if_pos rfl]
      rw [h1]
      exact wrow_set _ _ low n m HI.out (fun j _ hj => by rw [HCF.out, if_neg (by rw [HE.out]; omega), Int.add_zero])
    rw [hrow] at hset
    have HSET := Lib.hid hset
    have HS1 := Lib.hid hs1
    have HBL := Lib.hid hbel
    clear hset hrow hs1 hbel
    refine phl_store (R := fun W => SumS Sb Lb g n low (done ++ [(e, c)]) W ∧ Oth base [g] none w3 W) ((w1.setCell ⟨g, m * 2, none⟩ (.int .u64 ((hiN (rs (cf done e + c)) : Nat) : Int))).setCell ⟨g, m * 2 + 1, none⟩ (.int .u64 ((loN (rs (cf done e + c)) : Nat) : Int))) ?_ rfl ⟨⟨(HS1.out.ss.far (Ne.symm HG.out.1) _).far (Ne.symm HG.out.1) _, (HS1.out.ll.far (Ne.symm HG.out.2) _).far (Ne.symm HG.out.2) _, HSET.out⟩, (((Oth.refl1 base g w3).grow HBL.out (by have := HBG.out; have := HSZ.out; omega)).set HBG.out.1 _ _).set HBG.out.1 _ _⟩
    go_simp
  intro x w1 hR
  simp only [putAll, dstOf, Act.put, List.map_cons, List.map_nil, List.setIfInBounds_toArray, List.set_cons_succ, List.set_cons_zero, Nat.reduceAdd]
  have HR := Lib.hid hR
  clear hR
  go_wp2_with fail
  go_end0
  have hbe := HBE.out
  subst hbe
  exact ⟨rfl, HR.out.1, ((Oth.refl1 base g w).grow HB3.out HBG.out.2).trans1 HR.out.2⟩


open Go.Maps
def kyI (e : Int) : Lit := .int .i64 e
theorem kyI_ne {a b : Int} (h : a ≠ b) : kyI a ≠ kyI b := by
  intro e
  unfold kyI at e
  injection e with _ e
  exact h e
def wD (x : Int) : DataW Unit := .agg [.lit (.int .u64 ((hiN (rs x) : Nat) : Int)), .lit (.int .u64 ((loN (rs x) : Nat) : Int))]
/-- a wide integer as an element of a map -/
def wElem : Value → Option (DataW Unit × List MemPlace)
  | .agg cs => match cs.toList with
    | [.int .u64 a, .int .u64 b] => some (.agg [.lit (.int .u64 a), .lit (.int .u64 b)], [])
    | _ => none
  | _ => none
theorem wElem_mk (x : Int) : wElem (.agg #[.int .u64 ((hiN (rs x) : Nat) : Int), .int .u64 ((loN (rs x) : Nat) : Int)]) = some (wD x, []) := rfl
theorem wElem_inv {v : Value} {x : Int} {ps : List MemPlace} (h : wElem v = some (wD x, ps)) : v = .agg #[.int .u64 ((hiN (rs x) : Nat) : Int), .int .u64 ((loN (rs x) : Nat) : Int)] := by
  unfold wElem at h
  split at h
  · next cs =>
    split at h
    · next a b hc =>
      simp only [Option.some.injEq, Prod.mk.injEq, wD, DataW.agg.injEq, List.cons.injEq, DataW.lit.injEq, Lit.int.injEq, and_true, true_and] at h
      obtain ⟨⟨h1, h2⟩, _⟩ := h
      have : cs = #[.int .u64 a, .int .u64 b] := by apply Array.ext'; simpa using hc
      rw [this, h1, h2]
    · cases h
  · cases h
/-- what the map holds -/
structure MD (done : List (Int × Int)) (D : DataW Unit) : Prop where
  tidy : Tidy D
  val : ∀ e, D.atKey (kyI e) (wD 0) = wD (cf done e)
  has : ∀ e, Maps.has D (kyI e) = true ↔ ∃ t ∈ done, t.1 = e
theorem MD.start : MD [] (.map []) := ⟨tidy_empty, fun e => rfl, fun e => by simp [Maps.has]⟩
theorem MD.put {done : List (Int × Int)} {D : DataW Unit} (h : MD done D) (e c : Int) : MD (done ++ [(e, c)]) (D.put (kyI e) (wD (cf done e + c))) := by
  have hkl : WideAt.IsKeyLit (kyI e) := trivial
  refine ⟨h.tidy.put hkl _, fun x => ?_, fun x => ?_⟩
  · rw [cf_append, cf_one]
    by_cases hx : x = e
    · subst hx
      rw [atKey_put_same h.tidy.isMap hkl, if_pos rfl]
    · rw [atKey_put_other (kyI_ne hx), h.val, if_neg (fun q => hx q.symm), Int.add_zero]
  · by_cases hx : x = e
    · subst hx
      rw [has_put_same h.tidy.isMap hkl]
      exact ⟨fun _ => ⟨(x, c), by simp, rfl⟩, fun _ => rfl⟩
    · rw [has_put_other (kyI_ne hx), h.has]
      constructor
      · rintro ⟨t, ht, he⟩; exact ⟨t, List.mem_append_left _ ht, he⟩
      · rintro ⟨t, ht, he⟩
        rcases List.mem_append.1 ht with ht | ht
        · exact ⟨t, ht, he⟩
        · rw [List.mem_singleton.1 ht] at he; exact absurd he.symm hx
/-- the state of the map -/
structure MapS (Mb g : Nat) (done : List (Int × Int)) (W : World) : Prop where
  mm : Arr W Mb 119 [.map (some g)]
  ex : ∃ D : DataW Unit, W.ownsMap Tryz.prog 3 wElem g done.length D ∧ MD done D
theorem MapS.lt {Mb g : Nat} {done : List (Int × Int)} {W : World} (h : MapS Mb g done W) : g < W.heap.size := by obtain ⟨D, h1, _⟩ := h.ex; exact h1.lt
theorem MapS.kp {Mb g : Nat} {done : List (Int × Int)} {W W' : World} (h : MapS Mb g done W) (hb : Below W.heap.size W W') : MapS Mb g done W' := by
  obtain ⟨D, ⟨es, clock, hh, F, hs, hD⟩, h2⟩ := h.ex
  have hlt : g < W.heap.size := (Array.getElem?_eq_some_iff.1 hh).1
  exact ⟨h.mm.below hb h.mm.lt, D, ⟨es, clock, (hb.block g hlt).trans hh, F, hs, hD⟩, h2⟩
theorem MapS.ne {Mb g : Nat} {done : List (Int × Int)} {W : World} (h : MapS Mb g done W) : Mb ≠ g := by
  intro e
  subst e
  obtain ⟨D, ⟨es, clock, hh, _⟩, _⟩ := h.ex
  have h1 := h.mm
  unfold Arr at h1
  rw [h1] at hh
  cases hh
theorem zeroWide (w : World) : (zeroValue 85).run Tryz.prog w = .ok (.agg #[.int .u64 0, .int .u64 0]) w := by kernel_rfl
theorem keyed_int : Keyed Tryz.prog 3 := int_keyed Tryz.underlying3
theorem key_int {e : Int} (h : -9223372036854775808 ≤ e ∧ e ≤ 9223372036854775807) : keyOf Tryz.prog 3 (.int .i64 e) = some (kyI e) := keyOf_int_mk Tryz.underlying3 (WalkArith.wf_i64 (by omega))
theorem MapS.look {Mb g : Nat} {done : List (Int × Int)} {W : World} (h : MapS Mb g done W) {e : Int} (he : -9223372036854775808 ≤ e ∧ e ≤ 9223372036854775807) : (Instr.lookup 119 (.map (some g)) (.int .i64 e) false).run Tryz.prog W = .ok (.agg #[.int .u64 ((hiN (rs (cf done e)) : Nat) : Int), .int .u64 ((loN (rs (cf done e)) : Nat) : Int)]) W := by
  obtain ⟨D, h1, h2⟩ := h.ex
  obtain ⟨v, ps, hrun, hv⟩ := h1.lookup keyed_int Tryz.underlying119 (zeroWide W) (wElem_mk 0) (key_int he)
  rw [h2.val] at hv
  rw [hrun, wElem_inv hv]
theorem MapS.store {Mb g : Nat} {done : List (Int × Int)} {W : World} (h : MapS Mb g done W) {e c : Int} (he : -9223372036854775808 ≤ e ∧ e ≤ 9223372036854775807) (hl : done.length ≤ 1000000000000000) : ∃ W', (Instr.mapUpdate 119 (.map (some g)) (.int .i64 e) (.agg #[.int .u64 ((hiN (rs (cf done e + c)) : Nat) : Int), .int .u64 ((loN (rs (cf done e + c)) : Nat) : Int)])).run Tryz.prog W = .ok () W' ∧ MapS Mb g (done ++ [(e, c)]) W' ∧ ∀ base, base ≤ g → base ≤ W.heap.size → Oth base [g] none W W' := by
  have hne := h.ne
  obtain ⟨D, h1, h2⟩ := h.ex
  obtain ⟨W', hrun, hown, hgr⟩ := h1.update keyed_int Tryz.underlying119 (by unfold maxLen; omega) (key_int he) (wElem_mk (cf done e + c))
  refine ⟨W', hrun, ⟨(hgr.block Mb h.mm.lt (fun q => by injection q with q; exact hne q)).trans h.mm, _, by rw [List.length_append]; exact hown, h2.put e c⟩, fun base hb hbs => ⟨(Below.refl base W).grown hgr hbs (fun j hj => by cases hj; exact hb), fun k hk h1 _ => hgr.block k hk (fun q => by injection q with q; exact h1 (by simp [q]))⟩⟩
set_option maxHeartbeats 2000000 in
set_option maxRecDepth 100000 in
theorem spclo_any (Mb g base : Nat) (e c : Int) (done : List (Int × Int)) (w : World) (hs : MapS Mb g done w) (he : -9223372036854775808 ≤ e ∧ e ≤ 9223372036854775807) (hl : done.length ≤ 1000000000000000) (hbg : base ≤ g) (hbw : base ≤ w.heap.size) :
    Calls Tryz.prog 80 #[.int .i64 e, .agg #[.int .u64 ((hiN (rs c) : Nat) : Int), .int .u64 ((loN (rs c) : Nat) : Int)], .pointer (some ⟨Mb, 0, none⟩)] w fun en w' => en = .returned (.tuple #[]) ∧ MapS Mb g (done ++ [(e, c)]) w' ∧ Oth base [g] none w w' := by
  have HBG := Lib.hid (And.intro hbg hbw)
  have HE := Lib.hid he
  have HL := Lib.hid hl
  have hW : ∀ (c1 c2 : Int) W, W = w.alloc (.cells #[.int .u64 c1, .int .u64 c2] 85) → MapS Mb g done W ∧ Arr W w.heap.size 85 [.int .u64 c1, .int .u64 c2] ∧ Below w.heap.size w W ∧ W.heap.size = w.heap.size + 1 := by
    intro c1 c2 W hW
    subst hW
    exact ⟨hs.kp ((Below.refl _ _).alloc (Nat.le_refl _) _), Arr.new _ _ [_, _], (Below.refl _ _).alloc (Nat.le_refl _) _, by simp⟩
  replace hW := hW ((hiN (rs c) : Nat) : Int) ((loN (rs c) : Nat) : Int)
  have HGW := Lib.hid hs.lt
  clear hs he hl hbg hbw
  obtain ⟨B, hB⟩ : ∃ B, B = w.heap.size := ⟨_, rfl⟩
  go_enter Tryz.func80, Tryz.ntmps80
  go_upto_region 1 with fail
  generalize (w.alloc (.cells #[.int .u64 ((hiN (rs c) : Nat) : Int), .int .u64 ((loN (rs c) : Nat) : Int)] 85)) = w3 at hW ⊢
  obtain ⟨hs3, qb, hb3, hs⟩ := hW w3 rfl
  rw [← hB] at qb hs HGW HBG ⊢
  have HS3 := Lib.hid hs3
  have QB := Lib.hid qb
  have HB3 := Lib.hid hb3
  have HSZ := Lib.hid hs
  have HBE := Lib.hid hB
  clear hW hs3 qb hb3 hs hB
  refine wp_region_phis 7 (by kernel_rfl) (by kernel_rfl) (by kernel_rfl) (by kernel_rfl) (by kernel_rfl) rfl (by kernel_rfl) (phiT (fun i => ([some (.map (some g)), some (.int .i64 e), some (.map (some g)), some (.int .i64 e), some (.agg #[.int .u64 ((hiN (rs (cf done e)) : Nat) : Int), .int .u64 ((loN (rs (cf done e)) : Nat) : Int)]), some (.agg #[.int .u64 ((hiN (rs c) : Nat) : Int), .int .u64 ((loN (rs c) : Nat) : Int)]), some (.agg #[.int .u64 ((hiN (rs (cf done e + c)) : Nat) : Int), .int .u64 ((loN (rs (cf done e + c)) : Nat) : Int)]), some (undef)] : List (Option Value)).getD i none) (fun i v w => True)) (fun i v w w' h hb => ?_) (fun i => false) (fun i v w hi h k hk => ?_) (fun _ W => MapS Mb g (done ++ [(e, c)]) W ∧ Oth base [g] none w3 W) ⟨?_, ?_, ?_, ?_, ?_, ?_, ?_, ?_, trivial⟩ ?_
  · unfold phiT at h ⊢
    split
    · next u hu => rw [hu] at h; exact h
    · next hu =>
      rw [hu] at h
      exact True.intro
  · simp only [Bool.or_eq_true, decide_eq_true_eq, Bool.false_eq_true] at hi
  · intro x w1 bA hbel hdep hdap hold hb
    refine ⟨fun _ => ?_, fun h => absurd h (by decide)⟩
    have e2 : bA.tmps[2]?.getD undef = .pointer (some ⟨Mb, 0, none⟩) := hb 2
    have cc := ((HS3.out.kp hbel).mm).cell 0
    refine phf_run (.map (some g)) rfl ?_ rfl
    clear hb hdep hdap hold
    go_simp
  · intro x w1 bA hbel hdep hdap hold hb
    refine ⟨fun _ => ?_, fun h => absurd h (by decide)⟩
    have e0 : bA.tmps[0]?.getD undef = .int .i64 e := hb 0
    refine phf_run (.int .i64 e) rfl ?_ rfl
    clear hb hdep hdap hold
    go_simp
  · intro x w1 bA hbel hdep hdap hold hb
    refine ⟨fun _ => ?_, fun h => absurd h (by decide)⟩
    have e2 : bA.tmps[2]?.getD undef = .pointer (some ⟨Mb, 0, none⟩) := hb 2
    have cc := ((HS3.out.kp hbel).mm).cell 0
    refine phf_run (.map (some g)) rfl ?_ rfl
    clear hb hdep hdap hold
    go_simp
  · intro x w1 bA hbel hdep hdap hold hb
    refine ⟨fun _ => ?_, fun h => absurd h (by decide)⟩
    have e0 : bA.tmps[0]?.getD undef = .int .i64 e := hb 0
    refine phf_run (.int .i64 e) rfl ?_ rfl
    clear hb hdep hdap hold
    go_simp
  · intro x w1 bA hbel hdep hdap hold hb
    refine ⟨fun _ => ?_, fun h => absurd h (by decide)⟩
    have e7 : bA.tmps[7]?.getD undef = .map (some g) := (hb 7).trans (hdep 2 (by decide))
    have e8 : bA.tmps[8]?.getD undef = .int .i64 e := (hb 8).trans (hdep 3 (by decide))
    have cl := (HS3.out.kp hbel).look HE.out
    refine phf_run (.agg #[.int .u64 ((hiN (rs (cf done e)) : Nat) : Int), .int .u64 ((loN (rs (cf done e)) : Nat) : Int)]) rfl ?_ rfl
    clear hb hdep hdap hold
    go_simp
  · intro x w1 bA hbel hdep hdap hold hb
    refine ⟨fun _ => ?_, fun h => absurd h (by decide)⟩
    have e4 : bA.tmps[4]?.getD undef = .pointer (some ⟨B, 0, none⟩) := hb 4
    have cc0 := (QB.out.below hbel QB.out.lt).cell 0
    have cc1 := (QB.out.below hbel QB.out.lt).cell 1
    refine phf_run (.agg #[.int .u64 ((hiN (rs c) : Nat) : Int), .int .u64 ((loN (rs c) : Nat) : Int)]) rfl ?_ rfl
    clear hb hdep hdap hold
    go_simp
  · intro x w1 bA hbel hdep hdap hold hb
    refine ⟨fun _ => ?_, fun h => absurd h (by decide)⟩
    have e9 : bA.tmps[9]?.getD undef = .agg #[.int .u64 ((hiN (rs (cf done e)) : Nat) : Int), .int .u64 ((loN (rs (cf done e)) : Nat) : Int)] := (hb 9).trans (hdep 4 (by decide))
    have e10 : bA.tmps[10]?.getD undef = .agg #[.int .u64 ((hiN (rs c) : Nat) : Int), .int .u64 ((loN (rs c) : Nat) : Int)] := (hb 10).trans (hdep 5 (by decide))
    refine phf_call ?_ ((wadd_any (cf done e) c w1).mono fun e w' h => ⟨_, h.1, h.2, rfl, fun e => Bool.noConfusion e⟩)
    clear hb hdep hdap hold
    go_simp
  · intro x w1 bA hbel hdep hdap hold hb
    refine ⟨fun h => absurd h (by decide), fun _ hall => ?_⟩
    have e5 : bA.tmps[5]?.getD undef = .map (some g) := (hb 5).trans (hdep 0 (by decide))
    have e6 : bA.tmps[6]?.getD undef = .int .i64 e := (hb 6).trans (hdep 1 (by decide))
    have e11 : bA.tmps[11]?.getD undef = .agg #[.int .u64 ((hiN (rs (cf done e + c)) : Nat) : Int), .int .u64 ((loN (rs (cf done e + c)) : Nat) : Int)] := (hb 11).trans (hdep 6 (by decide))
    clear hb hdep hdap hold
    have hs1 := HS3.out.kp hbel
    obtain ⟨W2, hrun, hm2, ho2⟩ := hs1.store (c := c) HE.out HL.out
    have HM2 := Lib.hid hm2
    have HO2 := Lib.hid (((Oth.refl1 base g w3).grow hbel (by have := HBG.out; have := HSZ.out; omega)).trans1 (ho2 base HBG.out.1 (by have := HBG.out; have := HSZ.out; have := hbel.size; omega)))
    clear hs1 hbel hm2 ho2
    refine phl_store (R := fun W => MapS Mb g (done ++ [(e, c)]) W ∧ Oth base [g] none w3 W) W2 ?_ rfl ⟨HM2.out, HO2.out⟩
    go_simp
  intro x w1 hR
  simp only [putAll, dstOf, Act.put, List.map_cons, List.map_nil, List.setIfInBounds_toArray, List.set_cons_succ, List.set_cons_zero, Nat.reduceAdd]
  have HR := Lib.hid hR
  clear hR
  go_wp2_with fail
  go_end0
  have hbe := HBE.out
  subst hbe
  exact ⟨rfl, HR.out.1, ((Oth.refl1 base g w).grow HB3.out HBG.out.2).trans1 HR.out.2⟩
end Go.Proofs.YtbfggncmjdhapaaGreatDoor

namespace Go.Proofs.YtbfggncmjdhapaaGreatDoor
set_option linter.unusedVariables false
open Go.RowKit

/-- v is a slice of the call's own, from block base on, that holds the integers xs -/
def OwnI (e : TypeId) (base : Nat) (w : World) (v : Value) (xs : List Int) : Prop := w.ownsRow base e 1 v xs.length (xs.map (Value.int .i64))

section
variable {e : TypeId} {base : Nat} {w w' : World} {v : Value} {xs : List Int}
theorem OwnI.nil (e : TypeId) (base : Nat) (w : World) : OwnI e base w (.slice none 0 0) [] := ⟨rfl, .inl ⟨rfl, rfl⟩⟩
theorem OwnI.form (h : OwnI e base w v xs) : ∃ A c, v = .slice A xs.length c := by
  rcases h.2 with ⟨rfl, h0⟩ | ⟨g, cap, cur, rfl, _⟩
  · exact ⟨none, 0, by rw [h0]⟩
  · exact ⟨_, _, rfl⟩
theorem OwnI.block (h : OwnI e base w v xs) : ∀ k, v.ownBlock = some k → base ≤ k := by
  intro k hk
  rcases h.2 with ⟨rfl, h0⟩ | ⟨g, cap, cur, rfl, hg, _⟩
  · simp [Value.ownBlock] at hk
  · simp [Value.ownBlock] at hk; omega
theorem OwnI.ints (h : OwnI e base w v xs) : Ints w v xs := by
  rcases h.2 with ⟨rfl, h0⟩ | ⟨g, cap, cur, rfl, hg, hh, hn, _, hc, ht⟩
  · have : xs = [] := List.eq_nil_of_length_eq_zero h0
    subst this
    exact Ints.nil w
  · refine ⟨_, _, rfl, hn, fun k x hk => ⟨g, 0, rfl, ?_⟩⟩
    rw [cell_of_row w g _ cur e (0, 0) hh, Nat.zero_add]
    have hk' : k < xs.length := (List.getElem?_eq_some_iff.1 hk).1
    have h1 : (cur.toList.take (xs.length * 1))[k]? = some (.int .i64 x) := by rw [ht, List.getElem?_map, hk]; rfl
    rw [List.getElem?_take, if_pos (by omega)] at h1
    simpa using h1
theorem OwnI.below {B : Nat} (h : OwnI e base w v xs) (hb : Below B w w') (hB : w.heap.size ≤ B) : OwnI e base w' v xs := by
  refine ⟨h.1, ?_⟩
  rcases h.2 with h0 | ⟨g, cap, cur, e1, hg, hh, r⟩
  · exact .inl h0
  · refine .inr ⟨g, cap, cur, e1, hg, ?_, r⟩
    have hlt : g < w.heap.size := by
      rcases Nat.lt_or_ge g w.heap.size with hlt | hge
      · exact hlt
      · rw [Array.getElem?_eq_none hge] at hh; cases hh
    rw [hb.block g (by omega)]; exact hh
theorem OwnI.alloc (h : OwnI e base w v xs) (o : Obj) : OwnI e base (w.alloc o) v xs := h.below ((Below.refl _ _).alloc (Nat.le_refl _) o) (Nat.le_refl _)
theorem OwnI.drew (h : OwnI e base w v xs) : OwnI e base w.drew v xs := h
theorem OwnI.drewN (h : OwnI e base w v xs) (n : Nat) : OwnI e base (w.drewN n) v xs := h

/-- the run of append(v, u...) -/
theorem run_appI {P : Program} {t ty : TypeId} {i : TypeInfo} (ht : P.underlying t = some (.slice e)) (hi : P.info? e = some i) (hz : i.zero = some (.int .i64 0)) (hs : i.size = 1) (hby : i.bytes = 8)
    (h : OwnI e base w v xs) {u : Value} {ys : List Int} (hu : Ints w u ys) (hlen : xs.length + ys.length ≤ 1000000000) (hbase : base ≤ w.heap.size) :
    ∃ v' w', (Builtin.append_ #[t, t] ty #[v, u]).run P w = .ok v' w' ∧ OwnI e base w' v' (xs ++ ys) ∧ Below base w w' ∧ (∀ k, k < w.heap.size → v.ownBlock ≠ some k → w'.heap[k]? = w.heap[k]?) := by
  obtain ⟨A, c, rfl, hc, hx⟩ := hu
  cases A with
  | none =>
    have hy : ys = [] := by
      cases ys with
      | nil => rfl
      | cons y ys => obtain ⟨b, o, hA, _⟩ := hx 0 y rfl; cases hA
    subst hy
    refine ⟨v, w, ?_, by simpa using h, Below.refl _ _, fun _ _ _ => rfl⟩
    rcases h.2 with ⟨rfl, h0⟩ | ⟨g, cap, cur, rfl, _, _, hnc, _⟩
    · simp [Builtin.append_, run_underlying ht, sizeOf, typeInfo, hi, Builtin.lenOf, Builtin.firstCells]
    · simp [Builtin.append_, run_underlying ht, sizeOf, typeInfo, hi, Builtin.lenOf, Builtin.firstCells, hnc, storeCells]
  | some ad =>
    have hcells : ∀ j q, (ys.map (Value.int .i64))[j]? = some q → w.cell? (ad.add j) = some q := by
      intro j q hq
      rw [List.getElem?_map] at hq
      cases hy : ys[j]? with
      | none => rw [hy] at hq; cases hq
      | some y =>
        rw [hy] at hq
        injection hq with hq
        obtain ⟨b, o, hA, hcell⟩ := hx j y hy
        injection hA with hA
        subst hA
        rw [← hq]
        have : (⟨b, o, none⟩ : Addr).add j = ⟨b, o + j, none⟩ := by unfold Addr.add; split <;> simp_all
        rw [this]; exact hcell
    obtain ⟨v', w', hrun, h2, h3, _, _⟩ := run_append_own_at (P := P) w base t ty e i (.int .i64 0) 1 8 ht hi hz hs hby rfl (by decide) v xs.length (xs.map (Value.int .i64)) h ad ys.length c (ys.map (Value.int .i64)) (by simp) hcells
      (by intro q hq; obtain ⟨y, _, rfl⟩ := List.mem_map.1 hq; rfl) (by unfold maxLen; omega) (by omega) hbase
    refine ⟨v', w', hrun, ?_, (Below.refl _ _).grown h3 hbase h.block, fun k hk hne => h3.block k hk (fun e => hne e.symm)⟩
    unfold OwnI
    rw [List.length_append, List.map_append]
    exact h2
end

section
variable {P : Program} {w : World} {e : TypeId} {base : Nat} {v : Value} {xs : List Int}
theorem wp_appI {o : Oper} {a : Act} {K : Act → World → Prop} {Q : Exit → Act → World → Prop} (s x : Operand) (t : TypeId) (ho : o.op = .call { callee := .builtin .append, args := #[s, x], argTypes := #[t, t] })
    {i : TypeInfo} (ht : P.underlying t = some (.slice e)) (hi : P.info? e = some i) (hz : i.zero = some (.int .i64 0)) (hs : i.size = 1) (hby : i.bytes = 8)
    (hv : a.eval s = v) (h : OwnI e base w v xs) {u : Value} {ys : List Int} (hx : a.eval x = u) (hu : Ints w u ys) (hlen : xs.length + ys.length ≤ 1000000000) (hbase : base ≤ w.heap.size)
    (hK : ∀ v' w', OwnI e base w' v' (xs ++ ys) → Below base w w' → (∀ k, k < w.heap.size → v.ownBlock ≠ some k → w'.heap[k]? = w.heap[k]?) → K (a.put o.dst v') w') : o.wp P a w K Q := by
  obtain ⟨v', w', hrun, h1, h2, h3⟩ := run_appI (P := P) (ty := o.type) ht hi hz hs hby h hu hlen hbase
  unfold Oper.wp execOp
  simp only [ho, resolve, invoke, builtin, Sem.run_bind, Sem.run_pure, Result.andThen_ok, List.map_toArray, List.map_cons, List.map_nil, hv, hx, hrun]
  exact hK v' w' h1 h2 h3
/-- in a plain region, behind 'at_builtin' -/
theorem wpList_appI {ops : Array Oper} {rest : List Oper} {o : Oper} {a : Act} {Q : Exit → Act → World → Prop} (hgd : o.guard = none) (s x : Operand) (t : TypeId) (ho : o.op = .call { callee := .builtin .append, args := #[s, x], argTypes := #[t, t] })
    {i : TypeInfo} (ht : P.underlying t = some (.slice e)) (hi : P.info? e = some i) (hz : i.zero = some (.int .i64 0)) (hs : i.size = 1) (hby : i.bytes = 8)
    (hv : a.eval s = v) (h : OwnI e base w v xs) {u : Value} {ys : List Int} (hx : a.eval x = u) (hu : Ints w u ys) (hlen : xs.length + ys.length ≤ 1000000000) (hbase : base ≤ w.heap.size)
    (hK : ∀ v' w', OwnI e base w' v' (xs ++ ys) → Below base w w' → (∀ k, k < w.heap.size → v.ownBlock ≠ some k → w'.heap[k]? = w.heap[k]?) → wpList P ops Q rest (a.put o.dst v') w') : wpList P ops Q (o :: rest) a w :=
  wpList_plain hgd fun _ hk => wp_appI s x t ho ht hi hz hs hby hv h hx hu hlen hbase fun v' w' h1 h2 h3 => hk _ _ (hK v' w' h1 h2 h3)
/-- in a region that draws its order -/
theorem step_appI {ops : Array Oper} {o : Oper} {a : Act} {K : Act → World → Prop} {Q : Exit → Act → World → Prop} {E : Prop} (hgd : o.guard = none) (s x : Operand) (t : TypeId) (ho : o.op = .call { callee := .builtin .append, args := #[s, x], argTypes := #[t, t] })
    {i : TypeInfo} (ht : P.underlying t = some (.slice e)) (hi : P.info? e = some i) (hz : i.zero = some (.int .i64 0)) (hs : i.size = 1) (hby : i.bytes = 8)
    (hv : a.eval s = v) (h : OwnI e base w v xs) {u : Value} {ys : List Int} (hx : a.eval x = u) (hu : Ints w u ys) (hlen : xs.length + ys.length ≤ 1000000000) (hbase : base ≤ w.heap.size)
    (hK : ∀ v' w', OwnI e base w' v' (xs ++ ys) → Below base w w' → (∀ k, k < w.heap.size → v.ownBlock ≠ some k → w'.heap[k]? = w.heap[k]?) → K (a.put o.dst v') w') : if Region.wanted o (yielded ops a.tmps) = true then Oper.wp P o a w K Q else E := by
  have hw : Region.wanted o (yielded ops a.tmps) = true := by simp [Region.wanted, hgd]
  rw [if_pos hw]
  exact wp_appI s x t ho ht hi hz hs hby hv h hx hu hlen hbase hK
end

theorem OwnI.emptyAt {w : World} {e : TypeId} {base g : Nat} (hb : base ≤ g) (hg : w.heap[g]? = some (.cells #[] e (0, 0))) : OwnI e base w (.slice (some ⟨g, 0, none⟩) 0 0) [] :=
  ⟨rfl, .inr ⟨g, 0, #[], rfl, hb, hg, Nat.le_refl _, by unfold maxLen; omega, rfl, rfl⟩⟩

/-- a part of a slice reads as the part of the list -/
theorem Ints.sub {w : World} {A : Option Addr} {n c lo hi : Nat} {xs : List Int} (h : Ints w (.slice A n c) xs) (h1 : lo ≤ hi) (h2 : hi ≤ xs.length) (c' : Nat) (hc : hi - lo ≤ c') (A' : Option Addr) (hA : lo < hi → A' = A.map (·.add lo)) :
    Ints w (.slice A' (hi - lo) c') ((xs.take hi).drop lo) := by
  obtain ⟨A0, c0, hv, hcap, hx⟩ := h
  injection hv with e1 e2 e3
  subst e1
  have hlen : ((xs.take hi).drop lo).length = hi - lo := by simp; omega
  refine ⟨A', c', by rw [hlen], by omega, fun k x hk => ?_⟩
  have hk' : k < hi - lo := by have := (List.getElem?_eq_some_iff.1 hk).1; omega
  rw [List.getElem?_drop, List.getElem?_take, if_pos (by omega)] at hk
  obtain ⟨b, o, hA0, hcell⟩ := hx (lo + k) x hk
  subst hA0
  refine ⟨b, o + lo, ?_, by rw [Nat.add_assoc]; exact hcell⟩
  rw [hA (by omega)]
  simp only [Option.map_some, Addr.add]
  split <;> simp_all
end Go.Proofs.YtbfggncmjdhapaaGreatDoor

namespace Go.Proofs.YtbfggncmjdhapaaGreatDoor
open Go.RowKit
set_option linter.unusedVariables false

/-- all old blocks but the slice's own are as they were -/
def KeepX (v : Value) (w W : World) : Prop := ∀ g, g < w.heap.size → v.ownBlock ≠ some g → W.heap[g]? = w.heap[g]?
theorem KeepX.refl (v : Value) (w : World) : KeepX v w w := fun _ _ _ => rfl
theorem KeepX.alloc {v : Value} {w W : World} (h : KeepX v w W) (hs : w.heap.size ≤ W.heap.size) (o : Obj) : KeepX v w (W.alloc o) := fun g hg hv => (Below.heap_alloc W o g (by omega)).trans (h g hg hv)
theorem KeepX.drewN {v : Value} {w W : World} (h : KeepX v w W) (n : Nat) : KeepX v w (W.drewN n) := h
theorem Ints.keepW {w W : World} {v : Value} {xs : List Int} (h : Ints w v xs) (hk : ∀ b, b < w.heap.size → W.heap[b]? = w.heap[b]?) : Ints W v xs := by
  refine h.keep fun b o hb => ?_
  unfold World.cell?
  rw [hk b hb]
/-- where a slice of the call's own lies, after it was appended to -/
def Moved (v v' : Value) (N : Nat) : Prop := v'.ownBlock = v.ownBlock ∨ ∀ g, v'.ownBlock = some g → N ≤ g
theorem KeepX.step {v u : Value} {w W W' : World} (h : KeepX v w W) (hs : w.heap.size ≤ W.heap.size) (hm : Moved v u w.heap.size) (hk : ∀ k, k < W.heap.size → u.ownBlock ≠ some k → W'.heap[k]? = W.heap[k]?) : KeepX v w W' := fun g hg hv =>
  (hk g (by omega) (fun e => by
    rcases hm with q | q
    · exact hv (q ▸ e)
    · have := q g e; omega)).trans (h g hg hv)
theorem Moved.step {v u u' : Value} {N M : Nat} (h : Moved v u N) (hM : N ≤ M) (k : u'.ownBlock = u.ownBlock ∨ u'.ownBlock = some M) : Moved v u' N := by
  rcases k with k | k
  · unfold Moved; rw [k]; exact h
  · exact .inr fun g e => by rw [k] at e; injection e with e; omega
theorem wpList_appIx {P : Program} {w : World} {e : TypeId} {base : Nat} {v : Value} {xs : List Int} {ops : Array Oper} {rest : List Oper} {o : Oper} {a : Act} {Q : Exit → Act → World → Prop} (hgd : o.guard = none) (s x : Operand) (t : TypeId) (ho : o.op = .call { callee := .builtin .append, args := #[s, x], argTypes := #[t, t] })
    {i : TypeInfo} (ht : P.underlying t = some (.slice e)) (hi : P.info? e = some i) (hz : i.zero = some (.int .i64 0)) (hs : i.size = 1) (hby : i.bytes = 8)
    (hv : a.eval s = v) (h : OwnI e base w v xs) {b : Nat} {y : Int} (hx : a.eval x = .slice (some ⟨b, 0, none⟩) 1 1) (hu : w.cell? ⟨b, 0, none⟩ = some (.int .i64 y)) (hlen : xs.length ≤ 100000000) (hbase : base ≤ w.heap.size)
    (hK : ∀ v' w', OwnI e base w' v' (xs ++ [y]) → Below base w w' → (∀ k, k < w.heap.size → v.ownBlock ≠ some k → w'.heap[k]? = w.heap[k]?) → (v'.ownBlock = v.ownBlock ∨ v'.ownBlock = some w.heap.size) → wpList P ops Q rest (a.put o.dst v') w') : wpList P ops Q (o :: rest) a w := by
  have hcells : ∀ j q, ([Value.int .i64 y])[j]? = some q → w.cell? ((⟨b, 0, none⟩ : Addr).add j) = some q := by
    intro j q hq
    cases j with
    | zero => injection hq with hq; subst hq; exact hu
    | succ j => simp at hq
  obtain ⟨v', w', hrun, h2, h3, _, h5⟩ := run_append_own_at (P := P) w base t o.type e i (.int .i64 0) 1 8 ht hi hz hs hby rfl (by decide) v xs.length (xs.map (Value.int .i64)) h ⟨b, 0, none⟩ 1 1 [.int .i64 y] rfl hcells
    (by intro q hq; simp at hq; subst hq; rfl) (by unfold maxLen; omega) (by omega) hbase
  refine wpList_plain hgd fun _ hk => ?_
  unfold Oper.wp execOp
  simp only [ho, resolve, invoke, builtin, Sem.run_bind, Sem.run_pure, Result.andThen_ok, List.map_toArray, List.map_cons, List.map_nil, hv, hx, hrun]
  refine hk _ _ (hK v' w' ?_ ((Below.refl _ _).grown h3 hbase h.block) (fun k hk hne => h3.block k hk (fun e => hne e.symm)) h5)
  unfold OwnI
  rw [List.length_append, List.map_append]
  simpa using h2
theorem OwnI.pop {e : TypeId} {base n g : Nat} {c : Nat} {w : World} {r : List Int} {y : Int} (h : OwnI e base w (.slice (some ⟨g, 0, none⟩) (n + 1) c) (r ++ [y])) (hn : r.length = n) : OwnI e base w (.slice (some ⟨g, 0, none⟩) n c) r := by
  subst hn
  refine ⟨by simp, ?_⟩
  rcases h.2 with ⟨h1, _⟩ | ⟨g', cap, cur, h1, h2, h3, h4, h5, h6, h7⟩
  · cases h1
  · injection h1 with e1 e2 e3
    injection e1 with e1
    injection e1 with e1
    subst e1 e3
    refine .inr ⟨g, c, cur, rfl, h2, h3, by simp at h4; omega, h5, h6, ?_⟩
    have : cur.toList.take (r.length * 1) = (cur.toList.take ((r ++ [y]).length * 1)).take (r.length * 1) := by
      rw [List.take_take, Nat.min_eq_left]; simp
    rw [this, h7, List.map_append, List.take_append_of_le_length (by simp), List.take_of_length_le (by simp)]
theorem OwnI.last {e : TypeId} {base : Nat} {w : World} {v : Value} {r : List Int} {y : Int} (h : OwnI e base w v (r ++ [y])) : ∃ g c, v = .slice (some ⟨g, 0, none⟩) (r.length + 1) c ∧ r.length + 1 ≤ c ∧ c ≤ 9223372036854775807 ∧ base ≤ g ∧ g < w.heap.size ∧ w.cell? ⟨g, r.length, none⟩ = some (.int .i64 y) := by
  have h9 := h.ints
  rcases h.2 with ⟨h1, h0⟩ | ⟨g', cap, cur, rfl, h2, h3, h4, h5, h6, h7⟩
  · simp at h0
  · obtain ⟨b, o, hA, hlt, hc⟩ := h9.at_ (k := r.length) (by simp)
    injection hA with hA
    injection hA with hA hB
    subst hA hB
    refine ⟨g', cap, by simp, by simpa using h4, h5, h2, hlt, ?_⟩
    rw [Nat.zero_add] at hc
    simpa using hc
theorem psh_len (s : List Int) (x : Int) : (psh s x).length ≤ s.length + 1 := by
  unfold psh
  split <;> simp <;> omega
theorem pshL_len (ls : List Int) : ∀ s, (pshL s ls).length ≤ s.length + ls.length := by
  induction ls with
  | nil => intro s; exact Nat.le_refl _
  | cons x ls ih => intro s; rw [pshL_cons]; have := ih (psh s x); have := psh_len s x; simp; omega
theorem psh_nil (x : Int) : psh [] x = [] ++ [x] := rfl
theorem psh_pop (r : List Int) (x : Int) : psh (r ++ [-x]) x = r := by unfold psh; simp
theorem psh_add (r : List Int) {x y : Int} (h : y ≠ -x) : psh (r ++ [y]) x = (r ++ [y]) ++ [x] := by unfold psh; simp [h]
theorem info_intQ : (Tryz.prog.info? 3).map (fun i => (i.zero, i.size, i.bytes)) = some (some (.int .i64 0), 1, 8) := by kernel_rfl
theorem ints_atZ {w : World} {v : Value} {xs : List Int} {k : Nat} (h : Ints w v xs) (hk : k < xs.length) : ∃ b o, (∃ c, v = .slice (some ⟨b, o, none⟩) xs.length c) ∧ b < w.heap.size ∧ w.cell? ⟨b, o + k, none⟩ = some (.int .i64 xs[k]) := by
  obtain ⟨A, c, rfl, _, hx⟩ := h
  obtain ⟨b, o, rfl, hc⟩ := hx k xs[k] (List.getElem?_eq_getElem hk)
  exact ⟨b, o, ⟨c, rfl⟩, block_lt_of_cell hc, hc⟩
theorem take_snocZ {l : List Int} {i : Nat} (h : i < l.length) : l.take (i + 1) = l.take i ++ [l[i]] := by
  rw [List.take_add_one, List.getElem?_eq_getElem h]; rfl
/-- the state of push's loop -/
structure PSt (base : Nat) (v : Value) (w : World) (u : Value) (st : List Int) (W : World) : Prop where
  own : OwnI 3 base W u st
  bel : Below base w W
  kx : KeepX v w W
  mv : Moved v u w.heap.size
  sz : w.heap.size ≤ W.heap.size
theorem PSt.app {base : Nat} {v u v' : Value} {w W w1 : World} {st : List Int} {x : Int} {ob : Obj} (h : PSt base v w u st W) (hb : base ≤ w.heap.size) (h1 : OwnI 3 base w1 v' (st ++ [x])) (h2 : Below base (W.alloc ob) w1)
    (h3 : ∀ k, k < (W.alloc ob).heap.size → u.ownBlock ≠ some k → w1.heap[k]? = (W.alloc ob).heap[k]?) (h4 : v'.ownBlock = u.ownBlock ∨ v'.ownBlock = some (W.alloc ob).heap.size) : PSt base v w v' (st ++ [x]) w1 :=
  have hs : w.heap.size ≤ (W.alloc ob).heap.size := by have := h.sz; simp; omega
  ⟨h1, (h.bel.alloc (Nat.le_trans hb h.sz) ob).trans h2, (h.kx.alloc h.sz ob).step hs h.mv h3, h.mv.step hs h4, Nat.le_trans hs h2.size⟩
theorem PSt.pop {base m g c : Nat} {v : Value} {w W : World} {r : List Int} {y : Int} (h : PSt base v w (.slice (some ⟨g, 0, none⟩) (m + 1) c) (r ++ [y]) W) (hm : r.length = m) : PSt base v w (.slice (some ⟨g, 0, none⟩) m c) r W := ⟨h.own.pop hm, h.bel, h.kx, h.mv, h.sz⟩
end Go.Proofs.YtbfggncmjdhapaaGreatDoor
