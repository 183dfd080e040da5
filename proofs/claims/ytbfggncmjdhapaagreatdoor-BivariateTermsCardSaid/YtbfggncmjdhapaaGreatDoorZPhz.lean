/- bivariate: power at 1 and -1; the powers of a single term. -/
/- XPhx with an append before the store. -/
import Derived.Test.YtbfggncmjdhapaaGreatDoorZBun
import Derived.Test.YtbfggncmjdhapaaGreatDoorZPhx
namespace Go.Proofs.YtbfggncmjdhapaaGreatDoor
open Go.RowKit
set_option linter.unusedVariables false

def pwU (c n : Int) : Int := if Int.tmod n 2 = 0 then 1 else c
theorem pwU_bd {c : Int} (h : c = 1 ∨ c = -1) (n : Int) : pwU c n = 1 ∨ pwU c n = -1 := by
  unfold pwU
  split
  · exact .inl rfl
  · exact h
set_option maxHeartbeats 1000000 in
theorem power_unit (c n : Int) (w : World) (hc : c = 1 ∨ c = -1) (hn : -1000000000 ≤ n ∧ n ≤ 1000000000) : Calls Tryz.prog 76 #[.int .i64 c, .int .i64 n] w fun e w' => e = .returned (.int .i64 (pwU c n)) ∧ w' = w := by
  obtain ⟨r, hr⟩ : ∃ r, r = Int.tmod n 2 := ⟨_, rfl⟩
  have hrb : -2 < r ∧ r < 2 := by
    have h1 := Int.natAbs_tmod n 2
    rw [← hr] at h1
    have h2 : (2 : Int).natAbs = 2 := rfl
    rw [h2] at h1
    omega
  have hw : IntKind.i64.wrap (Int.tmod n 2) = r := by rw [← hr]; exact IntWalk.i64_in _ (by omega)
  have hw2 : Int.tmod n 2 = r := hr.symm
  have HV := Lib.hid (show pwU c n = if r = 0 then 1 else c from by unfold pwU; rw [hw2])
  clear hr
  by_cases h0 : r = 0
  · have HE := Lib.hid (HV.out.trans (if_pos h0))
    have z0 : (r == 0) = true := beq_iff_eq.2 h0
    clear HV h0
    rcases hc with rfl | rfl
    · go_enter Tryz.func76, Tryz.ntmps76
      go_wp2_with fail
      go_ret
      exact ⟨by rw [HE.out]; rfl, rfl⟩
    · go_enter Tryz.func76, Tryz.ntmps76
      go_wp2_with fail
      go_ret
      exact ⟨by rw [HE.out]; rfl, rfl⟩
  · have HE := Lib.hid (HV.out.trans (if_neg h0))
    have z0 : (r == 0) = false := beq_eq_false_iff_ne.2 h0
    clear HV h0
    rcases hc with rfl | rfl
    · go_enter Tryz.func76, Tryz.ntmps76
      go_wp2_with fail
      go_ret
      exact ⟨by rw [HE.out]; rfl, rfl⟩
    · go_enter Tryz.func76, Tryz.ntmps76
      go_wp2_with fail
      go_ret
      exact ⟨by rw [HE.out]; rfl, rfl⟩
def Pow1R (e c k : Int) (w : World) (en : Ending) (w' : World) : Prop := ∃ v, en = .returned v ∧ Below w.heap.size w w' ∧ PolyV w' v (some [(e * k, pwU c k)])
set_option maxHeartbeats 4000000 in
set_option maxRecDepth 100000 in
theorem pow1_any (B n c : Nat) (A : Option Addr) (e co k : Int) (w : World) (hB : Arr w B 38 [.bool false, .slice A n c]) (hp : PolyV w (.agg #[.bool false, .slice A n c]) (some [(e, co)])) (hc : co = 1 ∨ co = -1) (hk : -1000000000 ≤ k ∧ k ≤ 1000000000) (he : -1048576 ≤ e ∧ e ≤ 1048576) (hek : -1048576 ≤ e * k ∧ e * k ≤ 1048576) :
    Calls Tryz.prog 75 #[.int .i64 k, .pointer (some ⟨B, 0, none⟩)] w (Pow1R e co k w) := by
  have okp : okP (some [(e, co)]) := ⟨⟨by unfold Srt; simp, by simp; rcases hc with h | h <;> rw [h] <;> decide⟩, ⟨by simp; rcases hc with h | h <;> rw [h] <;> decide, by simp; exact he⟩⟩
  obtain ⟨pc, hpc⟩ : ∃ x, x = pwU co k := ⟨_, rfl⟩
  obtain ⟨ek, hek2⟩ : ∃ x, x = e * k := ⟨_, rfl⟩
  unfold Pow1R
  rw [← hpc, ← hek2]
  have hpb := pwU_bd hc k
  rw [← hpc] at hpb
  rw [← hek2] at hek
  have HPW := Lib.hid (fun W => power_unit co k W hc hk)
  rw [← hpc] at HPW
  have HTM := Lib.hid (fun W => Term_any pc ek W (by omega) (by omega) (by omega) hek.1 hek.2)
  have HEK := Lib.hid (show IntKind.i64.wrap (e * k) = ek from by rw [← hek2]; exact IntWalk.i64_in _ (by omega))
  have hl : lowL ((some [(e, co)] : Pol).getD []) = e := rfl
  have hcf : cf ((some [(e, co)] : Pol).getD []) e = co := by show cf [(e, co)] e = co; rw [cf_one, if_pos rfl]
  obtain ⟨G, hG⟩ : ∃ G, G = w.heap.size := ⟨_, rfl⟩
  have hW : ∀ W, W = w.alloc (.cells #[.bool false, .slice none 0 0] 38) → Arr W G 38 [.bool false, .slice none 0 0] ∧ Arr W B 38 [.bool false, .slice A n c] ∧ PolyV W (.agg #[.bool false, .slice A n c]) (some [(e, co)]) ∧ Below w.heap.size w W := by
    intro W hW
    subst hW
    rw [hG]
    exact ⟨Arr.new _ _ [_, _], hB.alloc _, hp.below ((Below.refl _ _).alloc (Nat.le_refl _) _), (Below.refl _ _).alloc (Nat.le_refl _) _⟩
  clear hpc hek2 hB hp
  go_enter Tryz.func75, Tryz.ntmps75
  go_upto_region 1 with fail
  generalize w.alloc (.cells #[.bool false, .slice none 0 0] 38) = w3 at hW ⊢
  obtain ⟨qg, qb, hp3, hb3⟩ := hW w3 rfl
  rw [← hG]
  have QG := Lib.hid qg
  have QB := Lib.hid qb
  have HGS := Lib.hid hG
  have HB3 := Lib.hid hb3
  have HLO := Lib.hid (fun W (hb : Below w3.heap.size w3 W) => Low_any _ _ W (hp3.below hb) okp)
  have HCO := Lib.hid (fun W (hb : Below w3.heap.size w3 W) => Coef_any _ _ e W (hp3.below hb) okp)
  rw [hl] at HLO
  rw [hcf] at HCO
  clear hW qg qb hp3 hb3 hG hl hcf okp hpb hek hc he hk
  refine wp_region_phx (fun a b => Below a.heap.size a b) (fun h k => h.trans (k.mono h.size)) ((Below.refl _ _).drew) 11 (by kernel_rfl) (by kernel_rfl) (by kernel_rfl) (by kernel_rfl) rfl (by kernel_rfl) (phiT (fun i => ([some (.agg #[.bool false, .slice A n c]), some (.agg #[.bool false, .slice A n c]), some (.int .i64 e), some (.int .i64 co), some (.int .i64 k), some (.int .i64 pc), some (.agg #[.bool false, .slice A n c]), some (.int .i64 e), some (.int .i64 k), some (.int .i64 ek), none, some (undef)] : List (Option Value)).getD i none) (fun i v w => (if i = 10 then (fun v w => PolyV w v (some [(ek, pc)])) v w else True))) (fun i v w w' h hb => ?_) (fun _ W => ∃ (b : Bool) (A : Option Addr) (n c : Nat), Arr W G 38 [.bool b, .slice A n c] ∧ PolyV W (.agg #[.bool b, .slice A n c]) (some [(ek, pc)]) ∧ Below G w3 W) ⟨?_, ?_, ?_, ?_, ?_, ?_, ?_, ?_, ?_, ?_, ?_, ?_, trivial⟩ ?_
  · unfold phiT at h ⊢
    split
    · next u hu => rw [hu] at h; exact h
    · next hu =>
      rw [hu] at h
      simp only at h ⊢
      by_cases q10 : i = 10
      · rw [if_pos q10] at h ⊢; exact PolyV.below h hb
      · rw [if_neg q10] at h ⊢
        trivial
  · intro x w1 bA hT hdep hold hb
    refine ⟨fun _ => ?_, fun h => absurd h (by decide)⟩
    refine .inl ⟨trivial, ?_⟩
    have e1 : bA.tmps[1]?.getD undef = .pointer (some ⟨B, 0, none⟩) := hb 1
    have cc0 := (QB.out.below hT QB.out.lt).cell 0
    have cc1 := (QB.out.below hT QB.out.lt).cell 1
    refine phx_run (.agg #[.bool false, .slice A n c]) ?_ (Below.refl _ _) rfl
    clear hb hdep hold
    go_simp
  · intro x w1 bA hT hdep hold hb
    refine ⟨fun _ => ?_, fun h => absurd h (by decide)⟩
    refine .inl ⟨trivial, ?_⟩
    have e1 : bA.tmps[1]?.getD undef = .pointer (some ⟨B, 0, none⟩) := hb 1
    have cc0 := (QB.out.below hT QB.out.lt).cell 0
    have cc1 := (QB.out.below hT QB.out.lt).cell 1
    refine phx_run (.agg #[.bool false, .slice A n c]) ?_ (Below.refl _ _) rfl
    clear hb hdep hold
    go_simp
  · intro x w1 bA hT hdep hold hb
    refine ⟨fun _ => ?_, fun h => absurd h (by decide)⟩
    refine .inl ⟨trivial, ?_⟩
    have e5 : bA.tmps[5]?.getD undef = .agg #[.bool false, .slice A n c] := (hb 5).trans (hdep 1 (by decide))
    refine phx_call ?_ ((HLO.out w1 hT).mono fun e w' h => ⟨_, h.1, h.2, rfl⟩)
    clear hb hdep hold
    go_simp
  · intro x w1 bA hT hdep hold hb
    refine ⟨fun _ => ?_, fun h => absurd h (by decide)⟩
    refine .inl ⟨trivial, ?_⟩
    have e4 : bA.tmps[4]?.getD undef = .agg #[.bool false, .slice A n c] := (hb 4).trans (hdep 0 (by decide))
    have e6 : bA.tmps[6]?.getD undef = .int .i64 e := (hb 6).trans (hdep 2 (by decide))
    refine phx_call ?_ ((HCO.out w1 hT).mono fun e w' h => ⟨_, h.1, h.2, rfl⟩)
    clear hb hdep hold
    go_simp
  · intro x w1 bA hT hdep hold hb
    refine ⟨fun _ => ?_, fun h => absurd h (by decide)⟩
    refine .inl ⟨trivial, ?_⟩
    have e0 : bA.tmps[0]?.getD undef = .int .i64 k := hb 0
    refine phx_run (.int .i64 k) ?_ (Below.refl _ _) rfl
    clear hb hdep hold
    go_simp
  · intro x w1 bA hT hdep hold hb
    refine ⟨fun _ => ?_, fun h => absurd h (by decide)⟩
    refine .inl ⟨trivial, ?_⟩
    have e7 : bA.tmps[7]?.getD undef = .int .i64 co := (hb 7).trans (hdep 3 (by decide))
    have e8 : bA.tmps[8]?.getD undef = .int .i64 k := (hb 8).trans (hdep 4 (by decide))
    refine phx_call ?_ ((HPW.out w1).mono fun e w' h => ⟨_, h.1, by rw [h.2]; exact Below.refl _ _, rfl⟩)
    clear hb hdep hold
    go_simp
  · intro x w1 bA hT hdep hold hb
    refine ⟨fun _ => ?_, fun h => absurd h (by decide)⟩
    refine .inl ⟨trivial, ?_⟩
    have e1 : bA.tmps[1]?.getD undef = .pointer (some ⟨B, 0, none⟩) := hb 1
    have cc0 := (QB.out.below hT QB.out.lt).cell 0
    have cc1 := (QB.out.below hT QB.out.lt).cell 1
    refine phx_run (.agg #[.bool false, .slice A n c]) ?_ (Below.refl _ _) rfl
    clear hb hdep hold
    go_simp
  · intro x w1 bA hT hdep hold hb
    refine ⟨fun _ => ?_, fun h => absurd h (by decide)⟩
    refine .inl ⟨trivial, ?_⟩
    have e10 : bA.tmps[10]?.getD undef = .agg #[.bool false, .slice A n c] := (hb 10).trans (hdep 6 (by decide))
    refine phx_call ?_ ((HLO.out w1 hT).mono fun e w' h => ⟨_, h.1, h.2, rfl⟩)
    clear hb hdep hold
    go_simp
  · intro x w1 bA hT hdep hold hb
    refine ⟨fun _ => ?_, fun h => absurd h (by decide)⟩
    refine .inl ⟨trivial, ?_⟩
    have e0 : bA.tmps[0]?.getD undef = .int .i64 k := hb 0
    refine phx_run (.int .i64 k) ?_ (Below.refl _ _) rfl
    clear hb hdep hold
    go_simp
  · intro x w1 bA hT hdep hold hb
    refine ⟨fun _ => ?_, fun h => absurd h (by decide)⟩
    refine .inl ⟨trivial, ?_⟩
    have e11 : bA.tmps[11]?.getD undef = .int .i64 e := (hb 11).trans (hdep 7 (by decide))
    have e12 : bA.tmps[12]?.getD undef = .int .i64 k := (hb 12).trans (hdep 8 (by decide))
    have zz := HEK.out
    refine phx_run (.int .i64 ek) ?_ (Below.refl _ _) rfl
    clear hb hdep hold
    go_simp
  · intro x w1 bA hT hdep hold hb
    refine ⟨fun _ => ?_, fun h => absurd h (by decide)⟩
    refine .inl ⟨trivial, ?_⟩
    have e9 : bA.tmps[9]?.getD undef = .int .i64 pc := (hb 9).trans (hdep 5 (by decide))
    have e13 : bA.tmps[13]?.getD undef = .int .i64 ek := (hb 13).trans (hdep 9 (by decide))
    refine phx_call ?_ ((HTM.out w1).mono fun e w' h => (by obtain ⟨v, he, hv, hb'⟩ := h; exact ⟨v, he, hb', hv⟩))
    clear hb hdep hold
    go_simp
  · intro x w1 bA hT hdep hold hb
    refine ⟨fun h => absurd h (by decide), fun _ hall => ?_⟩
    refine ⟨trivial, ?_⟩
    have e3 : bA.tmps[3]?.getD undef = .pointer (some ⟨G, 0, none⟩) := hb 3
    have e14 : bA.tmps[14]?.getD undef = x 10 := hb 14
    have p14 := Lib.hid (show (fun v w => PolyV w v (some [(ek, pc)])) (x 10) w1 from hall 10 (by decide))
    clear hb hdep hold
    obtain ⟨bz, Az, nz, cz, e14b, -, -⟩ := p14.out.parts
    rw [e14b] at e14
    have HPV := Lib.hid (e14b ▸ p14.out)
    have q5 := QG.out.below hT QG.out.lt
    have Q5b := Lib.hid q5
    have f0 := q5.frozen 0
    have f1 := q5.frozen 1
    have c0 := q5.cell 0
    have c1 := q5.cell 1
    have HBL := Lib.hid hT
    clear q5 e14b p14 hT
    refine phx_st (R := fun W => ∃ (b : Bool) (A : Option Addr) (n c : Nat), Arr W G 38 [.bool b, .slice A n c] ∧ PolyV W (.agg #[.bool b, .slice A n c]) (some [(ek, pc)]) ∧ Below G w3 W) ((w1.setCell ⟨G, 0, none⟩ (.bool bz)).setCell ⟨G, 1, none⟩ (.slice Az nz cz)) ?_ rfl ⟨bz, Az, nz, cz, (Q5b.out.set 0 _).set 1 _, HPV.out.box Q5b.out _ _, ((HBL.out.mono (Nat.le_of_lt QG.out.lt)).setCell (p := ⟨G, 0, none⟩) (Nat.le_refl _) _).setCell (p := ⟨G, 1, none⟩) (Nat.le_refl _) _⟩
    go_simp
  intro x w1 hR
  simp only [putAll, dstOf, Act.put, List.map_cons, List.map_nil, List.setIfInBounds_toArray, List.set_cons_succ, List.set_cons_zero, Nat.reduceAdd]
  obtain ⟨b, A2, n2, c2, h1, h2, h3⟩ := hR
  have H1 := Lib.hid h1
  have H2 := Lib.hid h2
  have H3 := Lib.hid h3
  clear h1 h2 h3
  go_wp2_with fail
  refine bodyPost_ret (v := .agg #[.bool b, .slice A2 n2 c2]) (results_c Tryz.results75 _ _ G 38 _ _ rfl H1.out Tryz.underlying38 rfl info_poly) rfl ?_
  exact ⟨_, rfl, by have h3 := H3.out; rw [HGS.out] at h3; exact HB3.out.trans h3, H2.out⟩
end Go.Proofs.YtbfggncmjdhapaaGreatDoor

namespace Go.Proofs.YtbfggncmjdhapaaGreatDoor
open Go.RowKit
set_option linter.unusedVariables false

section
variable {P : Program} {Q : Exit → Act → World → Prop}
/-- with an append (operation n) to memory of its own, taken up by the store (operation n + 1) -/
def PhzI (T : World → World → Prop) (w0 : World) (n : Nat) (Φ : Nat → Value → World → Prop) (R1 : Value → World → Prop) (R2 : World → Prop) (x0 : Nat → Value) (D : Nat → Bool) (x : Nat → Value) (w : World) : Prop := if D (n + 1) = true then R2 w else if D n = true then R1 (x n) w else T w0 w ∧ (∀ i, D i = true → Φ i (x i) w) ∧ ∀ i, D i = false → x i = x0 i
theorem wp_region_phz {id : Nat} {l : List Oper} {a : Act} {w0 : World} (T : World → World → Prop) (Tr : ∀ {a b c}, T a b → T b c → T a c) (T0 : T w0 w0.drew) (n : Nat) (hm : P.follows .mixedOrders = true) (hd : apartD (dstOf l.toArray) = true) (hb : backD l.toArray = true) (hn : inD a.tmps.size (dstOf l.toArray) = true)
    (hlen : l.length = n + 2) (hneed : needB l.toArray n = true) (hnext : (depsAt l.toArray (n + 1)).contains n = true)
    (Φ : Nat → Value → World → Prop) (hΦ : ∀ i v w w', Φ i v w → T w w' → Φ i v w') (R1 : Value → World → Prop) (R2 : World → Prop)
    (hstep : AllOps (fun i o => ∀ (x : Nat → Value) w (b : Act), (∀ t : Nat, b.tmps[t]?.getD undef = look (dstOf l.toArray) x a t) →
      (i < n → T w0 w → (∀ j ∈ deps o, Φ j (x j) w) → (∀ j, i ∈ depsAt l.toArray j → x j = slotV a ((dstOf l.toArray).getD (j - 0) none)) → (gOk l.toArray o b ∧ o.wp P b w (PhxPost T w Φ i b o.dst) NoQ) ∨ (gNo l.toArray o b ∧ Φ i undef w)) ∧
      (i = n → T w0 w → (∀ j ∈ deps o, Φ j (x j) w) → (∀ j, j < n → Φ j (x j) w) → gOk l.toArray o b ∧ o.wp P b w (fun a' w' => ∃ v, a' = b.put o.dst v ∧ R1 v w') NoQ) ∧
      (i = n + 1 → R1 (x n) w → gOk l.toArray o b ∧ o.wp P b w (fun a' w' => ∃ v, a' = b.put o.dst v ∧ R2 w') NoQ)) 0 l)
    (hend : ∀ (x : Nat → Value) w, R2 w → Q .normal (putAll (dstOf l.toArray) 0 x a) w) : (Code.region id l.toArray true).wp P Q a w0 := by
  refine wp_region_facts2X hm hd hb hn (PhzI T w0 n Φ R1 R2 (fun j => slotV a ((dstOf l.toArray).getD (j - 0) none))) ?_ ?_ ?_
  · unfold PhzI
    rw [if_neg (by simp), if_neg (by simp)]
    exact ⟨T0, fun i h => Bool.noConfusion h, fun _ _ => rfl⟩
  · have key : ∀ k o, l[k]? = some o → ∀ D x W (b : Act), PhzI T w0 n Φ R1 R2 (fun j => slotV a ((dstOf l.toArray).getD (j - 0) none)) D x W → D k = false → (∀ j ∈ deps o, D j = true) → (∀ j, D j = true → ∀ q ∈ depsAt l.toArray j, D q = true) → (∀ t : Nat, b.tmps[t]?.getD undef = look (dstOf l.toArray) x a t) → (gOk l.toArray o b ∧ o.wp P b W (StepPost (PhzI T w0 n Φ R1 R2 (fun j => slotV a ((dstOf l.toArray).getD (j - 0) none))) D x k b o.dst) NoQ) ∨ (gNo l.toArray o b ∧ PhzI T w0 n Φ R1 R2 (fun j => slotV a ((dstOf l.toArray).getD (j - 0) none)) (upd D k true) (upd x k undef) W) := by
      intro k o ho D x W b hI hD hdep hcl hbt
      have hk : k ≤ n + 1 := by have := (List.getElem?_eq_some_iff.1 ho).1; omega
      have hs := hstep.get _ _ k o ho x W b hbt
      rw [Nat.zero_add] at hs
      have hn1 : D (n + 1) = true → D n = true := fun h => hcl (n + 1) h n (by simpa using hnext)
      by_cases hk1 : k = n + 1
      · subst hk1
        have hdn : D n = true := hdep n (by
          have h1 : l.toArray[n + 1]? = some o := by simpa using ho
          have h2 : depsAt l.toArray (n + 1) = deps o := by simp [depsAt, h1]
          rw [← h2]; simpa using hnext)
        unfold PhzI at hI
        rw [if_neg (by rw [hD]; simp), if_pos hdn] at hI
        obtain ⟨g1, g2⟩ := hs.2.2 rfl hI
        refine .inl ⟨g1, Oper.wp_mono ?_ g2⟩
        rintro a' w' ⟨v, rfl, hR⟩
        refine ⟨v, rfl, ?_⟩
        unfold PhzI
        rw [if_pos (upd_same _ _ _)]
        exact hR
      · have hkn : k ≤ n := by omega
        have hDn : D n = false := by
          cases h : D n with
          | false => rfl
          | true => have := need_all hneed hcl h _ k hkn (Nat.le_refl _); rw [this] at hD; cases hD
        have hDn1 : D (n + 1) = false := by
          cases h : D (n + 1) with
          | false => rfl
          | true => rw [hn1 h] at hDn; cases hDn
        unfold PhzI at hI
        rw [if_neg (by rw [hDn1]; simp), if_neg (by rw [hDn]; simp)] at hI
        by_cases hkn2 : k = n
        · subst hkn2
          have hDall : ∀ j, j < k → D j = true := by
            intro j hj
            have hcl' : ∀ j, upd D k true j = true → ∀ q ∈ depsAt l.toArray j, upd D k true q = true := by
              intro j hj q hq
              by_cases eq : q = k
              · subst eq; rw [upd_same]
              rw [upd_ne _ _ eq]
              by_cases ej : j = k
              · subst ej
                have : depsAt l.toArray j = deps o := by
                  have h1 : l.toArray[j]? = some o := by simpa using ho
                  simp [depsAt, h1]
                rw [this] at hq
                exact hdep q hq
              · rw [upd_ne _ _ ej] at hj
                exact hcl j hj q hq
            have := need_all hneed hcl' (upd_same _ _ _) _ j (by omega) (Nat.le_refl _)
            rwa [upd_ne _ _ (show j ≠ k by omega)] at this
          obtain ⟨g1, g2⟩ := hs.2.1 rfl hI.1 (fun j hj => hI.2.1 j (hdep j hj)) (fun j hj => hI.2.1 j (hDall j hj))
          refine .inl ⟨g1, Oper.wp_mono ?_ g2⟩
          rintro a' w' ⟨v, rfl, hR⟩
          refine ⟨v, rfl, ?_⟩
          unfold PhzI
          rw [upd_ne _ _ (show k + 1 ≠ k by omega), if_neg (by rw [hDn1]; simp), if_pos (upd_same _ _ _), upd_same]
          exact hR
        · have hs1 := hs.1 (by omega) hI.1 (fun j hj => hI.2.1 j (hdep j hj)) (fun j hj => hI.2.2 j (by
            cases h : D j with
            | false => rfl
            | true =>
              have := hcl j h k hj
              rw [hD] at this; cases this))
          have hnext : ∀ v w', T W w' → Φ k v w' → PhzI T w0 n Φ R1 R2 (fun j => slotV a ((dstOf l.toArray).getD (j - 0) none)) (upd D k true) (upd x k v) w' := by
            intro v w' hb' hv
            unfold PhzI
            rw [upd_ne _ _ (show n + 1 ≠ k from fun e => hk1 e.symm), if_neg (by rw [hDn1]; simp), upd_ne _ _ (show n ≠ k from fun e => hkn2 e.symm), if_neg (by rw [hDn]; simp)]
            refine ⟨Tr hI.1 hb', fun i hi => ?_, fun i hi => ?_⟩
            · by_cases e : i = k
              · subst e; rw [upd_same]; exact hv
              · rw [upd_ne _ _ e] at hi ⊢
                exact hΦ i (x i) W w' (hI.2.1 i hi) hb'
            · by_cases e : i = k
              · subst e; rw [upd_same] at hi; cases hi
              · rw [upd_ne _ _ e] at hi ⊢
                exact hI.2.2 i hi
          rcases hs1 with ⟨g1, g2⟩ | ⟨g1, g2⟩
          · refine .inl ⟨g1, Oper.wp_mono ?_ g2⟩
            rintro a' w' ⟨v, rfl, hb', hv⟩
            exact ⟨v, rfl, hnext v w' hb' hv⟩
          · refine .inr ⟨g1, ?_⟩
            unfold PhzI
            rw [upd_ne _ _ (show n + 1 ≠ k from fun e => hk1 e.symm), if_neg (by rw [hDn1]; simp), upd_ne _ _ (show n ≠ k from fun e => hkn2 e.symm), if_neg (by rw [hDn]; simp)]
            refine ⟨hI.1, fun i hi => ?_, fun i hi => ?_⟩
            · by_cases e : i = k
              · subst e; rw [upd_same]; exact g2
              · rw [upd_ne _ _ e] at hi ⊢
                exact hI.2.1 i hi
            · by_cases e : i = k
              · subst e; rw [upd_same] at hi; cases hi
              · rw [upd_ne _ _ e] at hi ⊢
                exact hI.2.2 i hi
    have aux : ∀ (r : List Oper) (s : Nat), (∀ k, r[k]? = l[s + k]?) → AllOps (fun i o => ∀ D x W (b : Act), PhzI T w0 n Φ R1 R2 (fun j => slotV a ((dstOf l.toArray).getD (j - 0) none)) D x W → D i = false → (∀ j ∈ deps o, D j = true) → (∀ j, D j = true → ∀ q ∈ depsAt l.toArray j, D q = true) → (∀ t : Nat, b.tmps[t]?.getD undef = look (dstOf l.toArray) x a t) → (gOk l.toArray o b ∧ o.wp P b W (StepPost (PhzI T w0 n Φ R1 R2 (fun j => slotV a ((dstOf l.toArray).getD (j - 0) none))) D x i b o.dst) NoQ) ∨ (gNo l.toArray o b ∧ PhzI T w0 n Φ R1 R2 (fun j => slotV a ((dstOf l.toArray).getD (j - 0) none)) (upd D i true) (upd x i undef) W)) s r := by
      intro r
      induction r with
      | nil => intro s _; trivial
      | cons o r ih =>
        intro s hr
        refine ⟨key s o (by have := hr 0; simpa using this.symm), ih (s + 1) (fun k => ?_)⟩
        have := hr (k + 1)
        rw [List.getElem?_cons_succ] at this
        rw [this]; congr 1; omega
    exact aux l 0 (fun k => by rw [Nat.zero_add])
  · intro D x W hI hall
    have hDn := hall (n + 1) (by omega)
    unfold PhzI at hI
    rw [if_pos hDn] at hI
    exact hend x W hI
end
end Go.Proofs.YtbfggncmjdhapaaGreatDoor
