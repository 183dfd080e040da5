/- bivariate: the powers of a polynomial, kept in a list. -/
import Derived.Test.YtbfggncmjdhapaaGreatDoorZPhz
import Derived.Deep.LoopGhost
namespace Go.Proofs.YtbfggncmjdhapaaGreatDoor
open Go.RowKit
set_option linter.unusedVariables false

/-- the powers of a list of terms -/
def powL (zl : List T1) : Nat → List T1
  | 0 => [(0, 1)]
  | i + 1 => prs (powL zl i) zl
theorem asum1_powL (zl : List T1) : ∀ i, asum1 (powL zl i) = asum1 zl ^ i
  | 0 => rfl
  | i + 1 => by rw [powL, asum1_prs, asum1_powL zl i, Nat.pow_succ]
theorem Eb1.powL {zl : List T1} {N : Nat} (h : Eb1 N zl) : ∀ i, Eb1 (i * N) (Go.Proofs.YtbfggncmjdhapaaGreatDoor.powL zl i)
  | 0 => fun t ht => by
    rw [Go.Proofs.YtbfggncmjdhapaaGreatDoor.powL] at ht
    rw [List.mem_singleton.1 ht]
    simp
  | i + 1 => by
    rw [Nat.succ_mul, Go.Proofs.YtbfggncmjdhapaaGreatDoor.powL]
    exact (Eb1.powL h i).mul h
abbrev PM := Option Addr × Nat × Nat
def encP (m : PM) : List Value := [.bool false, .slice m.1 m.2.1 m.2.2]
theorem info_polyL : (Tryz.prog.info? 38).map (fun i => (i.zero, i.size, i.bytes)) = some (some (.agg #[.bool false, .slice none 0 0]), 2, 32) := by kernel_rfl
theorem elP : ElA Tryz.prog 38 2 encP where
  ex := by
    obtain ⟨i, hi, hz, hs, hb⟩ := info_parts info_polyL
    exact ⟨i, _, 32, hi, hz, hs, hb, rfl, by omega⟩
  pos := by omega
  len := fun x => rfl
  one := fun x q h => by unfold encP at h; simp at h; rcases h with rfl | rfl <;> rfl
theorem slP_one (w : World) (A : Option Addr) (n c : Nat) : SlA encP (w.alloc (.cells #[.bool false, .slice A n c] 38)) (.slice (some ⟨w.heap.size, 0, none⟩) 1 1) [(A, n, c)] := (OwnA.lit (w := w) (e := 38) (sz := 2) (enc := encP) (xs := [(A, n, c)]) (fun x _ => rfl) (Nat.le_refl _) (by simp) (by simp)).sl
theorem encP_get : ∀ (l : List PM) (k j : Nat) (h : k < l.length), j < 2 → (l.flatMap encP)[k * 2 + j]? = (encP l[k])[j]? := by
  intro l
  induction l with
  | nil => intro k j h; simp at h
  | cons m l ih =>
    intro k j h hj
    rw [List.flatMap_cons]
    cases k with
    | zero => rw [List.getElem?_append_left (by simp [encP]; omega)]; simp
    | succ k =>
      rw [List.getElem?_append_right (by simp [encP]; omega)]
      have := ih k j (by simpa using h) hj
      rw [show (k + 1) * 2 + j - (encP m).length = k * 2 + j from by simp [encP]; omega, this]
      simp
theorem TB_lt {w : World} {b : Nat} (h : TB w b) : b < w.heap.size := by
  obtain ⟨cs, fr, hh⟩ := h
  exact heap_ltB hh
theorem TB_ne {w : World} {b : Nat} {t : TypeId} {cs : List Value} (h : TB w b) (ha : Arr w b t cs) (hne : t ≠ 76) : False := by
  obtain ⟨cs', fr, hh⟩ := h
  unfold Arr at ha
  rw [ha] at hh
  injection hh with hh
  injection hh with _ h2 _
  exact hne h2
theorem own_TB {w : World} {base b : Nat} {v : Value} {ms : List PM} (h : OwnA 38 2 encP base w v ms) (hb : TB w b) : v.ownBlock ≠ some b := fun e => by
  obtain ⟨cs, fr, hh⟩ := OwnA.typB h b e
  obtain ⟨cs', fr', hh'⟩ := hb
  rw [hh] at hh'
  injection hh' with hh'
  injection hh' with _ h2 _
  exact absurd h2 (by decide)
theorem own_ne {w : World} {base g : Nat} {v : Value} {ms : List PM} {t : TypeId} {cs : List Value} (h : OwnA 38 2 encP base w v ms) (hg : Arr w g t cs) (hne : 38 ≠ t) (e : v.ownBlock = some g) : False := OwnA.apartB h hg hne e
theorem QL.keepT {w w' : World} {v : Value} {L : List T1} (h : QL w v L) (hk : ∀ b, TB w b → w'.heap[b]? = w.heap[b]?) : QL w' v L := by
  obtain ⟨l, ⟨A, c, hv, hx⟩, h2⟩ := h
  exact ⟨l, ⟨A, c, hv, hx.keepT hk⟩, h2⟩
/-- the list of the powers that are known -/
structure KnS (Bk Bz base : Nat) (zm : PM) (zl : List T1) (s : Value) (ms : List PM) (W : World) : Prop where
  bk : Arr W Bk 117 [s]
  own : OwnA 38 2 encP base W s ms
  pos : 0 < ms.length
  el : ∀ i (h : i < ms.length), QL W (.agg #[.bool false, .slice ms[i].1 ms[i].2.1 ms[i].2.2]) (powL zl i)
  bz : Arr W Bz 38 [.bool false, .slice zm.1 zm.2.1 zm.2.2]
  zv : QL W (.agg #[.bool false, .slice zm.1 zm.2.1 zm.2.2]) zl
  nz : s.ownBlock ≠ some Bz
theorem KnS.below {Bk Bz base : Nat} {zm : PM} {zl : List T1} {s : Value} {ms : List PM} {W W' : World} (h : KnS Bk Bz base zm zl s ms W) (hb : Below W.heap.size W W') : KnS Bk Bz base zm zl s ms W' :=
  ⟨h.bk.below hb h.bk.lt, h.own.below hb, h.pos, fun i hi => (h.el i hi).below hb, h.bz.below hb h.bz.lt, h.zv.below hb, h.nz⟩
theorem KnS.form {Bk Bz base : Nat} {zm : PM} {zl : List T1} {s : Value} {ms : List PM} {W : World} (h : KnS Bk Bz base zm zl s ms W) : ∃ g cap, s = .slice (some ⟨g, 0, none⟩) ms.length cap := by
  rcases h.own.2 with ⟨rfl, h0⟩ | ⟨g, cap, cur, rfl, _⟩
  · have := h.pos; omega
  · exact ⟨g, cap, rfl⟩
theorem KnS.at_ {Bk Bz base g n cap : Nat} {zm : PM} {zl : List T1} {ms : List PM} {W : World} (h : KnS Bk Bz base zm zl (.slice (some ⟨g, 0, none⟩) n cap) ms W) {k : Nat} (hk : k < ms.length) : W.cell? ⟨g, k * 2, none⟩ = some (.bool false) ∧ W.cell? ⟨g, k * 2 + 1, none⟩ = some (.slice ms[k].1 ms[k].2.1 ms[k].2.2) := by
  obtain ⟨A, c, hv, _, hx⟩ := h.own.sl
  injection hv with e1 e2 e3
  subst e1
  have key : ∀ j, j < 2 → ∀ u, (encP ms[k])[j]? = some u → W.cell? ⟨g, k * 2 + j, none⟩ = some u := fun j hj u hu => by
    obtain ⟨b, o, hA, h0⟩ := hx (k * 2 + j) u (by rw [encP_get ms k j hk hj]; exact hu)
    injection hA with hA
    injection hA with e4 e5
    subst e4 e5
    rw [Nat.zero_add] at h0
    exact h0
  exact ⟨key 0 (by omega) _ rfl, key 1 (by omega) _ rfl⟩
def Pow2R (Bk Bz base : Nat) (zm : PM) (zl : List T1) (s : Value) (n : Nat) (w : World) (e : Ending) (w' : World) : Prop := ∃ v s' ms', e = .returned v ∧ QL w' v (powL zl n) ∧ KnS Bk Bz base zm zl s' ms' w' ∧ Below base w w' ∧ (∀ k, k < w.heap.size → k ≠ Bk → s.ownBlock ≠ some k → w'.heap[k]? = w.heap[k]?) ∧ (s'.ownBlock = s.ownBlock ∨ ∀ k, s'.ownBlock = some k → w.heap.size ≤ k) ∧ ms'.length ≤ 100000
set_option maxHeartbeats 4000000 in
set_option maxRecDepth 100000 in
theorem pow2_any {N S : Nat} (Bk Bz base : Nat) (zm : PM) (zl : List T1) (s0 : Value) (ms0 : List PM) (n : Nat) (w : World) (h : KnS Bk Bz base zm zl s0 ms0 w) (hn : n ≤ 1000) (hml : ms0.length ≤ 100000) (hS : ∀ i, i ≤ n → asum1 zl ^ i ≤ 1125899906842624) (hN : Eb1 N zl) (hnN : (n + 1) * N ≤ 1048576) (hbk : base ≤ Bk) (hbs : base ≤ w.heap.size) :
    Calls Tryz.prog 77 #[.int .i64 (n : Int), .pointer (some ⟨Bk, 0, none⟩), .pointer (some ⟨Bz, 0, none⟩)] w (Pow2R Bk Bz base zm zl s0 n w) := by
  have HN := Lib.hid hN
  have HS := Lib.hid hS
  have HNN0 := Lib.hid hnN
  have HBK := Lib.hid hbk
  obtain ⟨G, hG⟩ : ∃ G, G = w.heap.size := ⟨_, rfl⟩
  have hW : ∀ W, W = w.alloc (.cells #[.bool false, .slice none 0 0] 38) → Arr W G 38 [.bool false, .slice none 0 0] ∧ KnS Bk Bz base zm zl s0 ms0 W ∧ Below w.heap.size w W ∧ s0.ownBlock ≠ some G := by
    intro W hW
    subst hW
    rw [hG]
    exact ⟨Arr.new _ _ [_, _], h.below ((Below.refl _ _).alloc (Nat.le_refl _) _), (Below.refl _ _).alloc (Nat.le_refl _) _, fun e => by have := h.own.lt _ e; omega⟩
  obtain ⟨z1, z2, z3⟩ := zm
  have HBZ := Lib.hid h.bz.lt
  clear h hN hS hnN
  go_enter Tryz.func77, Tryz.ntmps77
  go_upto_region 1 with fail
  generalize w.alloc (.cells #[.bool false, .slice none 0 0] 38) = w3 at hW ⊢
  obtain ⟨qg, hk3, hb3, hn3⟩ := hW w3 rfl
  rw [← hG]
  have HST := Lib.hid (show ∃ (s : Value) (ms : List PM), KnS Bk Bz base (z1, z2, z3) zl s ms w3 ∧ Arr w3 G 38 [.bool false, .slice none 0 0] ∧ Below base w w3 ∧ (∀ k, k < w.heap.size → k ≠ Bk → s0.ownBlock ≠ some k → w3.heap[k]? = w.heap[k]?) ∧ (s.ownBlock = s0.ownBlock ∨ ∀ k, s.ownBlock = some k → w.heap.size ≤ k) ∧ s.ownBlock ≠ some G ∧ n + 1 - ms0.length = n + 1 - ms.length ∧ ms.length ≤ 100000 from
    ⟨s0, ms0, hk3, qg, hb3.mono hbs, fun k hk _ _ => hb3.block k hk, .inl rfl, hn3, rfl, hml⟩)
  have HG := Lib.hid hG
  clear hW qg hk3 hb3 hn3 hG
  go_loopg [] (n + 1 - ms0.length) (fun gk wr => Hid (∃ (s : Value) (ms : List PM), KnS Bk Bz base (z1, z2, z3) zl s ms wr ∧ Arr wr G 38 [.bool false, .slice none 0 0] ∧ Below base w wr ∧ (∀ k, k < w.heap.size → k ≠ Bk → s0.ownBlock ≠ some k → wr.heap[k]? = w.heap[k]?) ∧ (s.ownBlock = s0.ownBlock ∨ ∀ k, s.ownBlock = some k → w.heap.size ≤ k) ∧ s.ownBlock ≠ some G ∧ gk = n + 1 - ms.length ∧ ms.length ≤ 100000))
  case atStart => exact HST
  case round =>
    clear HST
    have HR := hrel
    obtain ⟨s, ms, hkn, qg, hbr, hfr, hso, hsg, hgk, hml2⟩ := HR.out
    clear hrel HR
    obtain ⟨g, cap, hs⟩ := hkn.form
    have HKN := Lib.hid hkn
    have HQG := Lib.hid qg
    have HBR := Lib.hid hbr
    have HFR := Lib.hid hfr
    have HSO := Lib.hid hso
    have HSG := Lib.hid hsg
    have HNK := Lib.hid (show s.ownBlock ≠ some Bk from OwnA.apartB hkn.own hkn.bk (by decide))
    have HOW := Lib.hid hkn.own
    have HSE := Lib.hid hs
    have ck := hkn.bk.cell 0
    rw [hs] at ck
    have hps := hkn.pos
    by_cases hlt : ms.length ≤ n
    · have z0 : (ms.length : Int) ≤ (n : Int) := by omega
      obtain ⟨j, hj⟩ : ∃ j, j + 1 = ms.length := ⟨ms.length - 1, by omega⟩
      have hkn2 := hkn
      rw [hs] at hkn2
      obtain ⟨d0, d1⟩ := hkn2.at_ (show j < ms.length by omega)
      have HEL := Lib.hid (hkn.el j (by omega))
      have HC0 := Lib.hid (show ∀ W, Below wr.heap.size wr W → W.cell? ⟨g, j * 2, none⟩ = some (.bool false) ∧ W.cell? ⟨g, j * 2 + 1, none⟩ = some (.slice (ms[j]'(by omega)).1 (ms[j]'(by omega)).2.1 (ms[j]'(by omega)).2.2) from fun W hb => by
        have := hkn.below hb
        rw [hs] at this
        exact this.at_ (show j < ms.length by omega))
      generalize (ms[j]'(by omega)).1 = m1 at *
      generalize (ms[j]'(by omega)).2.1 = m2 at *
      generalize (ms[j]'(by omega)).2.2 = m3 at *
      have HBG := Lib.hid (show Calls Tryz.prog 39 #[.agg #[.bool false, .slice m1 m2 m3]] wr fun e w' => e = .returned (.bool false) ∧ Below wr.heap.size wr w' from by
        obtain ⟨l, h1, _⟩ := HEL.out
        exact Big_any _ _ wr h1)
      have hwj : IntKind.i64.wrap ((ms.length : Int) - 1) = (j : Int) := by rw [show (ms.length : Int) - 1 = (j : Int) by omega]; exact IntWalk.i64_in _ (by omega)
      have hwj1 : (ms.length : Int) - 1 = (j : Int) := by omega
      have hwj2 : IntKind.i64.wrap (j : Int) = (j : Int) := IntWalk.i64_in _ (by omega)
      have zj : (j : Int) < (ms.length : Int) := by omega
      go_wp2_with fail
      refine HBG.out.mono ?_
      rintro e w4 ⟨rfl, hb4⟩
      have HN4 := Lib.hid (hkn.below hb4)
      have QK := Lib.hid (show Arr w4 Bk 117 [.slice (some ⟨g, 0, none⟩) ms.length cap] from hs ▸ HN4.out.bk)
      have QZ := Lib.hid HN4.out.bz
      have HZV := Lib.hid HN4.out.zv
      have HEL4 := Lib.hid (HEL.out.below hb4)
      have HC4 := Lib.hid (fun W (hb : Below w4.heap.size w4 W) => HC0.out W (hb4.trans (hb.mono hb4.size)))
      have HOW4 := Lib.hid HN4.out.own
      have HB4 := Lib.hid hb4
      have HAS := Lib.hid (show asum1 (powL zl j) * asum1 zl ≤ 1125899906842624 from by rw [asum1_powL, ← Nat.pow_succ]; exact HS.out _ (by omega))
      have HE1 := Lib.hid (HN.out.powL j)
      have HE2 := Lib.hid HN.out
      have HNN := Lib.hid (show j * N + N ≤ 1048576 from by
        have h1 := HNN0.out
        have h2 : (j + 1) * N ≤ (n + 1) * N := Nat.mul_le_mul_right _ (by omega)
        rw [Nat.succ_mul] at h2
        omega)
      have HWS := Lib.hid (And.intro hwj (And.intro hwj1 hwj2))
      have HJM := Lib.hid zj
      have HML := Lib.hid (show ms.length + 1 ≤ 1000000000 by omega)
      have HBS := Lib.hid (show base ≤ w4.heap.size from Nat.le_trans (Nat.le_trans hbs hbr.size) hb4.size)
      have HJ := Lib.hid hj
      have HLT := Lib.hid (And.intro hlt (And.intro hgk hml2))
      clear HEL HC0 HOW
      have HEL := Lib.hid HEL4.out
      have HC0 := Lib.hid HC4.out
      have HOW := Lib.hid HOW4.out
      clear HEL4 HC4 HOW4 hkn hkn2 qg hbr hfr hso hsg hgk hml2 hs ck hps z0 hj d0 d1 HBG hwj hwj1 hwj2 zj hb4 hlt
      go_wp2_with fail
      refine wp_region_phz (fun a b => Below a.heap.size a b) (fun h k => h.trans (k.mono h.size)) ((Below.refl _ _).drew) 10 (by kernel_rfl) (by kernel_rfl) (by kernel_rfl) (by kernel_rfl) rfl (by kernel_rfl) (by kernel_rfl) (phiT (fun i => ([some (.slice (some ⟨g, 0, none⟩) ms.length cap), some (.slice (some ⟨g, 0, none⟩) ms.length cap), some (.slice (some ⟨g, 0, none⟩) ms.length cap), some (.int .i64 (ms.length : Int)), some (.int .i64 (j : Int)), some (.pointer (some ⟨g, j * 2, none⟩)), some (.agg #[.bool false, .slice m1 m2 m3]), some (.agg #[.bool false, .slice z1 z2 z3]), none, none, some (undef), some (undef)] : List (Option Value)).getD i none) (fun i v w => (if i = 8 then (fun v w => QL w v (prs (powL zl j) zl)) v w else (if i = 9 then (fun v w => ∃ (h : Nat) (A : Option Addr) (n c : Nat), v = .slice (some ⟨h, 0, none⟩) 1 1 ∧ SlA encP w v [(A, n, c)] ∧ QL w (.agg #[.bool false, .slice A n c]) (prs (powL zl j) zl)) v w else True)))) (fun i v w w' h hb => ?_) (fun v W => ∃ (A : Option Addr) (n c : Nat), OwnA 38 2 encP base W v (ms ++ [(A, n, c)]) ∧ QL W (.agg #[.bool false, .slice A n c]) (prs (powL zl j) zl) ∧ Below base w4 W ∧ (∀ k, k < w4.heap.size → s.ownBlock ≠ some k → W.heap[k]? = w4.heap[k]?) ∧ (v.ownBlock = s.ownBlock ∨ ∀ k, v.ownBlock = some k → w4.heap.size ≤ k)) (fun W => ∃ (s2 : Value) (A : Option Addr) (n c : Nat), Arr W Bk 117 [s2] ∧ OwnA 38 2 encP base W s2 (ms ++ [(A, n, c)]) ∧ QL W (.agg #[.bool false, .slice A n c]) (prs (powL zl j) zl) ∧ Below base w4 W ∧ (∀ k, k < w4.heap.size → k ≠ Bk → s.ownBlock ≠ some k → W.heap[k]? = w4.heap[k]?) ∧ (s2.ownBlock = s.ownBlock ∨ ∀ k, s2.ownBlock = some k → w4.heap.size ≤ k)) ⟨?_, ?_, ?_, ?_, ?_, ?_, ?_, ?_, ?_, ?_, ?_, ?_, trivial⟩ ?_
      · unfold phiT at h ⊢
        split
        · next u hu => rw [hu] at h; exact h
        · next hu =>
          rw [hu] at h
          simp only at h ⊢
          by_cases q8 : i = 8
          · rw [if_pos q8] at h ⊢; exact QL.below h hb
          · rw [if_neg q8] at h ⊢
            by_cases q9 : i = 9
            · rw [if_pos q9] at h ⊢; exact (by obtain ⟨x, A, n, c, h1, h2, h3⟩ := h; exact ⟨x, A, n, c, h1, h2.below hb, h3.below hb⟩)
            · rw [if_neg q9] at h ⊢
              trivial
      · intro x w1 bA hb
        refine ⟨fun _ hT hdep hold => ?_, fun h => absurd h (by decide), fun h => absurd h (by decide)⟩
        refine .inl ⟨trivial, ?_⟩
        have e1 : bA.tmps[1]?.getD undef = .pointer (some ⟨Bk, 0, none⟩) := hb 1
        have ck := (QK.out.below hT QK.out.lt).cell 0
        refine phx_run (.slice (some ⟨g, 0, none⟩) ms.length cap) ?_ (Below.refl _ _) rfl
        clear hb hdep hold
        go_simp
      · intro x w1 bA hb
        refine ⟨fun _ hT hdep hold => ?_, fun h => absurd h (by decide), fun h => absurd h (by decide)⟩
        refine .inl ⟨trivial, ?_⟩
        have e1 : bA.tmps[1]?.getD undef = .pointer (some ⟨Bk, 0, none⟩) := hb 1
        have ck := (QK.out.below hT QK.out.lt).cell 0
        refine phx_run (.slice (some ⟨g, 0, none⟩) ms.length cap) ?_ (Below.refl _ _) rfl
        clear hb hdep hold
        go_simp
      · intro x w1 bA hb
        refine ⟨fun _ hT hdep hold => ?_, fun h => absurd h (by decide), fun h => absurd h (by decide)⟩
        refine .inl ⟨trivial, ?_⟩
        have e1 : bA.tmps[1]?.getD undef = .pointer (some ⟨Bk, 0, none⟩) := hb 1
        have ck := (QK.out.below hT QK.out.lt).cell 0
        refine phx_run (.slice (some ⟨g, 0, none⟩) ms.length cap) ?_ (Below.refl _ _) rfl
        clear hb hdep hold
        go_simp
      · intro x w1 bA hb
        refine ⟨fun _ hT hdep hold => ?_, fun h => absurd h (by decide), fun h => absurd h (by decide)⟩
        refine .inl ⟨trivial, ?_⟩
        have e21 : bA.tmps[21]?.getD undef = .slice (some ⟨g, 0, none⟩) ms.length cap := (hb 21).trans (hdep 2 (by decide))
        refine phx_run (.int .i64 (ms.length : Int)) ?_ (Below.refl _ _) rfl
        clear hb hdep hold
        go_simp
      · intro x w1 bA hb
        refine ⟨fun _ hT hdep hold => ?_, fun h => absurd h (by decide), fun h => absurd h (by decide)⟩
        refine .inl ⟨trivial, ?_⟩
        have e22 : bA.tmps[22]?.getD undef = .int .i64 (ms.length : Int) := (hb 22).trans (hdep 3 (by decide))
        have zs := HWS.out
        refine phx_run (.int .i64 (j : Int)) ?_ (Below.refl _ _) rfl
        clear hb hdep hold
        go_simp
      · intro x w1 bA hb
        refine ⟨fun _ hT hdep hold => ?_, fun h => absurd h (by decide), fun h => absurd h (by decide)⟩
        refine .inl ⟨trivial, ?_⟩
        have e20 : bA.tmps[20]?.getD undef = .slice (some ⟨g, 0, none⟩) ms.length cap := (hb 20).trans (hdep 1 (by decide))
        have e23 : bA.tmps[23]?.getD undef = .int .i64 (j : Int) := (hb 23).trans (hdep 4 (by decide))
        have zj := HJM.out
        refine phx_run (.pointer (some ⟨g, j * 2, none⟩)) ?_ (Below.refl _ _) rfl
        clear hb hdep hold
        go_simp
      · intro x w1 bA hb
        refine ⟨fun _ hT hdep hold => ?_, fun h => absurd h (by decide), fun h => absurd h (by decide)⟩
        refine .inl ⟨trivial, ?_⟩
        have e24 : bA.tmps[24]?.getD undef = .pointer (some ⟨g, j * 2, none⟩) := (hb 24).trans (hdep 5 (by decide))
        have ce0 := (HC0.out w1 hT).1
        have ce1 := (HC0.out w1 hT).2
        refine phx_run (.agg #[.bool false, .slice m1 m2 m3]) ?_ (Below.refl _ _) rfl
        clear hb hdep hold
        go_simp
      · intro x w1 bA hb
        refine ⟨fun _ hT hdep hold => ?_, fun h => absurd h (by decide), fun h => absurd h (by decide)⟩
        refine .inl ⟨trivial, ?_⟩
        have e2 : bA.tmps[2]?.getD undef = .pointer (some ⟨Bz, 0, none⟩) := hb 2
        have cz0 := (QZ.out.below hT QZ.out.lt).cell 0
        have cz1 := (QZ.out.below hT QZ.out.lt).cell 1
        refine phx_run (.agg #[.bool false, .slice z1 z2 z3]) ?_ (Below.refl _ _) rfl
        clear hb hdep hold
        go_simp
      · intro x w1 bA hb
        refine ⟨fun _ hT hdep hold => ?_, fun h => absurd h (by decide), fun h => absurd h (by decide)⟩
        refine .inl ⟨trivial, ?_⟩
        have e25 : bA.tmps[25]?.getD undef = .agg #[.bool false, .slice m1 m2 m3] := (hb 25).trans (hdep 6 (by decide))
        have e26 : bA.tmps[26]?.getD undef = .agg #[.bool false, .slice z1 z2 z3] := (hb 26).trans (hdep 7 (by decide))
        refine phx_call ?_ ((MulQ (.agg #[.bool false, .slice m1 m2 m3]) (.agg #[.bool false, .slice z1 z2 z3]) (powL zl j) zl w1 (HEL.out.below hT) (HZV.out.below hT) HAS.out HE1.out HE2.out HNN.out).mono fun e w' h => (by obtain ⟨v, he, hb', hv⟩ := h; exact ⟨v, he, hb', hv⟩))
        clear hb hdep hold
        go_simp
      · intro x w1 bA hb
        refine ⟨fun _ hT hdep hold => ?_, fun h => absurd h (by decide), fun h => absurd h (by decide)⟩
        refine .inl ⟨trivial, ?_⟩
        have p27 := hdep 8 (by decide)
        have e27 : bA.tmps[27]?.getD undef = x 8 := hb 27
        generalize x 8 = x27 at *
        have P27 := Lib.hid (show (fun v w => QL w v (prs (powL zl j) zl)) x27 w1 from p27)
        clear p27
        obtain ⟨A7, n7, c7, e7⟩ := P27.out.form
        subst e7
        refine phx_make (.slice (some ⟨w1.heap.size, 0, none⟩) 1 1) (w1.alloc (.cells #[.bool false, .slice A7 n7 c7] 38)) ?_ ((Below.refl _ _).alloc (Nat.le_refl _) _) (⟨w1.heap.size, A7, n7, c7, rfl, slP_one w1 A7 n7 c7, P27.out.below ((Below.refl _ _).alloc (Nat.le_refl _) _)⟩)
        clear hb hdep hold
        go_simp
      · intro x w1 bA hb
        refine ⟨fun h => absurd h (by decide), fun _ hT hdep hall => ?_, fun h => absurd h (by decide)⟩
        refine ⟨trivial, ?_⟩
        have e19 : bA.tmps[19]?.getD undef = .slice (some ⟨g, 0, none⟩) ms.length cap := (hb 19).trans (hdep 0 (by decide))
        have e28 : bA.tmps[28]?.getD undef = x 9 := hb 28
        have p27 := Lib.hid (show (fun v w => QL w v (prs (powL zl j) zl)) (x 8) w1 from hall 8 (by decide))
        have p28 := Lib.hid (show (fun v w => ∃ (h : Nat) (A : Option Addr) (n c : Nat), v = .slice (some ⟨h, 0, none⟩) 1 1 ∧ SlA encP w v [(A, n, c)] ∧ QL w (.agg #[.bool false, .slice A n c]) (prs (powL zl j) zl)) (x 9) w1 from hall 9 (by decide))
        clear hb hdep
        obtain ⟨h8, A8, n8, c8, e8, hs8, hq8⟩ := p28.out
        have HS8 := Lib.hid hs8
        have HQ8 := Lib.hid hq8
        have HT1 := Lib.hid hT
        clear hs8 hq8 p27 p28 e8 hT
        refine wp_appA (P := Tryz.prog) (base := base) elP (.tmp 19) (.tmp 28) 117 117 rfl Tryz.underlying117 Tryz.underlying117 (by simpa [Act.eval] using e19) (HSE.out ▸ HOW.out.below HT1.out) (by simpa [Act.eval] using e28) HS8.out HML.out (Nat.le_trans HBS.out HT1.out.size) ?_
        intro v1 w5 h1 h2 h3 h4
        have hown := HOW.out.below HT1.out
        refine ⟨v1, rfl, A8, n8, c8, h1, HQ8.out.keepT fun b hb => h3 b (TB_lt hb) (own_TB (HSE.out ▸ hown) hb), (HT1.out.mono HBS.out).trans h2, fun k hk hne => (h3 k (Nat.lt_of_lt_of_le hk HT1.out.size) (fun e => hne (by rw [HSE.out]; exact e))).trans (HT1.out.block k hk), ?_⟩
        rcases h4 with h4 | h4
        · exact .inl (h4.trans (by rw [HSE.out]))
        · refine .inr fun k hk => ?_
          rw [h4] at hk
          injection hk with hk
          subst hk
          exact HT1.out.size
      · intro x w1 bA hb
        refine ⟨fun h => absurd h (by decide), fun h => absurd h (by decide), fun _ hR => ⟨trivial, ?_⟩⟩
        have e1 : bA.tmps[1]?.getD undef = .pointer (some ⟨Bk, 0, none⟩) := hb 1
        have e29 : bA.tmps[29]?.getD undef = x 10 := hb 29
        clear hb
        obtain ⟨A, n, c, h1, h2, h3, h4, h5⟩ := hR
        have hneK : s.ownBlock ≠ some Bk := HNK.out
        have qk := (show Arr w1 Bk 117 [.slice (some ⟨g, 0, none⟩) ms.length cap] from (h4 Bk QK.out.lt hneK).trans QK.out)
        have c0 := qk.cell 0
        have f0 := qk.frozen 0
        have H1 := Lib.hid (And.intro h1 (And.intro h2 (And.intro h3 (And.intro h4 h5))))
        have HQK := Lib.hid qk
        obtain ⟨AF, cF, eF⟩ := h1.form
        generalize x 10 = xA at *
        subst eF
        clear h1 h2 h3 h4 h5 qk hneK
        refine phx_st (R := fun W => ∃ (s2 : Value) (A : Option Addr) (n c : Nat), Arr W Bk 117 [s2] ∧ OwnA 38 2 encP base W s2 (ms ++ [(A, n, c)]) ∧ QL W (.agg #[.bool false, .slice A n c]) (prs (powL zl j) zl) ∧ Below base w4 W ∧ (∀ k, k < w4.heap.size → k ≠ Bk → s.ownBlock ≠ some k → W.heap[k]? = w4.heap[k]?) ∧ (s2.ownBlock = s.ownBlock ∨ ∀ k, s2.ownBlock = some k → w4.heap.size ≤ k)) (w1.setCell ⟨Bk, 0, none⟩ (.slice AF (ms ++ [(A, n, c)]).length cF)) ?_ rfl ⟨_, A, n, c, HQK.out.set 0 _, H1.out.1.keepK fun k hk => Below.heap_setCell w1 ⟨Bk, 0, none⟩ _ k (fun e => own_ne H1.out.1 HQK.out (by decide) (by rw [← (show k = Bk from e)]; exact hk)), H1.out.2.1.keepT fun b hb => Below.heap_setCell w1 ⟨Bk, 0, none⟩ _ b (fun e => TB_ne (t := 117) (cs := [.slice (some ⟨g, 0, none⟩) ms.length cap]) hb (by rw [show b = Bk from e]; exact HQK.out) (by decide)), H1.out.2.2.1.setCell (p := ⟨Bk, 0, none⟩) HBK.out _, fun k hk h1 h2 => (Below.heap_setCell w1 ⟨Bk, 0, none⟩ _ k h1).trans (H1.out.2.2.2.1 k hk h2), H1.out.2.2.2.2⟩
        go_simp
      intro x w1 hR
      simp only [putAll, dstOf, Act.put, List.map_cons, List.map_nil, List.setIfInBounds_toArray, List.set_cons_succ, List.set_cons_zero, Nat.reduceAdd]
      have HF := Lib.hid (show ∃ (s : Value) (ms' : List PM), KnS Bk Bz base (z1, z2, z3) zl s ms' w1 ∧ Arr w1 G 38 [.bool false, .slice none 0 0] ∧ Below base w w1 ∧ (∀ k, k < w.heap.size → k ≠ Bk → s0.ownBlock ≠ some k → w1.heap[k]? = w.heap[k]?) ∧ (s.ownBlock = s0.ownBlock ∨ ∀ k, s.ownBlock = some k → w.heap.size ≤ k) ∧ s.ownBlock ≠ some G ∧ n + 1 - (ms.length + 1) = n + 1 - ms'.length ∧ ms'.length ≤ 100000 from by
        obtain ⟨s2, A, n2, c, h1, h2, h3, h4, h5, h6⟩ := hR
        have hk4 := HN4.out
        have keepTB : ∀ b, TB w4 b → w1.heap[b]? = w4.heap[b]? := fun b hb => h5 b (TB_lt hb) (fun e => TB_ne hb (e ▸ hk4.bk) (by decide)) (own_TB hk4.own hb)
        have nbz : Bz ≠ Bk := fun e => by
          have e1 := hk4.bz
          rw [e] at e1
          have e2 := hk4.bk
          unfold Arr at e1 e2
          rw [e1] at e2
          injection e2 with e2
          injection e2 with _ e2 _
          exact absurd e2 (by decide)
        have gz := HQG.out.below HB4.out HQG.out.lt
        have nbg : G ≠ Bk := fun e => by
          have e1 := gz
          rw [e] at e1
          have e2 := hk4.bk
          unfold Arr at e1 e2
          rw [e1] at e2
          injection e2 with e2
          injection e2 with _ e2 _
          exact absurd e2 (by decide)
        have nz2 : ∀ g', s.ownBlock ≠ some g' → g' < w4.heap.size → s2.ownBlock ≠ some g' := fun g' hne hlt e => by
          rcases h6 with h6 | h6
          · exact hne (h6 ▸ e)
          · have := h6 g' e; omega
        refine ⟨s2, ms ++ [(A, n2, c)], ⟨h1, h2, by simp, fun i hi => ?_, (h5 Bz hk4.bz.lt nbz hk4.nz).trans hk4.bz, hk4.zv.keepT keepTB, nz2 Bz hk4.nz hk4.bz.lt⟩, (h5 G gz.lt nbg HSG.out).trans gz, (HBR.out.trans (HB4.out.mono (Nat.le_trans hbs HBR.out.size))).trans h4, fun k hk hne hne2 => ?_, ?_, nz2 G HSG.out gz.lt, by simp, ?_⟩
        · by_cases hi2 : i < ms.length
          · have e : (ms ++ [(A, n2, c)])[i] = ms[i] := List.getElem_append_left hi2
            rw [e]
            exact (hk4.el i hi2).keepT keepTB
          · have hi3 : i = ms.length := by simp at hi; omega
            subst hi3
            have e : (ms ++ [(A, n2, c)])[ms.length] = (A, n2, c) := by simp
            rw [e]
            have e2 : powL zl ms.length = prs (powL zl j) zl := by rw [← HJ.out]; rfl
            rw [e2]
            exact h3
        · have hs1 : s.ownBlock ≠ some k := by
            rcases HSO.out with q | q
            · rw [q]; exact hne2
            · intro e; have := q k e; omega
          have hkl : k < wr.heap.size := Nat.lt_of_lt_of_le hk HBR.out.size
          exact (h5 k (Nat.lt_of_lt_of_le hkl HB4.out.size) hne hs1).trans ((HB4.out.block k hkl).trans (HFR.out k hk hne hne2))
        · rcases h6 with h6 | h6
          · rw [h6]; exact HSO.out
          · exact .inr fun k hk => Nat.le_trans (Nat.le_trans HBR.out.size HB4.out.size) (h6 k hk)
        · have := HLT.out.2.2
          have := HLT.out.1
          simp
          omega)
      have hm1 : n + 1 - (ms.length + 1) < gk := by have := HLT.out; omega
      clear hR HQG HBR HFR HSO HSG HN4 QK QZ
      go_wp2_with fail
      go_roundg (n + 1 - (ms.length + 1))
      case measure => exact hm1
      case rel => exact HF
    · have z0 : ¬ (ms.length : Int) ≤ (n : Int) := by omega
      have hkn2 := hkn
      rw [hs] at hkn2
      obtain ⟨d0, d1⟩ := hkn2.at_ (show n < ms.length by omega)
      have HEL := Lib.hid (hkn.el n (by omega))
      generalize (ms[n]'(by omega)).1 = m1 at *
      generalize (ms[n]'(by omega)).2.1 = m2 at *
      generalize (ms[n]'(by omega)).2.2 = m3 at *
      have r0 := qg.cell 0
      have r1 := qg.cell 1
      have f0 := qg.frozen 0
      have f1 := qg.frozen 1
      have zj : (n : Int) < (ms.length : Int) := by omega
      have hmn : ∀ ty (W : World), (Builtin.min_ #[3, 3] ty #[.int .i64 (n : Int), .int .i64 ((ms.length : Int) - 1)]).run Tryz.prog W = .ok (.int .i64 (n : Int)) W := fun ty W => by
        rw [run_min_int2, if_neg (by omega)]
      have hres := Lib.hid ((qg.set 0 (.bool false)).set 1 (.slice m1 m2 m3))
      have HFIN := Lib.hid (show ∀ u1 u2, Pow2R Bk Bz base (z1, z2, z3) zl s0 n w (.returned (.agg #[.bool false, .slice m1 m2 m3])) ((wr.setCell ⟨G, 0, none⟩ u1).setCell ⟨G, 1, none⟩ u2) from fun u1 u2 => by
        have hgz := HG.out
        have kh : ∀ k, k ≠ G → ((wr.setCell ⟨G, 0, none⟩ u1).setCell ⟨G, 1, none⟩ u2).heap[k]? = wr.heap[k]? := fun k hk => (Below.heap_setCell _ ⟨G, 1, none⟩ u2 k hk).trans (Below.heap_setCell wr ⟨G, 0, none⟩ u1 k hk)
        have kt : ∀ b, TB wr b → ((wr.setCell ⟨G, 0, none⟩ u1).setCell ⟨G, 1, none⟩ u2).heap[b]? = wr.heap[b]? := fun b hb => kh b (fun e => TB_ne (t := 38) (cs := [.bool false, .slice none 0 0]) hb (by rw [e]; exact qg) (by decide))
        have nbk : Bk ≠ G := fun e => by
          have e1 := qg
          rw [← e] at e1
          have e2 := hkn.bk
          unfold Arr at e1 e2
          rw [e1] at e2
          injection e2 with e2
          injection e2 with _ e2 _
          exact absurd e2 (by decide)
        have hbz := HBZ.out
        refine ⟨_, s, ms, rfl, HEL.out.keepT kt, ⟨(kh Bk nbk).trans hkn.bk, hkn.own.keepK fun k hk => kh k (fun e => hsg (by rw [← e]; exact hk)), hkn.pos, fun i hi => (hkn.el i hi).keepT kt, (kh Bz (by omega)).trans hkn.bz, hkn.zv.keepT kt, hkn.nz⟩, (hbr.setCell (p := ⟨G, 0, none⟩) (by show base ≤ G; omega) _).setCell (p := ⟨G, 1, none⟩) (by show base ≤ G; omega) _, fun k hk h1 h2 => (kh k (by omega)).trans (hfr k hk h1 h2), hso, hml2⟩)
      clear hkn hkn2 hfr hso hsg hgk qg
      go_wp2_with fail
      refine bodyPost_ret (v := .agg #[.bool false, .slice m1 m2 m3]) (results_c Tryz.results77 _ _ G 38 _ _ rfl hres.out Tryz.underlying38 rfl info_poly) rfl ?_
      exact HFIN.out _ _
end Go.Proofs.YtbfggncmjdhapaaGreatDoor
