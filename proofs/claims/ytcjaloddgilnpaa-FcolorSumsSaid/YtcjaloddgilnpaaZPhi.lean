/- The reference's Smith finds the invariants (plain). -/
/- unravelref26: bits, Gcd, Abs, without, pick. -/
/- unravelref26: without, pick. -/
/- unravelref26: pick. -/
/- A region that draws its order, whose operations leave what was there as it is (they may make memory and call): each operation is walked once; of each result a fact that later growth keeps. -/
import Derived.Test.YtcjaloddgilnpaaZSmr
import Derived.Test.YtcjaloddgilnpaaZLis
import Derived.Test.YtcjaloddgilnpaaZTab
import Derived.Test.YtcjaloddgilnpaaZCyo
namespace Go.Proofs.Ytcjaloddgilnpaa
set_option linter.unusedVariables false

theorem Tk.diag {n C : Nat} {δ : Int} {M' : Nat → Nat → Int} (h : Tk n C δ M') (hz : ∀ i j, i < n → j < C → i ≠ j → M' i j = 0) {i : Nat} (hi : i < n) (hiC : i < C) : M' i i = 0 ∨ M' i i ∣ δ := by
  by_cases q : M' i i = 0
  · exact Or.inl q
  · right
    obtain ⟨w, hw⟩ := h (fun j => if j = i then 1 else 0) (M' i i) (fun l => if l = i then 1 else 0) q (fun j hj => by
      rw [sumI_single (f := fun l => (if l = i then (1 : Int) else 0) * M' l j) hi (fun l _ hne => by
        show (if l = i then (1 : Int) else 0) * M' l j = 0
        rw [if_neg hne, Int.zero_mul])]
      rw [if_pos rfl, Int.one_mul]
      by_cases e : j = i
      · rw [if_pos e, e, Int.mul_one]
      · rw [if_neg e, Int.mul_zero, hz i j hi hj (fun z => e z.symm)])
    have h1 := hw i hiC
    rw [if_pos rfl, Int.mul_one, sumI_single (f := fun l => w l * M' l i) hi (fun l hl hne => by
      show w l * M' l i = 0
      rw [hz l i hl hiC hne, Int.mul_zero])] at h1
    exact ⟨w i, by rw [h1, Int.mul_comm]⟩
theorem rAdd_back {a b : Nat} (hab : a ≠ b) (c : Int) (M : Nat → Nat → Int) : rAdd a b (-c) (rAdd a b c M) = M := by
  funext i j
  unfold rAdd
  by_cases q : i = a
  · rw [if_pos q, if_pos rfl, if_neg (fun z => hab z.symm), q, Int.neg_mul]; omega
  · rw [if_neg q, if_neg q]
theorem natAbs_prodI (k : Nat) (f : Nat → Int) : (prodI k f).natAbs = prodN k (fun j => (f j).natAbs) := by
  induction k with
  | zero => rfl
  | succ k ih => rw [prodI, prodN, Int.natAbs_mul, ih]
theorem smith_minors {rows : List (List Int)} {n C d : Nat} (hn : rows.length = n) (hn14 : n ≤ 14) (hd : d = min n C) (hc : ∀ r ∈ rows, r.length = C) (hs : ∀ r ∈ rows, asum r ≤ 4) {k g : Nat} (hk : k ≤ d) (hg : ∀ e : Nat, e ∣ g ↔ GdN rows n C k e) :
    g = prodN k (fun j => gn (facO (smD C rows) C rows d) j) := by
  obtain ⟨r, ρ, κ, δ, hm, hD⟩ := minor_facts (by omega) hc hs
  rw [hn] at hm
  obtain ⟨M', ⟨h1, h2, h3⟩, hz, hch⟩ := smithZ (n := n) (C := C) (M := matZ rows)
    (P := fun X => (∀ e, 0 < e → nSol n C X e = nSol n C (matZ rows) e) ∧ Tk n C δ X ∧ ∀ r e, Dv C n r e (fun i j => X j i) ↔ Dv C n r e (fun i j => matZ rows j i))
    ⟨fun X a b c ha hb hab hX => ⟨fun e he => by rw [nSol_row c ha hb hab]; exact hX.1 e he, hX.2.1.r c ha hb hab, fun r e => by
      rw [← hX.2.2 r e]
      constructor
      · intro w
        have := Dv.c w (-c) ha hb
        have e1 : (fun i j => rAdd a b c X j i) = cAdd a b c (fun i j => X j i) := rfl
        rw [e1, cAdd_back hab] at this
        exact this
      · intro w
        exact Dv.c w c ha hb⟩,
     fun X a b c ha hb hab hX => ⟨fun e he => by rw [nSol_col he c ha hb hab]; exact hX.1 e he, hX.2.1.c c ha hb hab, fun r e => by
      rw [← hX.2.2 r e]
      constructor
      · intro w
        have := Dv.r w (-c) ha hb
        have e1 : (fun i j => cAdd a b c X j i) = rAdd a b c (fun i j => X j i) := rfl
        rw [e1, rAdd_back hab] at this
        exact this
      · intro w
        exact Dv.r w c ha hb⟩⟩ ⟨fun _ _ => rfl, hm.tk, fun _ _ => Iff.rfl⟩
  have key := fac_uniq (t := fun j => (M' j j).natAbs) hn hd hc hm.ne hD (fun j hj => by
      show (M' j j).natAbs = 0 ∨ (M' j j).natAbs ∣ δ.natAbs
      rcases h2.diag hz (show j < n by omega) (show j < C by omega) with q | q
      · left; rw [q]; rfl
      · right; exact Int.natAbs_dvd_natAbs.2 q) (fun a b hab hb => Int.natAbs_dvd_natAbs.2 (hch a b hab (by omega) (by omega))) (fun e he => by
      rw [← h1 e he, nSol_diag2 hd he hz])
  have hgd : ∀ e : Nat, e ∣ g ↔ e ∣ prodN k (fun j => (M' j j).natAbs) := by
    intro e
    rw [hg e, gdN_dv, ← h3 k (e : Int), Dv.diag (X := fun i j => M' j i) (show k ≤ C by omega) (show k ≤ n by omega) (fun i j hi hj hij => hz j i hj hi (fun q => hij q.symm)) (fun a b hab hb hb2 => hch a b hab hb2 hb), ← natAbs_prodI, Int.ofNat_dvd_left]
  have e1 : g = prodN k (fun j => (M' j j).natAbs) := Nat.dvd_antisymm ((hgd g).1 (Nat.dvd_refl _)) ((hgd _).2 (Nat.dvd_refl _))
  rw [e1]
  exact prodN_congr (fun j hj => (key j (by omega)).symm)
/-- the reference's fold over the minors -/
def gcC (rows : List (List Int)) (n C k r : Nat) (g : Nat) : Nat → Nat
  | 0 => g
  | c + 1 => if bitN c = k then Nat.gcd (gcC rows n C k r g c) (detR k (pickF rows n C r c)).natAbs else gcC rows n C k r g c
def gcR (rows : List (List Int)) (n C k : Nat) : Nat → Nat
  | 0 => 0
  | r + 1 => if bitN r = k then gcC rows n C k r (gcR rows n C k r) (2 ^ C) else gcR rows n C k r
theorem gcC_dvd {rows : List (List Int)} {n C k r g e : Nat} : ∀ m, e ∣ gcC rows n C k r g m ↔ e ∣ g ∧ ∀ c, c < m → bitN c = k → (e : Int) ∣ detR k (pickF rows n C r c)
  | 0 => by simp [gcC]
  | m + 1 => by
    rw [gcC]
    have ih := gcC_dvd (rows := rows) (n := n) (C := C) (k := k) (r := r) (g := g) (e := e) m
    by_cases q : bitN m = k
    · rw [if_pos q, Nat.dvd_gcd_iff, ih, ← Int.ofNat_dvd_left]
      constructor
      · rintro ⟨⟨a, b⟩, c⟩
        exact ⟨a, fun x hx hb => by
          by_cases e : x = m
          · rw [e]; exact c
          · exact b x (by omega) hb⟩
      · rintro ⟨a, b⟩
        exact ⟨⟨a, fun x hx hb => b x (by omega) hb⟩, b m (by omega) q⟩
    · rw [if_neg q, ih]
      constructor
      · rintro ⟨a, b⟩
        exact ⟨a, fun x hx hb => b x (by
          by_cases e : x = m
          · rw [e] at hb; exact absurd hb q
          · omega) hb⟩
      · rintro ⟨a, b⟩
        exact ⟨a, fun x hx hb => b x (by omega) hb⟩
theorem gcR_dvd {rows : List (List Int)} {n C k e : Nat} : ∀ m, e ∣ gcR rows n C k m ↔ ∀ r c, r < m → c < 2 ^ C → bitN r = k → bitN c = k → (e : Int) ∣ detR k (pickF rows n C r c)
  | 0 => by simp [gcR]
  | m + 1 => by
    rw [gcR]
    have ih := gcR_dvd (rows := rows) (n := n) (C := C) (k := k) (e := e) m
    by_cases q : bitN m = k
    · rw [if_pos q, gcC_dvd, ih]
      constructor
      · rintro ⟨a, b⟩ r c hr hc br bc
        by_cases e : r = m
        · rw [e]; exact b c hc bc
        · exact a r c (by omega) hc br bc
      · intro h
        exact ⟨fun r c hr => h r c (by omega), fun c hc bc => h m c (by omega) hc q bc⟩
    · rw [if_neg q, ih]
      constructor
      · intro h r c hr hc br bc
        by_cases e : r = m
        · rw [e] at br; exact absurd br q
        · exact h r c (by omega) hc br bc
      · intro h r c hr
        exact h r c (by omega)
theorem gcR_all {rows : List (List Int)} {n C k : Nat} (e : Nat) : e ∣ gcR rows n C k (2 ^ n) ↔ GdN rows n C k e := gcR_dvd (2 ^ n)
/-- the next element of the reference's list -/
theorem smith_step {rows : List (List Int)} {n C d : Nat} (hn : rows.length = n) (hn14 : n ≤ 14) (hd : d = min n C) (hc : ∀ r ∈ rows, r.length = C) (hs : ∀ r ∈ rows, asum r ≤ 4) {k : Nat} (hk : k < d) :
    (gcR rows n C (k + 1) (2 ^ n) = 0 → gn (facO (smD C rows) C rows d) k = 0) ∧ (gcR rows n C (k + 1) (2 ^ n) ≠ 0 → prodN k (fun j => gn (facO (smD C rows) C rows d) j) ≠ 0 ∧ gcR rows n C (k + 1) (2 ^ n) / prodN k (fun j => gn (facO (smD C rows) C rows d) j) = gn (facO (smD C rows) C rows d) k) := by
  have h1 := smith_minors hn hn14 hd hc hs (show k + 1 ≤ d by omega) (fun e => gcR_all (rows := rows) (n := n) (C := C) (k := k + 1) e)
  rw [h1, prodN]
  generalize hP : prodN k (fun j => gn (facO (smD C rows) C rows d) j) = P
  refine ⟨fun h => ?_, fun h => ?_⟩
  · rcases Nat.mul_eq_zero.1 h with q | q
    · -- an element before is 0: so is this one
      have hx : ∃ j, j < k ∧ gn (facO (smD C rows) C rows d) j = 0 := by
        rw [← hP] at q
        clear h1 hP h
        have : ∀ m, prodN m (fun j => gn (facO (smD C rows) C rows d) j) = 0 → ∃ j, j < m ∧ gn (facO (smD C rows) C rows d) j = 0 := by
          intro m
          induction m with
          | zero => intro w; simp [prodN] at w
          | succ m ih =>
            intro w
            rw [prodN] at w
            rcases Nat.mul_eq_zero.1 w with w | w
            · obtain ⟨j, hj, hz⟩ := ih w
              exact ⟨j, by omega, hz⟩
            · exact ⟨m, by omega, w⟩
        exact this k q
      obtain ⟨j, hj, hz⟩ := hx
      have hl := facD_length (smD C rows) C rows d
      have hch := facD_chn (smD C rows) C rows d j k (by omega) hj hk
      have hdv := facD_dvs (smD C rows) C rows d k (by omega)
      have hdj := facD_dvs (smD C rows) C rows d j (by omega)
      obtain ⟨m0, _⟩ := smD_bd (C := C) (rows := rows) hc
      unfold facO at hz ⊢
      rw [gn_outP (by omega)] at hz ⊢
      by_cases w : gn (facD (smD C rows) C rows d) j = smD C rows
      · rw [w] at hch
        rw [if_neg (fun z => z.2 (Nat.dvd_antisymm hdv hch))]
      · rw [if_pos ⟨by omega, w⟩] at hz
        rw [hz] at hdj
        have := Nat.eq_zero_of_zero_dvd hdj
        omega
    · exact q
  · have hP0 : P ≠ 0 := fun z => h (by rw [z, Nat.zero_mul])
    exact ⟨hP0, Nat.mul_div_cancel_left _ (by omega)⟩
end Go.Proofs.Ytcjaloddgilnpaa

namespace Go.Proofs.Ytcjaloddgilnpaa
open Go.RowKit
set_option linter.unusedVariables false

set_option maxHeartbeats 1000000 in
theorem bits_any (n : Nat) (w : World) (hn : n < 9223372036854775808) :
    Calls Try.prog 43 #[.int .i64 (n : Nat)] w fun e w' => e = .returned (.int .i64 (bitN n : Nat)) ∧ w = w' := by
  have hle : ∀ x, bitN x ≤ x := by
    intro x
    induction x using Nat.strongRecOn with
    | ind x ih =>
      by_cases q : x = 0
      · rw [q, bitN_zero]; exact Nat.le_refl _
      · rw [bitN_step q]
        have := ih (x / 2) (by omega)
        omega
  have HLE := Lib.hid (hle n)
  clear hle
  go_enter Try.func43, Try.ntmps43
  go_wp2_with fail
  go_loopg [0, 3] n (fun gk s0 s3 wr => ∃ x k : Nat, gk = x ∧ s0 = .int .i64 (x : Int) ∧ s3 = .int .i64 (k : Int) ∧ x ≤ n ∧ k + bitN x = bitN n ∧ w = wr)
  case atStart => exact ⟨n, 0, rfl, rfl, rfl, Nat.le_refl _, by omega, rfl⟩
  case round =>
    obtain ⟨x, k, rfl, rfl, rfl, hx, hb, rfl⟩ := hrel
    obtain ⟨x, rfl⟩ : ∃ y, y = gk := ⟨_, rfl⟩
    have hle := HLE.out
    have HB := Lib.hid hb
    have hkb : k ≤ n := by omega
    clear hb hle
    by_cases h0 : 0 < x
    · have z1 : (0 : Int) < (x : Int) := by omega
      have HS := Lib.hid (bitN_step (show x ≠ 0 by omega))
      obtain ⟨r, hr⟩ : ∃ r, r = x % 2 := ⟨_, rfl⟩
      obtain ⟨q, hq⟩ : ∃ q, q = x / 2 := ⟨_, rfl⟩
      have e1 : (x : Int) % 2 = (r : Int) := by omega
      have e2 : (x : Int) / 2 = (q : Int) := by omega
      rw [← hr, ← hq] at HS
      have hr1 : r ≤ 1 := by omega
      have hq1 : q < x := by omega
      clear hr hq
      have hkr : k + r ≤ n := by have h1 := HB.out; have h2 := HS.out; have h3 := HLE.out; omega
      go_wp2_with fail
      go_roundg q
      case measure => omega
      case rel => exact ⟨q, k + r, rfl, by first | rfl | (rw [← e2]; rfl), by go_num, by omega, by have h1 := HB.out; have h2 := HS.out; omega, rfl⟩
    · have z1 : ¬ ((0 : Int) < (x : Int)) := by omega
      have hx0 : x = 0 := by omega
      have HE := Lib.hid (show k = bitN n by have h1 := HB.out; rw [hx0, bitN_zero] at h1; omega)
      clear hx0 HB
      go_wp2_with fail
      go_ret
      exact ⟨by rw [HE.out]; rfl, rfl⟩
set_option maxHeartbeats 1000000 in
theorem abs26_any (x : Int) (w : World) (h1 : -1000000 ≤ x) (h2 : x ≤ 1000000) :
    Calls Try.prog 45 #[.int .i64 x] w fun e w' => e = .returned (.int .i64 (x.natAbs : Int)) ∧ w = w' := by
  by_cases h : x < 0
  · have HA := Lib.hid (show ((x.natAbs : Nat) : Int) = 0 - x by omega)
    have z1 : ¬ (0 - x < 0) := by omega
    have z2 : ¬ (-x < 0) := by omega
    go_enter Try.func45, Try.ntmps45
    go_wp2_with fail
    go_ret
    exact ⟨by rw [HA.out]; first | rfl | (rw [Int.zero_sub]; rfl), rfl⟩
  · have HA := Lib.hid (show ((x.natAbs : Nat) : Int) = x by omega)
    go_enter Try.func45, Try.ntmps45
    go_wp2_with fail
    go_ret
    exact ⟨by rw [HA.out]; rfl, rfl⟩
set_option maxHeartbeats 1000000 in
theorem gcd26_any (a b : Nat) (w : World) (ha : a < 9223372036854775808) (hb : b < 9223372036854775808) :
    Calls Try.prog 44 #[.int .i64 (a : Nat), .int .i64 (b : Nat)] w fun e w' => ∃ n, e = .returned (.int .i64 (Nat.gcd a b : Nat)) ∧ w' = w.drewN n := by
  obtain ⟨G, hG⟩ : ∃ g, g = Nat.gcd a b := ⟨_, rfl⟩
  rw [← hG]
  have HG := Lib.hid hG
  clear hG
  go_enter Try.func44, Try.ntmps44
  go_wp2_with fail
  go_loopg [0, 1] b (fun gk s0 s1 wr => ∃ x y n : Nat, gk = y ∧ s0 = .int .i64 (x : Int) ∧ s1 = .int .i64 (y : Int) ∧ x < 9223372036854775808 ∧ y < 9223372036854775808 ∧ Hid (G = Nat.gcd x y) ∧ wr = w.drewN n)
  case atStart => exact ⟨a, b, 0, rfl, rfl, rfl, ha, hb, HG, rfl⟩
  case round =>
    clear HG ha hb
    obtain ⟨x, y, n, rfl, rfl, rfl, hx, hy, HG, rfl⟩ := hrel
    obtain ⟨y, rfl⟩ : ∃ k, k = gk := ⟨_, rfl⟩
    rcases Nat.eq_zero_or_pos y with rfl | h0
    · go_wp2_with fail
      go_ret
      have := HG.out
      rw [Nat.gcd_zero_right] at this
      clear HG
      subst this
      exact ⟨n, rfl, rfl⟩
    · have z1 : ((y : Int) != 0) = true := by simp; omega
      have z2 : ((y : Int) == 0) = false := by simp; omega
      have e1 := rem_nat x y
      have HL := Lib.hid (Nat.mod_lt x h0)
      have HG2 := Lib.hid (show G = Nat.gcd y (x % y) by rw [HG.out, Nat.gcd_comm x y, Nat.gcd_rec y x, Nat.gcd_comm])
      obtain ⟨r, hr⟩ : ∃ r, r = x % y := ⟨_, rfl⟩
      rw [← hr] at e1 HL HG2
      have hl := HL.out
      clear hr HG HL
      generalize hWW : w.drewN n = W at *
      have HW := Lib.hid hWW
      clear hWW
      go_upto_region 2 with fail
      go_quiet (fail)
      have E1 := Lib.hid e1
      clear e1
      go_wp2_with fail
      go_roundg r
      case measure => omega
      case rel => exact ⟨y, r, _, rfl, rfl, by rw [← E1.out], hy, by omega, HG2, by rw [← HW.out]; exact drewN_add w n _⟩
end Go.Proofs.Ytcjaloddgilnpaa

namespace Go.Proofs.Ytcjaloddgilnpaa
open Go.RowKit
set_option linter.unusedVariables false

theorem Ints.keepO {w w' : World} {v : Value} {xs : List Int} (h : Ints w v xs) (hk : ∀ k, v.ownBlock = some k → w'.heap[k]? = w.heap[k]?) : Ints w' v xs := by
  obtain ⟨A, c, rfl, hc, hx⟩ := h
  refine ⟨A, c, rfl, hc, fun k x hkx => ?_⟩
  obtain ⟨b, o, rfl, hcell⟩ := hx k x hkx
  exact ⟨b, o, rfl, (World.cell?_of_block (a := ⟨b, o + k, none⟩) (hk b rfl)).trans hcell⟩
/-- the slices fs read as rows; none of them lies in block g -/
def RowsP (w : World) (g : Option Nat) (fs : List Value) (rows : List (List Int)) : Prop :=
  fs.length = rows.length ∧ ∀ (i : Nat) (f : Value) (row : List Int), fs[i]? = some f → rows[i]? = some row → Ints w f row ∧ ∀ b, f.ownBlock = some b → b < w.heap.size ∧ g ≠ some b
theorem RowsP.nil (w : World) : RowsP w none [] [] := ⟨rfl, fun i f h hf => by simp at hf⟩
theorem RowsP.keep {w w' : World} {g g' : Option Nat} {fs : List Value} {rows : List (List Int)} (h : RowsP w g fs rows) (hs : w.heap.size ≤ w'.heap.size) (hk : ∀ k, k < w.heap.size → g ≠ some k → w'.heap[k]? = w.heap[k]?) (hg : ∀ k, k < w.heap.size → g ≠ some k → g' ≠ some k) : RowsP w' g' fs rows := by
  refine ⟨h.1, fun i f r h1 h2 => ?_⟩
  obtain ⟨hI, hb⟩ := h.2 i f r h1 h2
  exact ⟨hI.keepO (fun k e => hk k (hb k e).1 (hb k e).2), fun b e => ⟨Nat.lt_of_lt_of_le (hb b e).1 hs, hg b (hb b e).1 (hb b e).2⟩⟩
theorem RowsP.below {w w' : World} {g : Option Nat} {fs : List Value} {rows : List (List Int)} (h : RowsP w g fs rows) (hb : Below w.heap.size w w') : RowsP w' g fs rows := h.keep hb.size (fun k hk _ => hb.block k hk) (fun _ _ q => q)
theorem RowsP.snoc {w : World} {g : Option Nat} {fs : List Value} {rows : List (List Int)} (h : RowsP w g fs rows) {f : Value} {row : List Int} (hI : Ints w f row) (hb : ∀ b, f.ownBlock = some b → b < w.heap.size ∧ g ≠ some b) : RowsP w g (fs ++ [f]) (rows ++ [row]) := by
  refine ⟨by simp [h.1], fun i f' r h1 h2 => ?_⟩
  rcases Nat.lt_or_ge i fs.length with q | q
  · rw [List.getElem?_append_left q] at h1
    rw [List.getElem?_append_left (by rw [← h.1]; exact q)] at h2
    exact h.2 i f' r h1 h2
  · rw [List.getElem?_append_right q] at h1
    rw [List.getElem?_append_right (by rw [← h.1]; exact q)] at h2
    have hi : i - fs.length = 0 := by
      have := (List.getElem?_eq_some_iff.1 h1).1; simp at this; omega
    rw [hi] at h1
    rw [← h.1, hi] at h2
    simp at h1 h2
    subst h1 h2
    exact ⟨hI, hb⟩
theorem RowsP.mat {w : World} {g : Option Nat} {v : Value} {fs : List Value} {rows : List (List Int)} (h : RowsP w g fs rows) (hv : Vals w v fs) : Mat w v rows := by
  obtain ⟨A, c, rfl, hc, hx⟩ := id hv
  refine ⟨A, c, by rw [h.1], by rw [← h.1]; exact hc, fun i row hi => ?_⟩
  have hl : i < fs.length := by rw [h.1]; exact (List.getElem?_eq_some_iff.1 hi).1
  obtain ⟨b, o, hA, hlt, hcell⟩ := hv.at_ hl
  exact ⟨b, o, hA, hlt, fs[i], hcell, (h.2 i fs[i] row (List.getElem?_eq_getElem hl) hi).1⟩
theorem OwnI.lt {e : TypeId} {base : Nat} {w : World} {v : Value} {xs : List Int} (h : OwnI e base w v xs) : ∀ k, v.ownBlock = some k → k < w.heap.size := by
  intro k hk
  rcases h.2 with ⟨rfl, h0⟩ | ⟨g, cap, cur, rfl, hg, hh, _⟩
  · simp [Value.ownBlock] at hk
  · simp [Value.ownBlock] at hk
    subst hk
    rcases Nat.lt_or_ge g w.heap.size with q | q
    · exact q
    · rw [Array.getElem?_eq_none q] at hh; cases hh
/-- element j of row i -/
theorem mat_at {w : World} {A : Option Addr} {n c i : Nat} {m : List (List Int)} (h : Mat w (.slice A n c) m) (hi : i < m.length) : ∃ b o r cr, A = some ⟨b, o, none⟩ ∧ b < w.heap.size ∧ w.cell? ⟨b, o + i, none⟩ = some (.slice r m[i].length cr) ∧ Ints w (.slice r m[i].length cr) m[i] := by
  obtain ⟨A', c', e, hc, hx⟩ := h
  injection e with e1 e2 e3
  subst e1
  obtain ⟨b, o, hA, hb, u, hu, hI⟩ := hx i m[i] (List.getElem?_eq_getElem hi)
  obtain ⟨r, cr, rfl, _, _⟩ := id hI
  exact ⟨b, o, r, cr, hA, hb, hu, hI⟩
theorem er_step_ne {row : List Int} {x k : Nat} (hx : x < row.length) (hk : x ≠ k) : (row.take (x + 1)).eraseIdx k = (row.take x).eraseIdx k ++ [row[x]] := by
  rw [List.take_succ_eq_append_getElem hx]
  rcases Nat.lt_or_ge k x with q | q
  · rw [List.eraseIdx_append_of_lt_length (by simp; omega)]
  · rw [List.eraseIdx_of_length_le (by simp; omega), List.eraseIdx_of_length_le (by simp; omega)]
theorem er_step_eq {row : List Int} {x : Nat} (hx : x < row.length) : (row.take (x + 1)).eraseIdx x = (row.take x).eraseIdx x := by
  have hl : (row.take x).length = x := by simp; omega
  rw [List.take_succ_eq_append_getElem hx, List.eraseIdx_append_of_length_le (by omega), hl, Nat.sub_self, show [row[x]].eraseIdx 0 = [] from rfl, List.append_nil, List.eraseIdx_of_length_le (by omega)]
theorem er_len (row : List Int) (x k : Nat) : ((row.take x).eraseIdx k).length ≤ row.length := by
  rw [List.length_eraseIdx]; split <;> simp <;> omega

theorem wo_one (k : Nat) (m : List (List Int)) : wo k (m.take 1) = [] := by
  unfold wo; cases m <;> simp
theorem wo_succ {k x : Nat} {m : List (List Int)} (h1 : 1 ≤ x) (h : x < m.length) : wo k (m.take (x + 1)) = wo k (m.take x) ++ [m[x].eraseIdx k] := by
  unfold wo
  rw [List.take_succ_eq_append_getElem h, List.tail_append_of_ne_nil (by
    intro e
    have : (m.take x).length = 0 := by rw [e]; rfl
    rw [List.length_take] at this; omega), List.map_append]
  rfl
set_option maxHeartbeats 2000000 in
set_option maxRecDepth 100000 in
theorem without_any (vm : Value) (m : List (List Int)) (k : Nat) (w : World) (hM : Mat w vm m) (hl : m.length ≤ 60) (hk : k ≤ 1000) (hr : ∀ r ∈ m, r.length ≤ 1000) :
    Calls Try.prog 70 #[vm, .int .i64 (k : Nat)] w fun e w' => ∃ v, e = .returned v ∧ Mat w' v (wo k m) ∧ Below w.heap.size w w' := by
  obtain ⟨i0, hi0, hz0, hz1, hz2⟩ := info_parts info_int
  obtain ⟨i1, hi1, hy0, hy1, hy2⟩ := info_parts info_ints
  have HM := Lib.hid (fun W (hb : Below w.heap.size w W) => hM.below hb)
  obtain ⟨A, c, rfl, hc, hx⟩ := hM
  clear hx
  have HR := Lib.hid hr
  clear hr
  go_enter Try.func70, Try.ntmps70
  go_wp2_with fail
  go_loopg [5, 6] (m.length - 1) (fun gk s5 s6 wr => ∃ (x : Nat) (fs : List Value), 1 ≤ x ∧ (x ≤ m.length ∨ x = 1) ∧ gk = m.length - x ∧ s6 = .int .i64 (x : Int) ∧ OwnV 22 w.heap.size wr s5 fs ∧ RowsP wr s5.ownBlock fs (wo k (m.take x)) ∧ Below w.heap.size w wr)
  case atStart => exact ⟨1, [], Nat.le_refl _, Or.inr rfl, rfl, rfl, OwnV.nil _ _ _, by rw [wo_one]; exact RowsP.nil _, Below.refl _ _⟩
  case round =>
    obtain ⟨x, fs, hx1, hx, rfl, rfl, hown, hrw, hbr⟩ := hrel
    obtain ⟨wq, rfl⟩ : ∃ y, y = wr := ⟨_, rfl⟩
    by_cases hlt : x < m.length
    · have z1 : (x : Int) < (m.length : Int) := by omega
      obtain ⟨b, o, r, cr, rfl, hb, hu, hI⟩ := mat_at (HM.out wq hbr) hlt
      have hrl := HR.out _ (List.getElem_mem hlt)
      have HWO := Lib.hid (wo_succ (k := k) hx1 hlt)
      have hfl : fs.length ≤ 60 := by
        rw [hrw.1]; unfold wo; simp; omega
      generalize m[x] = R at *
      have HI := Lib.hid (fun W (hb : Below wq.heap.size wq W) => hI.below hb)
      obtain ⟨A5, c5, rfl⟩ := hown.form
      have HOW := Lib.hid hown
      have HRW := Lib.hid hrw
      clear hI hown hrw
      have hbz := hbr.size
      go_wp2_with fail
      go_loopg [7, 8] R.length (fun gk s7 s8 wr => ∃ y : Nat, y ≤ R.length ∧ gk = R.length - y ∧ s8 = .int .i64 (y : Int) ∧ OwnI 3 wq.heap.size wr s7 ((R.take y).eraseIdx k) ∧ Below wq.heap.size wq wr)
      case atStart => exact ⟨0, Nat.zero_le _, rfl, rfl, by simpa using OwnI.nil _ _ _, Below.refl _ _⟩
      case round =>
        obtain ⟨y, hy, rfl, rfl, howi, hbx⟩ := hrel
        have hu2 := (hbx.cell (p := ⟨b, o + x, none⟩) hb).trans hu
        have hel := er_len R y k
        obtain ⟨A7, c7, rfl⟩ := howi.form
        have HOI := Lib.hid howi
        clear howi
        by_cases hyt : y < R.length
        · have z2 : (y : Int) < (R.length : Int) := by omega
          obtain ⟨br, orr, rfl, hbr2, hcell⟩ := (HI.out wr hbx).at_ hyt
          by_cases hyk : y = k
          · have z3 : ((y : Int) != (k : Int)) = false := by simp [hyk]
            have HE := Lib.hid (show (R.take (y + 1)).eraseIdx k = (R.take y).eraseIdx k by rw [← hyk]; exact er_step_eq hyt)
            clear hyk
            go_wp2_with fail
            go_roundg (R.length - (y + 1))
            case measure => omega
            case rel => exact ⟨y + 1, by omega, rfl, by go_num, by rw [HE.out]; exact HOI.out, hbx⟩
          · have z3 : ((y : Int) != (k : Int)) = true := by simp; omega
            have HE := Lib.hid (er_step_ne hyt hyk)
            generalize R[y] = v at *
            generalize (R.take y).eraseIdx k = E at *
            clear hyk
            go_wp2_with (at_builtin; refine wpList_appI rfl _ _ 22 rfl Try.underlying22 hi0 hz0 hz1 hz2 rfl (HOI.out.alloc _) rfl (Ints.one wr 3 _) (by simp; omega) (Nat.le_trans hbx.size (by simp)) ?_; intro v' w1 hown' hb1 hk1)
            have hb2 := (hbx.alloc hbx.size _).trans hb1
            go_roundg (R.length - (y + 1))
            case measure => omega
            case rel => exact ⟨y + 1, by omega, rfl, by go_num, by rw [HE.out]; exact hown', hb2⟩
        · have z2 : ¬ ((y : Int) < (R.length : Int)) := by omega
          have hye : (R.take y).eraseIdx k = R.eraseIdx k := by rw [List.take_of_length_le (by omega)]
          rw [hye] at HOI hel ⊢
          clear hye
          generalize R.eraseIdx k = E at *
          have HO5 := Lib.hid (HOW.out.below hbx (Nat.le_refl _))
          have HR5 := Lib.hid (HRW.out.below hbx)
          have HL5 := Lib.hid (fun k hk => HOW.out.lt k hk)
          have hbz2 := hbx.size
          clear HI hu
          go_wp2_with (at_builtin; refine wpList_appV rfl _ _ 26 rfl Try.underlying26 hi1 hy0 hy1 (by omega) rfl rfl (HO5.out.alloc _) rfl (Vals.one _ _ _) (by simp [Value.oneCell']) (by simp; omega) (Nat.le_trans (Nat.le_trans hbz hbz2) (by simp)) ?_; intro v' w2 hown2 hb2 hk2 hv2)
          have hbA : Below w.heap.size wr (wr.alloc (.cells #[Value.slice A7 E.length c7] 22)) := (Below.refl _ _).alloc (by omega) _
          have hbT := hbA.trans hb2
          have hRP : RowsP w2 v'.ownBlock (fs ++ [Value.slice A7 E.length c7]) (wo k (m.take x) ++ [E]) := by
            have h1 := HR5.out.snoc HOI.out.ints (fun b hb => ⟨HOI.out.lt b hb, fun e => by
              have h3 := HL5.out b e
              have h4 := HOI.out.block b hb
              omega⟩)
            refine h1.keep hbT.size (fun k hk hne => (hk2 k (by simp [heap_push]; omega) hne).trans (Below.heap_alloc _ _ k hk)) (fun k hk hne e => ?_)
            rcases hv2 with hv2 | hv2
            · rw [hv2] at e; exact hne e
            · rw [hv2] at e; injection e with e; simp [heap_push] at e; omega
          rw [← HWO.out] at hRP
          go_roundg (m.length - (x + 1))
          case measure => omega
          case rel => exact ⟨x + 1, _, by omega, Or.inl (by omega), rfl, by go_num, hown2, hRP, (hbr.trans (hbx.mono hbz)).trans hbT⟩
    · have z1 : ¬ ((x : Int) < (m.length : Int)) := by omega
      have HE := Lib.hid (show m.take x = m from List.take_of_length_le (by omega))
      have HMM := Lib.hid (hrw.mat hown.vals)
      clear hrw hown
      go_wp2_with fail
      go_ret
      refine ⟨_, rfl, ?_, hbr⟩
      rw [← HE.out]; exact HMM.out
end Go.Proofs.Ytcjaloddgilnpaa

namespace Go.Proofs.Ytcjaloddgilnpaa
open Go.RowKit
set_option linter.unusedVariables false

theorem sel_next (n x : Nat) : sel (n + 1) x = sel n x ++ if bt x n = true then [n] else [] := by
  unfold sel
  rw [List.range_succ, List.filter_append]
  congr 1
  by_cases h : bt x n = true
  · simp [h]
  · simp [h]
theorem sel_le (n x : Nat) : (sel n x).length ≤ n := by
  unfold sel
  exact Nat.le_trans (List.length_filter_le _ _) (by simp)
set_option maxHeartbeats 2000000 in
set_option maxRecDepth 100000 in
theorem pick_any (vm : Value) (m : List (List Int)) (C r c : Nat) (w : World) (hM : Mat w vm m) (hl : m.length ≤ 20) (hC : C ≤ 30) (hr : ∀ q ∈ m, q.length = C) (hrr : r < 1048576) (hcc : c < 1073741824) :
    Calls Try.prog 47 #[vm, .int .i64 (r : Nat), .int .i64 (c : Nat)] w fun e w' => ∃ v, e = .returned v ∧ Mat w' v (pickF m m.length C r c) ∧ Below w.heap.size w w' := by
  obtain ⟨i0, hi0, hz0, hz1, hz2⟩ := info_parts info_int
  obtain ⟨i1, hi1, hy0, hy1, hy2⟩ := info_parts info_ints
  have HM := Lib.hid (fun W (hb : Below w.heap.size w W) => hM.below hb)
  obtain ⟨A, ca, rfl, hc, hx⟩ := hM
  clear hx
  have HR := Lib.hid hr
  clear hr
  go_enter Try.func47, Try.ntmps47
  go_wp2_with fail
  go_loopg [7, 8] m.length (fun gk s7 s8 wr => ∃ (x : Nat) (fs : List Value), x ≤ m.length ∧ gk = m.length - x ∧ s8 = .int .i64 (x : Int) ∧ OwnV 22 w.heap.size wr s7 fs ∧ RowsP wr s7.ownBlock fs (pickF m x C r c) ∧ Below w.heap.size w wr)
  case atStart => exact ⟨0, [], Nat.zero_le _, rfl, rfl, OwnV.nil _ _ _, RowsP.nil _, Below.refl _ _⟩
  case round =>
    obtain ⟨x, fs, hx, rfl, rfl, hown, hrw, hbr⟩ := hrel
    obtain ⟨wq, rfl⟩ : ∃ y, y = wr := ⟨_, rfl⟩
    by_cases hlt : x < m.length
    · have z1 : (x : Int) < (m.length : Int) := by omega
      obtain ⟨A5, c5, rfl⟩ := hown.form
      obtain ⟨p, hp⟩ : ∃ p, p = r / 2 ^ x := ⟨_, rfl⟩
      have e1 : (r : Int) / 2 ^ x = (p : Int) := by rw [hp]; simp
      have e2 : (p : Int) % 2 = ((p % 2 : Nat) : Int) := by simp
      have e3 : (p : Int).tmod 2 = ((p % 2 : Nat) : Int) := by rw [Int.tmod_eq_emod_of_nonneg (by omega)]; simp
      have HBT := Lib.hid (show bt r x = decide (p % 2 = 1) by rw [hp]; rfl)
      have HSN := Lib.hid (sel_next x r)
      have HRL := Lib.hid (HR.out _ (List.getElem_mem hlt))
      obtain ⟨s, hs⟩ : ∃ s, s = p % 2 := ⟨_, rfl⟩
      rw [← hs] at e2 e3 HBT
      have hs2 : s < 2 := by omega
      have hfl : fs.length ≤ 20 := by
        rw [hrw.1]; unfold pickF; have := sel_le x r; simp; omega
      clear hp hs
      by_cases hs0 : s = 0
      · subst hs0
        have z2 : (((0 : Nat) : Int) == 0) = true := by simp
        have HPK := Lib.hid (show pickF m (x + 1) C r c = pickF m x C r c by unfold pickF; rw [HSN.out, HBT.out]; simp)
        go_wp2_with fail
        go_roundg (m.length - (x + 1))
        case measure => omega
        case rel => exact ⟨x + 1, fs, by omega, rfl, by go_num, hown, by rw [HPK.out]; exact hrw, hbr⟩
      · have hs1 : s = 1 := by omega
        subst hs1
        have z2 : (((1 : Nat) : Int) == 0) = false := by simp
        obtain ⟨b, o, rr, cr, rfl, hb, hu, hI⟩ := mat_at (HM.out wq hbr) hlt
        have HPK := Lib.hid (show pickF m (x + 1) C r c = pickF m x C r c ++ [(sel C c).map (gi m[x])] by
          unfold pickF
          rw [HSN.out, HBT.out]
          simp only [decide_true, if_true, List.map_append, List.map_cons, List.map_nil]
          rw [List.getElem?_eq_getElem hlt]; rfl)
        generalize m[x] = R at *
        have HI := Lib.hid (fun W (hb : Below wq.heap.size wq W) => hI.below hb)
        have HOW := Lib.hid hown
        have HRW := Lib.hid hrw
        have hRC : R.length ≤ 30 := by rw [HRL.out]; exact hC
        clear hI hown hrw
        have hbz := hbr.size
        go_wp2_with fail
        clear e1 e2 e3
        go_loopg [9, 10] R.length (fun gk s9 s10 wr => ∃ y : Nat, y ≤ R.length ∧ gk = R.length - y ∧ s10 = .int .i64 (y : Int) ∧ OwnI 3 wq.heap.size wr s9 ((sel y c).map (gi R)) ∧ Below wq.heap.size wq wr)
        case atStart => exact ⟨0, Nat.zero_le _, rfl, rfl, OwnI.nil _ _ _, Below.refl _ _⟩
        case round =>
          obtain ⟨y, hy, rfl, rfl, howi, hbx⟩ := hrel
          have hu2 := (hbx.cell (p := ⟨b, o + x, none⟩) hb).trans hu
          have hel : ((sel y c).map (gi R)).length ≤ 30 := by have := sel_le y c; rw [List.length_map]; omega
          obtain ⟨A7, c7, rfl⟩ := howi.form
          have HOI := Lib.hid howi
          clear howi
          by_cases hyt : y < R.length
          · have z3 : (y : Int) < (R.length : Int) := by omega
            obtain ⟨p, hp⟩ : ∃ p, p = c / 2 ^ y := ⟨_, rfl⟩
            have e1 : (c : Int) / 2 ^ y = (p : Int) := by rw [hp]; simp
            have e2 : (p : Int) % 2 = ((p % 2 : Nat) : Int) := by simp
            have e3 : (p : Int).tmod 2 = ((p % 2 : Nat) : Int) := by rw [Int.tmod_eq_emod_of_nonneg (by omega)]; simp
            have HBY := Lib.hid (show bt c y = decide (p % 2 = 1) by rw [hp]; rfl)
            have HSY := Lib.hid (sel_next y c)
            obtain ⟨s, hs⟩ : ∃ s, s = p % 2 := ⟨_, rfl⟩
            rw [← hs] at e2 e3 HBY
            have hs2 : s < 2 := by omega
            clear hp hs
            by_cases hs0 : s = 0
            · subst hs0
              have z4 : (((0 : Nat) : Int) == 1) = false := by simp
              have HE := Lib.hid (show (sel (y + 1) c).map (gi R) = (sel y c).map (gi R) by rw [HSY.out, HBY.out]; simp)
              go_wp2_with fail
              go_roundg (R.length - (y + 1))
              case measure => omega
              case rel => exact ⟨y + 1, by omega, rfl, by go_num, by rw [HE.out]; exact HOI.out, hbx⟩
            · have hs1 : s = 1 := by omega
              subst hs1
              have z4 : (((1 : Nat) : Int) == 1) = true := by simp
              have HE := Lib.hid (show (sel (y + 1) c).map (gi R) = (sel y c).map (gi R) ++ [R[y]] by
                rw [HSY.out, HBY.out]
                simp only [decide_true, if_true, List.map_append, List.map_cons, List.map_nil]
                unfold gi; rw [List.getElem?_eq_getElem hyt]; rfl)
              obtain ⟨br, orr, rfl, hbr2, hcell⟩ := (HI.out wr hbx).at_ hyt
              generalize R[y] = v at *
              generalize (sel y c).map (gi R) = E at *
              go_wp2_with (at_builtin; refine wpList_appI rfl _ _ 22 rfl Try.underlying22 hi0 hz0 hz1 hz2 rfl (HOI.out.alloc _) rfl (Ints.one wr 3 _) (by simp; omega) (Nat.le_trans hbx.size (by simp)) ?_; intro v' w1 hown' hb1 hk1)
              have hb2 := (hbx.alloc hbx.size _).trans hb1
              go_roundg (R.length - (y + 1))
              case measure => omega
              case rel => exact ⟨y + 1, by omega, rfl, by go_num, by rw [HE.out]; exact hown', hb2⟩
          · have z3 : ¬ ((y : Int) < (R.length : Int)) := by omega
            have hye : (sel y c).map (gi R) = (sel C c).map (gi R) := by have h1 := HRL.out; rw [show y = C by omega]
            rw [hye] at HOI hel ⊢
            clear hye
            generalize (sel C c).map (gi R) = E at *
            have HO5 := Lib.hid (HOW.out.below hbx (Nat.le_refl _))
            have HR5 := Lib.hid (HRW.out.below hbx)
            have HL5 := Lib.hid (fun k hk => HOW.out.lt k hk)
            have hbz2 := hbx.size
            clear HI hu
            go_wp2_with (at_builtin; refine wpList_appV rfl _ _ 26 rfl Try.underlying26 hi1 hy0 hy1 (by omega) rfl rfl (HO5.out.alloc _) rfl (Vals.one _ _ _) (by simp [Value.oneCell']) (by simp; omega) (Nat.le_trans (Nat.le_trans hbz hbz2) (by simp)) ?_; intro v' w2 hown2 hb2 hk2 hv2)
            have hbA : Below w.heap.size wr (wr.alloc (.cells #[Value.slice A7 E.length c7] 22)) := (Below.refl _ _).alloc (by omega) _
            have hbT := hbA.trans hb2
            have hRP : RowsP w2 v'.ownBlock (fs ++ [Value.slice A7 E.length c7]) (pickF m x C r c ++ [E]) := by
              have h1 := HR5.out.snoc HOI.out.ints (fun b hb => ⟨HOI.out.lt b hb, fun e => by
                have h3 := HL5.out b e
                have h4 := HOI.out.block b hb
                omega⟩)
              refine h1.keep hbT.size (fun k hk hne => (hk2 k (by simp [heap_push]; omega) hne).trans (Below.heap_alloc _ _ k hk)) (fun k hk hne e => ?_)
              rcases hv2 with hv2 | hv2
              · rw [hv2] at e; exact hne e
              · rw [hv2] at e; injection e with e; simp [heap_push] at e; omega
            rw [← HPK.out] at hRP
            go_roundg (m.length - (x + 1))
            case measure => omega
            case rel => exact ⟨x + 1, _, by omega, rfl, by go_num, hown2, hRP, (hbr.trans (hbx.mono hbz)).trans hbT⟩
    · have z1 : ¬ ((x : Int) < (m.length : Int)) := by omega
      have hxm : x = m.length := by omega
      have HMM := Lib.hid (hrw.mat hown.vals)
      clear hrw hown
      go_wp2_with fail
      go_ret
      refine ⟨_, rfl, ?_, hbr⟩
      rw [← hxm]; exact HMM.out
end Go.Proofs.Ytcjaloddgilnpaa

namespace Go.Proofs.Ytcjaloddgilnpaa
open Go.RowKit
set_option linter.unusedVariables false

section
variable {P : Program} {ops : Array Oper} {Q : Exit → Act → World → Prop}
/-- The region by facts. 'x i' is the value of operation i, 'D i' says that it has come up. -/
theorem wp_region_facts2 {id : Nat} {a : Act} {w : World} (hm : P.follows .mixedOrders = true) (hd : apartD (dstOf ops) = true) (hb : backD ops = true)
    (I : (Nat → Bool) → (Nat → Value) → World → Prop)
    (h0 : I (fun _ => false) (fun j => slotV a ((dstOf ops).getD (j - 0) none)) w.drew)
    (hstep : ∀ i o, ops[i]? = some o → ∀ D x w, I D x w → D i = false → (∀ j ∈ deps o, D j = true) → (∀ j, D j = true → ∀ k ∈ depsAt ops j, D k = true) → wpOp P ops Q i (fun a' w' => ∃ v, a' = (putAll (dstOf ops) 0 x a).put o.dst v ∧ I (upd D i true) (upd x i v) w') (putAll (dstOf ops) 0 x a) w)
    (hend : ∀ D x w, I D x w → (∀ i, i < ops.size → D i = true) → Q .normal (putAll (dstOf ops) 0 x a) w) : (Code.region id ops true).wp P Q a w := by
  refine wp_region_any hm (wpAny_inv hb (fun l a' w' => ∃ x, a' = putAll (dstOf ops) 0 x a ∧ (∀ j, l.getD j false = true → ∀ k ∈ depsAt ops j, l.getD k false = true) ∧ I (fun j => l.getD j false) x w') ?_ ?_ _ _ _ _ (by simp) ?_ ?_)
  · rintro l a' w' i hs ⟨x, rfl, hcl, hI⟩ hi
    obtain ⟨hun, o, ho, hdep⟩ := mem_ready.1 hi
    have hlt : i < ops.size := (Array.getElem?_eq_some_iff.1 ho).1
    have hdi : (dstOf ops).getD i none = o.dst := by
      have : ops[i] = o := by simpa [hlt] using ho
      simp [dstOf, hlt, this]
    have hdp : ∀ j ∈ deps o, l.getD j false = true := by
      intro j hj
      simp only [deps, List.mem_map, List.mem_filter] at hj
      obtain ⟨e, ⟨he, hbe⟩, rfl⟩ := hj
      exact hdep e (by simpa using he) hbe
    refine wpOp_mono ?_ (hstep i o ho (fun j => l.getD j false) x w' hI (by have h' : i < l.size := by omega
                                                                            simpa [Array.getD, h'] using hun) hdp hcl)
    · rintro a'' w'' ⟨v, rfl, hI'⟩
      refine ⟨upd x i v, ?_, ?_, ?_⟩
      · rw [← hdi, putAll_upd _ _ _ _ _ _ hd (by simpa [dstOf] using hlt), Nat.zero_add]
      · intro j hj k hk
        by_cases e : k = i
        · subst e
          have h' : k < l.size := by omega
          simp [Array.getD, h']
        rw [getD_set_ne _ (Ne.symm e)]
        by_cases ej : j = i
        · subst ej
          simp only [depsAt, ho] at hk
          exact hdp k hk
        · rw [getD_set_ne _ (Ne.symm ej)] at hj
          exact hcl j hj k hk
      · have : (fun j => (l.setIfInBounds i true).getD j false) = upd (fun j => l.getD j false) i true := by
          funext j
          by_cases e : j = i
          · subst e
            have h' : j < l.size := by omega
            simp [upd, Array.getD, h']
          · rw [upd_ne _ _ e, getD_set_ne _ (Ne.symm e)]
        rw [this]
        exact hI'
  · rintro l a' w' hs ⟨x, rfl, _, hI⟩ hall
    refine hend _ x w' hI (fun i hi => ?_)
    have := hall i hi
    cases hl : l.getD i false with
    | true => rfl
    | false => 
      rcases Nat.lt_or_ge i l.size with h' | h'
      · simp [Array.getD, h'] at this hl; rw [this] at hl; cases hl
      · omega
  · exact Nat.le_trans List.countP_le_length (by simp)
  · refine ⟨_, (putAll_start _ 0 a hd).symm, fun j hj => ?_, ?_⟩
    · by_cases h : j < ops.size <;> simp [Array.getD, h] at hj
    have : (fun j => (Array.replicate ops.size false).getD j false) = fun _ => false := by
      funext j
      by_cases h : j < ops.size <;> simp [Array.getD, h]
    rw [this]
    exact h0
/-- the region by facts, no operation guarded -/
theorem wp_region_facts2U {id : Nat} {l : List Oper} {a : Act} {w : World} (hm : P.follows .mixedOrders = true) (hd : apartD (dstOf l.toArray) = true) (hb : backD l.toArray = true) (hg : l.all (fun o => o.guard.isNone) = true) (hn : inD a.tmps.size (dstOf l.toArray) = true)
    (I : (Nat → Bool) → (Nat → Value) → World → Prop)
    (h0 : I (fun _ => false) (fun j => slotV a ((dstOf l.toArray).getD (j - 0) none)) w.drew)
    (hstep : AllOps (fun i o => ∀ D x w (b : Act), I D x w → D i = false → (∀ j ∈ deps o, D j = true) → (∀ j, D j = true → ∀ k ∈ depsAt l.toArray j, D k = true) → (∀ t : Nat, b.tmps[t]?.getD undef = look (dstOf l.toArray) x a t) → o.wp P b w (StepPost I D x i b o.dst) NoQ) 0 l)
    (hend : ∀ D x w, I D x w → (∀ i, i < l.length → D i = true) → Q .normal (putAll (dstOf l.toArray) 0 x a) w) : (Code.region id l.toArray true).wp P Q a w := by
  refine wp_region_facts2 hm hd hb I h0 (fun i o ho D x w hI hD hdep hcl => ?_) (fun D x w hI h => hend D x w hI (by simpa using h))
  have ho' : l[i]? = some o := by simpa using ho
  refine wpOp_plain ho ?_ ?_
  · have := List.all_eq_true.1 hg o (List.mem_of_getElem? ho')
    simpa using this
  · have := hstep.get _ _ i o ho' D x w (putAll (dstOf l.toArray) 0 x a)
    rw [Nat.zero_add] at this
    refine wp_noQ (this hI hD hdep hcl (fun t => ?_))
    rw [← Array.getD_eq_getD_getElem?, putAll_look _ _ _ _ _ hd hn]
    unfold look
    simp only [Nat.zero_add]
end
section
variable {P : Program} {Q : Exit → Act → World → Prop}
/-- behind one operation -/
def PhiPost (w : World) (Φ : Nat → Value → World → Prop) (i : Nat) (b : Act) (d : Option Tmp) (a' : Act) (w' : World) : Prop := ∃ v, a' = b.put d v ∧ Below w.heap.size w w' ∧ Φ i v w'
def PhiI (w0 : World) (Φ : Nat → Value → World → Prop) (x0 : Nat → Value) (D : Nat → Bool) (x : Nat → Value) (w : World) : Prop := Below w0.heap.size w0 w ∧ (∀ i, D i = true → Φ i (x i) w) ∧ ∀ i, D i = false → x i = x0 i
theorem wp_region_phi {id : Nat} {l : List Oper} {a : Act} {w0 : World} (hm : P.follows .mixedOrders = true) (hd : apartD (dstOf l.toArray) = true) (hb : backD l.toArray = true) (hg : l.all (fun o => o.guard.isNone) = true) (hn : inD a.tmps.size (dstOf l.toArray) = true)
    (Φ : Nat → Value → World → Prop) (hΦ : ∀ i v w w', Φ i v w → Below w.heap.size w w' → Φ i v w')
    (hstep : AllOps (fun i o => ∀ (x : Nat → Value) w (b : Act), Below w0.heap.size w0 w → (∀ j ∈ deps o, Φ j (x j) w) → (∀ j, i ∈ depsAt l.toArray j → x j = slotV a ((dstOf l.toArray).getD (j - 0) none)) → (∀ t : Nat, b.tmps[t]?.getD undef = look (dstOf l.toArray) x a t) → o.wp P b w (PhiPost w Φ i b o.dst) NoQ) 0 l)
    (hend : ∀ (x : Nat → Value) w, Below w0.heap.size w0 w → (∀ i, i < l.length → Φ i (x i) w) → Q .normal (putAll (dstOf l.toArray) 0 x a) w) : (Code.region id l.toArray true).wp P Q a w0 := by
  refine wp_region_facts2U hm hd hb hg hn (PhiI w0 Φ (fun j => slotV a ((dstOf l.toArray).getD (j - 0) none))) ⟨(Below.refl _ _).drew, fun i h => Bool.noConfusion h, fun _ _ => rfl⟩ ?_ ?_
  · have key : ∀ k o, l[k]? = some o → ∀ D x W (b : Act), PhiI w0 Φ (fun j => slotV a ((dstOf l.toArray).getD (j - 0) none)) D x W → D k = false → (∀ j ∈ deps o, D j = true) → (∀ j, D j = true → ∀ q ∈ depsAt l.toArray j, D q = true) → (∀ t : Nat, b.tmps[t]?.getD undef = look (dstOf l.toArray) x a t) → o.wp P b W (StepPost (PhiI w0 Φ (fun j => slotV a ((dstOf l.toArray).getD (j - 0) none))) D x k b o.dst) NoQ := by
      intro k o ho D x W b hI hD hdep hcl hbt
      have hs := hstep.get _ _ k o ho x W b hI.1 (fun j hj => hI.2.1 j (hdep j hj)) (fun j hj => hI.2.2 j (by
        cases h : D j with
        | false => rfl
        | true =>
          rw [Nat.zero_add] at hj
          have := hcl j h k hj
          rw [hD] at this; cases this)) hbt
      rw [Nat.zero_add] at hs
      refine Oper.wp_mono ?_ hs
      rintro a' w' ⟨v, rfl, hb', hv⟩
      refine ⟨v, rfl, hI.1.trans (hb'.mono hI.1.size), fun i hi => ?_, fun i hi => ?_⟩
      · by_cases e : i = k
        · subst e; rw [upd_same]; exact hv
        · rw [upd_ne _ _ e] at hi ⊢
          exact hΦ i (x i) W w' (hI.2.1 i hi) hb'
      · by_cases e : i = k
        · subst e; rw [upd_same] at hi; cases hi
        · rw [upd_ne _ _ e] at hi ⊢
          exact hI.2.2 i hi
    have aux : ∀ (r : List Oper) (s : Nat), (∀ k, r[k]? = l[s + k]?) → AllOps (fun i o => ∀ D x W (b : Act), PhiI w0 Φ (fun j => slotV a ((dstOf l.toArray).getD (j - 0) none)) D x W → D i = false → (∀ j ∈ deps o, D j = true) → (∀ j, D j = true → ∀ q ∈ depsAt l.toArray j, D q = true) → (∀ t : Nat, b.tmps[t]?.getD undef = look (dstOf l.toArray) x a t) → o.wp P b W (StepPost (PhiI w0 Φ (fun j => slotV a ((dstOf l.toArray).getD (j - 0) none))) D x i b o.dst) NoQ) s r := by
      intro r
      induction r with
      | nil => intro s _; trivial
      | cons o r ih =>
        intro s hr
        refine ⟨key s o (by have := hr 0; simpa using this.symm), ih (s + 1) (fun k => ?_)⟩
        have := hr (k + 1)
        rw [List.getElem?_cons_succ] at this
        rw [this]; congr 1; omega
    exact aux l 0 (fun k => by rw [Nat.zero_add])
  · intro D x W hI hall
    exact hend x W hI.1 (fun i hi => hI.2.1 i (hall i hi))
variable {w : World} {Φ : Nat → Value → World → Prop} {i : Nat} {b : Act} {o : Oper}
theorem phi_run (v : Value) (h : (execOp b.eval o).run P w = .ok (.value v) w) (hv : Φ i v w) : o.wp P b w (PhiPost w Φ i b o.dst) NoQ := by
  unfold Oper.wp; rw [h]; exact ⟨v, rfl, Below.refl _ _, hv⟩
theorem phi_make (v : Value) (w' : World) (h : (execOp b.eval o).run P w = .ok (.value v) w') (hb : Below w.heap.size w w') (hv : Φ i v w') : o.wp P b w (PhiPost w Φ i b o.dst) NoQ := by
  unfold Oper.wp; rw [h]; exact ⟨v, rfl, hb, hv⟩
theorem phi_call {f : FuncId} {args : Array Value} (h : (execOp b.eval o).run P w = .ok (.enter f args) w) (hc : Calls P f args w fun e w' => ∃ v, e = .returned v ∧ Below w.heap.size w w' ∧ Φ i v w') : o.wp P b w (PhiPost w Φ i b o.dst) NoQ := by
  unfold Oper.wp; rw [h]
  simp only [Oper.upon]
  refine hc.mono ?_
  rintro e w' ⟨v, rfl, hb, hv⟩
  exact ⟨v, rfl, hb, hv⟩
/-- the facts of a table: a value for each operation, but for those with a property of their own -/
def phiT (ev : Nat → Option Value) (Ψ : Nat → Value → World → Prop) (i : Nat) (v : Value) (w : World) : Prop := match ev i with | some u => v = u | none => Ψ i v w
end
end Go.Proofs.Ytcjaloddgilnpaa
