/- polymatrix.weightBits: plain and walk. -/
/- math/bits.TrailingZeros64; polymatrix.prime, polymatrix.fields. -/
/- polymatrix.fields. -/
/- polymatrix.interpolated, where the coefficients are found. -/
import Derived.Test.YtbkgpfalljgdcaaGreatDoorZTmo
import Derived.Test.YtbkgpfalljgdcaaGreatDoorZPfa
import Derived.Test.YtbkgpfalljgdcaaGreatDoorZMdt
import Derived.Test.YtbkgpfalljgdcaaGreatDoorZAps
import Derived.Shelf.Spec.TrailingZeros
import Derived.Lib.LaidTab
import Derived.Test.YtbkgpfalljgdcaaGreatDoorZRsx
import Derived.BigQuiet
namespace Go.Proofs.YtbkgpfalljgdcaaGreatDoor
open Go.RowKit
set_option linter.unusedVariables false

def stepW (s : Int) (t : TE) : Int := min (s + max t.2 (-t.2)) 4611686018427387904
def entW (s : Int) (l : List TE) : Int := l.foldl stepW s
def rowW (s : Int) (r : List (List TE)) : Int := r.foldl entW s
def rowBits (r : List (List TE)) : Int := if rowW 0 r = 4611686018427387904 then 75 else (Lib.bitLen (rowW 0 r).toNat : Int)
def wgtB (m : List (List (List TE))) : Int := m.foldl (fun a r => a + rowBits r) 0
theorem stepW_bd {s : Int} {t : TE} (h : 0 ≤ s) : 0 ≤ stepW s t ∧ stepW s t ≤ 4611686018427387904 := by
  unfold stepW; omega
theorem entW_bd : ∀ (l : List TE) (s : Int), 0 ≤ s → s ≤ 4611686018427387904 → 0 ≤ entW s l ∧ entW s l ≤ 4611686018427387904
  | [], s, h, k => ⟨h, k⟩
  | t :: l, s, h, k => entW_bd l (stepW s t) (stepW_bd h).1 (stepW_bd h).2
theorem rowW_bd : ∀ (r : List (List TE)) (s : Int), 0 ≤ s → s ≤ 4611686018427387904 → 0 ≤ rowW s r ∧ rowW s r ≤ 4611686018427387904
  | [], s, h, k => ⟨h, k⟩
  | l :: r, s, h, k => rowW_bd r (entW s l) (entW_bd l s h k).1 (entW_bd l s h k).2
theorem fold_take {α β : Type} {f : β → α → β} {a : β} {l : List α} {k : Nat} (hk : k < l.length) : (l.take (k + 1)).foldl f a = f ((l.take k).foldl f a) l[k] := by
  rw [List.take_succ_eq_append_getElem hk, List.foldl_append]; rfl
set_option maxHeartbeats 4000000 in
set_option maxRecDepth 100000 in
theorem weightBits_any (v : Value) (m : List (List (List TE))) (w : World) (h : EntT w v m) (hn : m.length ≤ 64) (hr : ∀ r ∈ m, r.length ≤ 64) (hs : ∀ r ∈ m, ∀ l ∈ r, l.length ≤ 131072 ∧ ∀ t ∈ l, -1125899906842624 ≤ t.2 ∧ t.2 ≤ 1125899906842624) (hbt : ∀ r ∈ m, 0 ≤ rowBits r ∧ rowBits r ≤ 75) :
    Calls Tryz.prog 69 #[v] w fun e w' => e = .returned (.int .i64 (wgtB m)) ∧ Below w.heap.size w w' := by
  have HS := Lib.hid hs
  have HR := Lib.hid hr
  have HH := Lib.hid h
  have HBT := Lib.hid hbt
  obtain ⟨A, c, rfl⟩ := h.form
  obtain ⟨n, hnn⟩ : ∃ n, n = m.length := ⟨_, rfl⟩
  rw [← hnn] at hn HH ⊢
  have HN := Lib.hid hnn
  have HTB := Lib.hid (show ∀ k, k ≤ n → 0 ≤ (m.take k).foldl (fun a r => a + rowBits r) 0 ∧ (m.take k).foldl (fun a r => a + rowBits r) 0 ≤ 75 * (k : Int) from fun k => by
    induction k with
    | zero => intro _; simp
    | succ k ih =>
      intro hk
      have hk2 : k < m.length := by omega
      have h1 := ih (by omega)
      have h2 := hbt m[k] (List.getElem_mem hk2)
      rw [fold_take hk2]
      generalize (m.take k).foldl (fun a r => a + rowBits r) 0 = z at *
      generalize rowBits m[k] = y at *
      omega)
  clear hs hr h hnn hbt
  go_enter Tryz.func69, Tryz.ntmps69
  go_wp2_with fail
  go_loopg [3, 5, 6, 8, 10, 13] n (fun gk s3 s5 s6 s8 s10 s13 wr => ∃ i : Nat, i ≤ n ∧ gk = n - i ∧ s3 = .int .i64 ((m.take i).foldl (fun a r => a + rowBits r) 0) ∧ s13 = .int .i64 (i : Int) ∧ Below w.heap.size w wr)
  case atStart => exact ⟨0, by omega, rfl, rfl, rfl, Below.refl _ _⟩
  case round =>
    obtain ⟨i, hi, rfl, rfl, rfl, hb⟩ := hrel
    obtain ⟨wo, rfl⟩ : ∃ wo : World, wo = wr := ⟨_, rfl⟩
    by_cases hit : i < n
    · have z1 : (i : Int) < (n : Int) := by omega
      have hml : i < m.length := by rw [← HN.out]; exact hit
      obtain ⟨b1, o1, hA, hnm, u, hu, hrow⟩ := HH.out.at_ hml
      clear hnm
      subst hA
      obtain ⟨A1, c1', rfl⟩ := hrow.form
      have c1 := (hb.cell (block_lt_of_cell hu)).trans hu
      have htb := HTB.out i (by omega)
      have HTK := Lib.hid (fold_take (f := fun a r => a + rowBits r) (a := (0 : Int)) hml)
      have hrl := HR.out m[i] (List.getElem_mem hml)
      have HSR := Lib.hid (HS.out m[i] (List.getElem_mem hml))
      have hrb := HBT.out m[i] (List.getElem_mem hml)
      generalize (m.take i).foldl (fun a r => a + rowBits r) 0 = tot at *
      generalize m[i] = row at *
      obtain ⟨N1, hN1⟩ : ∃ k, k = row.length := ⟨_, rfl⟩
      rw [← hN1] at c1 hrow hrl
      have HN1 := Lib.hid hN1
      have HROW := Lib.hid hrow
      have HB := Lib.hid hb
      clear hb hu hrow hN1 hml
      go_wp2_with fail
      go_loopg [6, 8, 10, 19] N1 (fun gk s6 s8 s10 s19 wr => ∃ k : Nat, k ≤ N1 ∧ gk = N1 - k ∧ s6 = .int .i64 (rowW 0 (row.take k)) ∧ s19 = .int .i64 (k : Int) ∧ Below w.heap.size w wr)
      case atStart => exact ⟨0, by omega, rfl, rfl, rfl, HB.out⟩
      case round =>
        clear HB c1
        obtain ⟨k, hk, rfl, rfl, rfl, hb⟩ := hrel
        obtain ⟨wd, rfl⟩ : ∃ wd : World, wd = wr := ⟨_, rfl⟩
        by_cases hkt : k < N1
        · have z2 : (k : Int) < (N1 : Int) := by omega
          have hkl : k < row.length := by rw [← HN1.out]; exact hkt
          obtain ⟨b2, o2, hA1, hnm, u2, hu2, hent⟩ := HROW.out.at_ hkl
          clear hnm
          subst hA1
          have hent2 := hent
          obtain ⟨A2, c2', hv2, _⟩ := hent2
          subst hv2
          have c1 := (hb.cell (block_lt_of_cell hu2)).trans hu2
          have hts := HSR.out row[k] (List.getElem_mem hkl)
          have HTK2 := Lib.hid (show rowW 0 (row.take (k + 1)) = entW (rowW 0 (row.take k)) row[k] from fold_take hkl)
          have hsb := rowW_bd (row.take k) 0 (by omega) (by omega)
          generalize row[k] = ts at *
          generalize rowW 0 (row.take k) = s0 at *
          have HTS := Lib.hid hts.2
          obtain ⟨L, hL⟩ : ∃ L, L = ts.length := ⟨_, rfl⟩
          have hL2 : L ≤ 131072 := by rw [hL]; exact hts.1
          rw [← hL] at c1 hent
          have HL := Lib.hid hL
          have HENT := Lib.hid hent
          have HB := Lib.hid hb
          clear hts hL hent hu2 hb hkl
          go_wp2_with fail
          go_loopg [6, 10, 25] L (fun gk s6 s10 s25 wr => ∃ t : Nat, t ≤ L ∧ gk = L - t ∧ s6 = .int .i64 (entW s0 (ts.take t)) ∧ s25 = .int .i64 (t : Int) ∧ Below w.heap.size w wr)
          case atStart => exact ⟨0, by omega, rfl, rfl, rfl, HB.out⟩
          case round =>
            clear HB c1
            obtain ⟨t, ht, rfl, rfl, rfl, hb⟩ := hrel
            obtain ⟨we, rfl⟩ : ∃ we : World, we = wr := ⟨_, rfl⟩
            by_cases htt : t < L
            · have z4 : (t : Int) < (L : Int) := by omega
              have htl : t < ts.length := by rw [← HL.out]; exact htt
              obtain ⟨b3, o3, hA2, hnm, q0, q1⟩ := HENT.out.t1 htl
              clear hnm
              subst hA2
              have c1 := (hb.cell (block_lt_of_cell q0)).trans q0
              have c2 := (hb.cell (block_lt_of_cell q1)).trans q1
              have hsm := HTS.out ts[t] (List.getElem_mem htl)
              have HFT := Lib.hid (show entW s0 (ts.take (t + 1)) = stepW (entW s0 (ts.take t)) ts[t] from fold_take htl)
              have hse := entW_bd (ts.take t) s0 hsb.1 hsb.2
              generalize ts[t] = tm at *
              generalize entW s0 (ts.take t) = s1 at *
              obtain ⟨ex, cf⟩ := tm
              simp only at c1 c2 hsm
              have HB := Lib.hid (hb.alloc hb.size (.cells #[.int .i64 (ex : Int), .int .i64 cf] 111))
              have hTB : Arr (we.alloc (.cells #[.int .i64 (ex : Int), .int .i64 cf] 111)) we.heap.size 111 [.int .i64 (ex : Int), .int .i64 cf] := Arr.new we _ [_, _]
              have y1 := hTB.cell 1
              have HST := Lib.hid (show min (s1 + max cf (-cf)) 4611686018427387904 = stepW s1 (ex, cf) from rfl)
              have hm1 : max cf (-cf) ≤ 1125899906842624 ∧ 0 ≤ max cf (-cf) := by omega
              clear hTB q0 q1 htl hb
              go_upto_region 12 with fail
              generalize we.alloc (.cells #[.int .i64 (ex : Int), .int .i64 cf] 111) = w9 at *
              generalize we.heap.size = tb at *
              clear c1 c2
              go_wp2_with fail
              go_roundg (L - (t + 1))
              case measure => omega
              case rel => exact ⟨t + 1, by omega, rfl, by rw [HFT.out, ← HST.out], by go_num, HB.out⟩
            · have z4 : ¬ ((t : Int) < (L : Int)) := by omega
              have e6 : t = L := by omega
              have HE := Lib.hid (show entW s0 (ts.take t) = rowW 0 (row.take (k + 1)) by rw [e6, HL.out, List.take_length, HTK2.out])
              have HB := Lib.hid hb
              clear hb e6
              go_wp2_with fail
              go_roundg (N1 - (k + 1))
              case measure => omega
              case rel => exact ⟨k + 1, by omega, rfl, by rw [HE.out], by go_num, HB.out⟩
        · have z2 : ¬ ((k : Int) < (N1 : Int)) := by omega
          have e7 : k = N1 := by omega
          have hre : rowW 0 (row.take k) = rowW 0 row := by rw [e7, HN1.out, List.take_length]
          rw [hre]
          have hbd := rowW_bd row 0 (by omega) (by omega)
          have HB := Lib.hid hb
          have hrbd := hrb
          unfold rowBits at hrb
          have HRB := Lib.hid (show rowBits row = if rowW 0 row = 4611686018427387904 then 75 else (Lib.bitLen (rowW 0 row).toNat : Int) from rfl)
          rw [HRB.out] at hrbd
          clear hb e7 hre
          have HBL := Lib.hid (fun W => Tryz.bits_Len (rowW 0 row) W hbd.1 (by omega))
          generalize rowW 0 row = sm at *
          have zc : sm % 18446744073709551616 = sm := by omega
          by_cases hmx : sm = 4611686018427387904
          · rw [if_pos hmx] at HRB hrb
            have z5 : (sm == 4611686018427387904) = true := by simpa using hmx
            have HB2 := HB
            clear hmx hrbd HBL
            go_wp2_with fail
            go_roundg (n - (i + 1))
            case measure => omega
            case rel => exact ⟨i + 1, by omega, rfl, by rw [HTK.out, HRB.out], by go_num, HB.out⟩
          · rw [if_neg hmx] at HRB hrb
            have z5 : (sm == 4611686018427387904) = false := by simpa using hmx
            clear hmx hrbd
            generalize (Lib.bitLen sm.toNat : Int) = bl at *
            go_wp2_with (go_at_call 92; refine (HBL.out _).mono ?_; rintro e w' ⟨rfl, rfl⟩)
            go_roundg (n - (i + 1))
            case measure => omega
            case rel => exact ⟨i + 1, by omega, rfl, by rw [HTK.out, HRB.out], by go_num, HB.out⟩
    · have z1 : ¬ ((i : Int) < (n : Int)) := by omega
      have HE := Lib.hid (show (m.take i).foldl (fun a r => a + rowBits r) 0 = wgtB m by rw [show i = m.length by rw [← HN.out]; omega, List.take_length]; rfl)
      have HB := Lib.hid hb
      clear hb
      go_wp2_with fail
      go_ret
      exact ⟨by rw [HE.out]; rfl, HB.out⟩
end Go.Proofs.YtbkgpfalljgdcaaGreatDoor

namespace Go.Proofs.YtbkgpfalljgdcaaGreatDoor
open Go.RowKit
set_option linter.unusedVariables false

/-- the table that math/bits.TrailingZeros64 reads is laid -/
def Tb6 (w : World) : Prop := Lib.TabIs Tryz.prog w "math/bits.deBruijn64tab" .u8 (Lib.deBruijn64tab.map fun k : Nat => (k : Int))
theorem Tb6.below {w w' : World} (h : Tb6 w) (hb : Below w.heap.size w w') : Tb6 w' := by
  unfold Tb6 Lib.TabIs World.var? at h ⊢
  cases hg : Tryz.prog.globalNamed "math/bits.deBruijn64tab" with
  | none => rw [hg] at h; simp at h
  | some g =>
  rw [hg] at h
  simp only [Option.bind_some] at h ⊢
  have hlt : g < w.heap.size := by
    rcases Nat.lt_or_ge g w.heap.size with q | q
    · exact q
    · rw [Array.getElem?_eq_none q] at h; cases h
  rw [hb.block g hlt]
  exact h
theorem tz64_core (x k idx : Nat) (w : World) (hx0 : ((x : Int) == 0) = false)
    (key : IntKind.u64.wrap (bits BinOp.and IntKind.u64 (x : Int) (IntKind.u64.wrap (-(x : Int))) * 285870213051353865) / 288230376151711744 = (idx : Int))
    (hi : idx < 64) (hk : k < 64) (hcell : w.cell? ⟨3, idx, none⟩ = some (.int .u8 k)) :
    Calls Tryz.prog 115 #[.int .u64 x] w fun e w' => e = .returned (.int .i64 k) ∧ w' = w := by
  go_enter Tryz.func115, Tryz.ntmps115
  go_wp2_with (simp only [key])
  go_ret
  exact ⟨rfl, rfl⟩
theorem tz_cell (w : World) (hT : Tb6 w) (idx k : Nat) (hi : idx < 64) (htab : Lib.deBruijn64tab.getD idx 0 = k) : w.cell? ⟨3, idx, none⟩ = some (.int .u8 k) := by
  have hl : Lib.deBruijn64tab.length = 64 := rfl
  have hcell := Lib.TabIs.cell hT (g := 3) (by kernel_rfl) idx (by rw [List.length_map, hl]; exact hi)
  rw [hcell, List.getD_eq_getElem?_getD, List.getElem?_map]
  rw [List.getD_eq_getElem?_getD] at htab
  rw [← htab]
  have h2 : idx < Lib.deBruijn64tab.length := by rw [hl]; exact hi
  rw [List.getElem?_eq_getElem h2]
  rfl
theorem tz64_any (x : Nat) (w : World) (hx0 : x ≠ 0) (hx : x < 18446744073709551616) (hT : Tb6 w) :
    Calls Tryz.prog 115 #[.int .u64 (x : Nat)] w fun e w' => e = .returned (.int .i64 ((Lib.ctz 64 x : Nat) : Int)) ∧ w' = w := by
  obtain ⟨hlow, hk⟩ := Lib.lowest_bit 64 x hx0 hx
  obtain ⟨hi, htab⟩ := Lib.deBruijn64_at _ hk
  exact tz64_core x _ _ w (by simp; omega) (tz64_key x _ hx hx0 hlow) hi hk (tz_cell w hT _ _ hi htab)
theorem mrIn_stop {n k a : Nat} (h : a = n - 1) : mrIn n k a = a := by
  cases k with
  | zero => rfl
  | succ k => rw [mrIn, if_pos h]
theorem mrIn_step {n k a : Nat} (h : ¬ a = n - 1) : mrIn n (k + 1) a = mrIn n k (a * a % n) := by rw [mrIn, if_neg h]
theorem ctz_tzG : ∀ (f n : Nat), 0 < n → n < 2 ^ f → Lib.ctzFrom f n = tzG f n
  | 0, n, h0, h => by simp at h; omega
  | f + 1, n, h0, h => by
    rw [Lib.ctzFrom, tzG]
    by_cases h1 : n % 2 = 1
    · rw [if_pos h1, if_pos h1]
    · rw [if_neg h1, if_neg h1, ctz_tzG f (n / 2) (by omega) (by rw [Nat.pow_succ] at h; omega), Nat.add_comm]
theorem tzG_lt : ∀ (f n : Nat), tzG f n ≤ f
  | 0, n => Nat.le_refl _
  | f + 1, n => by
    rw [tzG]
    split
    · omega
    · have := tzG_lt f (n / 2); omega
set_option maxHeartbeats 4000000 in
set_option maxRecDepth 100000 in
theorem prime_any (n : Nat) (w : World) (hn : 2 < n) (hn2 : n < 9223372036854775808) (hT : Tb6 w) :
    Calls Tryz.prog 93 #[.int .u64 (n : Nat)] w fun e w' => e = .returned (.bool (primeF n)) ∧ Below w.heap.size w w' := by
  obtain ⟨P, hP⟩ : ∃ P, P = primeF n := ⟨_, rfl⟩
  rw [← hP]
  have hctz : Lib.ctz 64 (n - 1) = tzG 64 (n - 1) := by unfold Lib.ctz; rw [if_neg (by omega)]; exact ctz_tzG 64 _ (by omega) (by omega)
  have hs64 : tzG 64 (n - 1) < 64 := by rw [← hctz]; exact (Lib.lowest_bit 64 (n - 1) (by omega) (by omega)).2
  have HTZ := Lib.hid (fun W (h : Tb6 W) => tz64_any (n - 1) W (by omega) (by omega) h)
  rw [hctz] at HTZ
  have hP2 : P = mrL.all fun b => mrB n (tzG 64 (n - 1)) b := hP
  obtain ⟨n1, hn1⟩ : ∃ k, k = n - 1 := ⟨_, rfl⟩
  rw [← hn1] at HTZ hs64 hP2
  generalize tzG 64 n1 = s at *
  have HP := Lib.hid hP2
  have HTB := Lib.hid hT
  have e1 : (n : Int) - 1 = (n1 : Int) := by omega
  have HN1 := Lib.hid e1
  have HEQ := Lib.hid hn1
  have hW : ∀ W, W = w.alloc (.cells #[.int .u64 (n : Nat), .int .u64 0] 117) → Arr W w.heap.size 117 [.int .u64 (n : Nat), .int .u64 0] ∧ Below w.heap.size w W := by
    intro W hW
    subst hW
    exact ⟨Arr.new _ _ [_, _], (Below.refl _ _).alloc (Nat.le_refl _) _⟩
  clear hP hP2 hctz hT hn1
  go_enter Tryz.func93, Tryz.ntmps93
  go_upto_region 2 with fail
  generalize w.alloc (.cells #[.int .u64 (n : Nat), .int .u64 0] 117) = w3 at hW ⊢
  obtain ⟨q1, hb3⟩ := hW w3 rfl
  obtain ⟨B1, hB1⟩ : ∃ B, B = w.heap.size := ⟨_, rfl⟩
  rw [← hB1] at q1 ⊢
  have Q0 := Lib.hid q1
  have HB0 := Lib.hid (show Below w.heap.size w w3 from hB1 ▸ hb3)
  have HT3 := Lib.hid (HTB.out.below HB0.out)
  clear hW q1 hb3 hB1
  go_wp2_with fail
  refine (HTZ.out w3 HT3.out).mono ?_
  rintro e w4 ⟨rfl, rfl⟩
  go_wp2_with fail
  go_loopg [15] 12 (fun gk s15 wr => ∃ k : Nat, k ≤ 12 ∧ gk = 12 - k ∧ s15 = .int .i64 (k : Int) ∧ Hid ((mrL.take k).all (fun b => mrB n s b) = true) ∧ Arr wr B1 117 [.int .u64 (n : Nat), .int .u64 0] ∧ Hid (Below w.heap.size w wr))
  case atStart => exact ⟨0, by omega, rfl, rfl, Lib.hid rfl, Q0.out, HB0⟩
  case round =>
    clear Q0 HB0
    obtain ⟨k, hk, rfl, rfl, HK, hq, HB⟩ := hrel
    have Q := Lib.hid hq
    clear hq
    by_cases hlt : k < 12
    · have z1 : (k : Int) < 12 := by omega
      have hkl : k < mrL.length := hlt
      obtain ⟨b, hb⟩ : ∃ b, b = mrL[k] := ⟨_, rfl⟩
      have hb37 : b ≤ 37 := by
        have h1 : b ∈ mrL := by rw [hb]; exact List.getElem_mem hkl
        unfold mrL at h1; simp at h1; omega
      have hix : ∀ W, Sem.run Tryz.prog (Instr.index 164 (.agg #[.int .u64 2, .int .u64 3, .int .u64 5, .int .u64 7, .int .u64 11, .int .u64 13, .int .u64 17, .int .u64 19, .int .u64 23, .int .u64 29, .int .u64 31, .int .u64 37]) (.int .i64 (k : Int))) W = .ok (.int .u64 (b : Int)) W := by
        intro W
        rw [hb]
        rcases (by omega : k = 0 ∨ k = 1 ∨ k = 2 ∨ k = 3 ∨ k = 4 ∨ k = 5 ∨ k = 6 ∨ k = 7 ∨ k = 8 ∨ k = 9 ∨ k = 10 ∨ k = 11) with h | h | h | h | h | h | h | h | h | h | h | h <;> subst h <;> kernel_rfl
      have HSN := Lib.hid (show (mrL.take (k + 1)).all (fun b => mrB n s b) = ((mrL.take k).all (fun b => mrB n s b) && mrB n s b) from by
        rw [List.take_add_one, List.getElem?_eq_getElem hkl, List.all_append, hb]; simp)
      have HNO := Lib.hid (fun (h : mrB n s b = false) => (show P = false from by
        rw [HP.out, List.all_eq_false]
        exact ⟨b, by rw [hb]; exact List.getElem_mem hkl, by rw [h]; simp⟩))
      obtain ⟨d, hd⟩ : ∃ d, d = n1 / 2 ^ s := ⟨_, rfl⟩
      have HD := Lib.hid (show (n1 : Int) / 2 ^ s = (d : Int) from by rw [hd]; simp)
      have HS63 := Lib.hid (show (s : Int) < 64 from by omega)
      have hd2 : d < 9223372036854775808 := by
        have : d ≤ n1 := by rw [hd]; exact Nat.div_le_self _ _
        omega
      have HPW := Lib.hid (fun W => fpower_any n 0 b d W (by omega) hn2 (by omega) (by omega))
      obtain ⟨a, ha⟩ : ∃ a, a = pwm n b d := ⟨_, rfl⟩
      have haL : a < n := by rw [ha]; exact pwm_lt (by omega) _ _
      have HMR := Lib.hid (show mrB n s b = ((a == 1) || (mrIn n (s - 1) a == n1)) from by
        unfold mrB; rw [ha, hd, HEQ.out])
      rw [← ha] at HPW
      clear hb hd ha
      go_upto_region 6 with fail
      refine wp_region_phy (fun a b => Below a.heap.size a b) (fun h k => h.trans (k.mono h.size)) ((Below.refl _ _).drew) (by kernel_rfl) (by kernel_rfl) (by kernel_rfl) (by kernel_rfl) (phiT (fun i => ([some (.agg #[.int .u64 (n : Int), .int .u64 0]), some (.int .u64 (b : Int)), some (.int .u64 (n : Int)), some (.int .u64 (n1 : Int)), some (.int .i64 (s : Int)), some (.int .u64 (d : Int)), some (.int .u64 (a : Int)), some (.int .u64 (a : Int))] : List (Option Value)).getD i none) (fun i v w => True)) (fun i v w w' h hb => ?_) ⟨?_, ?_, ?_, ?_, ?_, ?_, ?_, ?_, trivial⟩ ?_
      · unfold phiT at h ⊢
        split
        · next u hu => rw [hu] at h; exact h
        · next hu =>
          rw [hu] at h
          exact True.intro
      · intro x w1 bA hT hdep hold hb
        refine .inl ⟨trivial, ?_⟩
        have e3 : bA.tmps[3]?.getD undef = .pointer (some ⟨B1, 0, none⟩) := hb 3
        have cc0 := (Q.out.below hT Q.out.lt).cell 0
        have cc1 := (Q.out.below hT Q.out.lt).cell 1
        refine phx_run (.agg #[.int .u64 (n : Int), .int .u64 0]) ?_ (Below.refl _ _) rfl
        clear hb hdep hold
        go_simp
      · intro x w1 bA hT hdep hold hb
        refine .inl ⟨trivial, ?_⟩
        have e6 : bA.tmps[6]?.getD undef = .int .u64 (b : Int) := hb 6
        refine phx_run (.int .u64 (b : Int)) ?_ (Below.refl _ _) rfl
        clear hb hdep hold
        go_simp
      · intro x w1 bA hT hdep hold hb
        refine .inl ⟨trivial, ?_⟩
        have e0 : bA.tmps[0]?.getD undef = .int .u64 (n : Int) := hb 0
        refine phx_run (.int .u64 (n : Int)) ?_ (Below.refl _ _) rfl
        clear hb hdep hold
        go_simp
      · intro x w1 bA hT hdep hold hb
        refine .inl ⟨trivial, ?_⟩
        have e20 : bA.tmps[20]?.getD undef = .int .u64 (n : Int) := (hb 20).trans (hdep 2 (by decide))
        have zz := HN1.out
        have zw := u64_in n1 (by omega)
        refine phx_run (.int .u64 (n1 : Int)) ?_ (Below.refl _ _) rfl
        clear hb hdep hold
        go_simp
      · intro x w1 bA hT hdep hold hb
        refine .inl ⟨trivial, ?_⟩
        have e4 : bA.tmps[4]?.getD undef = .int .i64 (s : Int) := hb 4
        refine phx_run (.int .i64 (s : Int)) ?_ (Below.refl _ _) rfl
        clear hb hdep hold
        go_simp
      · intro x w1 bA hT hdep hold hb
        refine .inl ⟨trivial, ?_⟩
        have e21 : bA.tmps[21]?.getD undef = .int .u64 (n1 : Int) := (hb 21).trans (hdep 3 (by decide))
        have e22 : bA.tmps[22]?.getD undef = .int .i64 (s : Int) := (hb 22).trans (hdep 4 (by decide))
        have zz := HD.out
        have zy := HS63.out
        refine phx_run (.int .u64 (d : Int)) ?_ (Below.refl _ _) rfl
        clear hb hdep hold
        go_simp
      · intro x w1 bA hT hdep hold hb
        refine .inl ⟨trivial, ?_⟩
        have e18 : bA.tmps[18]?.getD undef = .agg #[.int .u64 (n : Int), .int .u64 0] := (hb 18).trans (hdep 0 (by decide))
        have e19 : bA.tmps[19]?.getD undef = .int .u64 (b : Int) := (hb 19).trans (hdep 1 (by decide))
        have e23 : bA.tmps[23]?.getD undef = .int .u64 (d : Int) := (hb 23).trans (hdep 5 (by decide))
        refine phx_call ?_ ((HPW.out w1).mono fun e w' h => ⟨_, h.1, h.2, rfl⟩)
        clear hb hdep hold
        go_simp
      · intro x w1 bA hT hdep hold hb
        refine .inl ⟨trivial, ?_⟩
        have e24 : bA.tmps[24]?.getD undef = .int .u64 (a : Int) := (hb 24).trans (hdep 6 (by decide))
        refine phx_run (.int .u64 (a : Int)) ?_ (Below.refl _ _) rfl
        clear hb hdep hold
        go_simp
      intro x w1 hT hall
      have x0e : x 0 = .agg #[.int .u64 (n : Int), .int .u64 0] := hall 0 (by decide)
      have x1e : x 1 = .int .u64 (b : Int) := hall 1 (by decide)
      have x2e : x 2 = .int .u64 (n : Int) := hall 2 (by decide)
      have x3e : x 3 = .int .u64 (n1 : Int) := hall 3 (by decide)
      have x4e : x 4 = .int .i64 (s : Int) := hall 4 (by decide)
      have x5e : x 5 = .int .u64 (d : Int) := hall 5 (by decide)
      have x6e : x 6 = .int .u64 (a : Int) := hall 6 (by decide)
      have x7e : x 7 = .int .u64 (a : Int) := hall 7 (by decide)
      simp only [putAll, dstOf, Act.put, List.map_cons, List.map_nil, List.setIfInBounds_toArray, List.set_cons_succ, List.set_cons_zero, Nat.reduceAdd, x0e, x1e, x2e, x3e, x4e, x5e, x6e, x7e]
      clear x0e x1e x2e x3e x4e x5e x6e x7e hall
      have Q' := Lib.hid (Q.out.below hT Q.out.lt)
      have HB' := Lib.hid (HB.out.trans (hT.mono HB.out.size))
      clear Q HB hT HPW hix
      by_cases ha1 : a = 1
      · have zz : ((a : Int) == 1) = true := by rw [beq_iff_eq]; omega
        have HK2 := Lib.hid (show (mrL.take (k + 1)).all (fun b => mrB n s b) = true from by rw [HSN.out, HK.out, HMR.out, ha1]; rfl)
        go_wp2_with fail
        go_roundg (12 - (k + 1))
        case measure => omega
        case rel => exact ⟨k + 1, by omega, rfl, by go_num, HK2, Q'.out, HB'⟩
      · have zz : ((a : Int) == 1) = false := by rw [beq_eq_false_iff_ne]; omega
        have HMR2 := Lib.hid (show mrB n s b = (mrIn n (s - 1) a == n1) from by rw [HMR.out, show (a == 1) = false from beq_eq_false_iff_ne.2 ha1]; rfl)
        clear HMR ha1
        go_wp2_with fail
        obtain ⟨wo, hwo⟩ : ∃ W, W = w1 := ⟨_, rfl⟩
        rw [← hwo] at Q' HB' ⊢
        clear hwo
        go_loopg [8, 7] (s - 1) (fun gk s8 s7 wr => ∃ i x : Nat, 1 ≤ i ∧ gk = s - i ∧ s8 = .int .i64 (i : Int) ∧ s7 = .int .u64 (x : Int) ∧ x < n ∧ Hid (mrIn n (s - 1) a = mrIn n (s - i) x) ∧ Arr wr B1 117 [.int .u64 (n : Nat), .int .u64 0] ∧ Hid (Below w.heap.size w wr))
        case atStart => exact ⟨1, a, by omega, rfl, rfl, rfl, haL, Lib.hid rfl, Q'.out, HB'⟩
        case round =>
          clear Q' HB' zz haL
          obtain ⟨i, x, hi, rfl, rfl, rfl, hx, HM, hq, HB⟩ := hrel
          have HX := Lib.hid (fun W => fmul_any n 0 x x W (by omega) (by omega) (by omega) (by omega))
          have hy : x * x % n < n := Nat.mod_lt _ (by omega)
          by_cases hgo : i < s ∧ x ≠ n1
          · have z2 : (i : Int) < (s : Int) := by omega
            have z3 : ((x : Int) != (n1 : Int)) = true := by rw [bne_iff_ne]; omega
            have HM2 := Lib.hid (show mrIn n (s - 1) a = mrIn n (s - (i + 1)) (x * x % n) from by
              rw [HM.out, show s - i = (s - (i + 1)) + 1 by omega, mrIn_step (by rw [← HEQ.out]; exact hgo.2)])
            have y0 := hq.cell 0
            have y1 := hq.cell 1
            have HQ := Lib.hid hq
            generalize x * x % n = y at *
            clear hq HM hgo
            go_wp2_with fail
            refine (HX.out _).mono ?_
            rintro en w6 ⟨rfl, hb6⟩
            have HQ6 := Lib.hid (HQ.out.below hb6 HQ.out.lt)
            have HB6 := Lib.hid (HB.out.trans (hb6.mono HB.out.size))
            clear y0 y1 hb6 HQ HB
            go_wp2_with fail
            go_roundg (s - (i + 1))
            case measure => omega
            case rel => exact ⟨i + 1, y, by omega, rfl, by go_num, rfl, hy, HM2, HQ6.out, HB6⟩
          · have HXE := Lib.hid (show mrIn n (s - 1) a = x from by
              rw [HM.out]
              by_cases h1 : x = n1
              · exact mrIn_stop (by rw [← HEQ.out]; exact h1)
              · have : s - i = 0 := by omega
                rw [this]; rfl)
            have HQ := Lib.hid hq
            clear hq HM
            by_cases hx1 : x = n1
            · have z3 : ((x : Int) != (n1 : Int)) = false := by rw [bne_eq_false_iff_eq]; omega
              have HK2 := Lib.hid (show (mrL.take (k + 1)).all (fun b => mrB n s b) = true from by rw [HSN.out, HK.out, HMR2.out, HXE.out, hx1]; simp)
              clear hgo hx1
              by_cases h2 : i < s
              · have z2 : (i : Int) < (s : Int) := by omega
                go_wp2_with fail
                go_roundg (12 - (k + 1))
                case measure => omega
                case rel => exact ⟨k + 1, by omega, rfl, by go_num, HK2, HQ.out, HB⟩
              · have z2 : ¬ (i : Int) < (s : Int) := by omega
                go_wp2_with fail
                go_roundg (12 - (k + 1))
                case measure => omega
                case rel => exact ⟨k + 1, by omega, rfl, by go_num, HK2, HQ.out, HB⟩
            · have z2 : ¬ (i : Int) < (s : Int) := by omega
              have z3 : ((x : Int) != (n1 : Int)) = true := by rw [bne_iff_ne]; omega
              have HPF := Lib.hid (HNO.out (by rw [HMR2.out, HXE.out]; exact beq_eq_false_iff_ne.2 hx1))
              go_wp2_with fail
              go_ret
              exact ⟨by rw [HPF.out]; rfl, HB.out⟩
    · have z1 : ¬ (k : Int) < 12 := by omega
      have HPT := Lib.hid (show P = true from by
        rw [HP.out, ← HK.out, List.take_of_length_le (show mrL.length ≤ k from Nat.le_of_not_lt hlt)])
      go_wp2_with fail
      go_ret
      exact ⟨by rw [HPT.out]; rfl, HB.out⟩
end Go.Proofs.YtbkgpfalljgdcaaGreatDoor

namespace Go.Proofs.YtbkgpfalljgdcaaGreatDoor
open Go.RowKit
set_option linter.unusedVariables false

def fE (t : Nat × Nat) : List Value := [.int .u64 (t.1 : Nat), .int .u64 (t.2 : Nat)]
theorem info_fld : (Tryz.prog.info? 117).map (fun i => (i.zero, i.size, i.bytes)) = some (some (.agg #[.int .u64 0, .int .u64 0]), 2, 16) := by kernel_rfl
theorem elF : ElA Tryz.prog 117 2 fE where
  ex := by
    obtain ⟨i, hi, hz, hs, hb⟩ := info_parts info_fld
    exact ⟨i, _, 16, hi, hz, hs, hb, rfl, by omega⟩
  pos := by omega
  len := fun x => rfl
  one := fun x q h => by unfold fE at h; simp at h; rcases h with rfl | rfl <;> rfl
theorem run_makeF (n : Nat) (hn : n ≤ 10000000) (W : World) : ∃ cs, (Instr.makeSlice 113 (.int .i64 0) (.int .i64 (n : Int))).run Tryz.prog W = .ok (.slice (some ⟨W.heap.size, 0, none⟩) 0 n) (W.alloc (.cells cs 117)) ∧ cs.size = n * 2 := by
  obtain ⟨i, hi, hz, hs, hby⟩ := info_parts info_fld
  have h := run_make (P := Tryz.prog) W 113 117 i _ Tryz.underlying113 hi hz .i64 .i64 0 (n : Int) (Int.le_refl _) (by omega) (by rw [hby]; omega) (by omega)
  refine ⟨_, h, ?_⟩
  rw [size_madeCells, hs]; omega
theorem OwnA.madeF {w : World} {base n : Nat} {cs : Array Value} (hb : base ≤ w.heap.size) (hn : n ≤ 10000000) (hc : cs.size = n * 2) : OwnA 117 2 fE base (w.alloc (.cells cs 117)) (.slice (some ⟨w.heap.size, 0, none⟩) 0 n) [] :=
  ⟨rfl, .inr ⟨w.heap.size, n, cs, rfl, hb, heap_alloc_new w _, Nat.zero_le _, by unfold maxLen; omega, by omega, by simp⟩⟩
theorem fld_step {j : Nat} (hj : j < 295) : (primeF (cand j) = true → (fldL[fldN j]?.map (·.1)) = some (cand j) ∧ fldN (j + 1) = fldN j + 1) ∧ (primeF (cand j) = false → fldN (j + 1) = fldN j) := by
  have h := List.all_eq_true.1 fld_tab j (List.mem_range.2 hj)
  refine ⟨fun hp => ?_, fun hp => ?_⟩
  · rw [if_pos hp] at h
    obtain ⟨h1, h2⟩ := Bool.and_eq_true_iff.1 h
    exact ⟨beq_iff_eq.1 h1, beq_iff_eq.1 h2⟩
  · rw [if_neg (by rw [hp]; simp)] at h
    exact beq_iff_eq.1 h
theorem fld_at {j : Nat} (hj : j < 295) (h : primeF (cand j) = true) : ∃ (rt b0 : Nat), fldL.take (fldN j + 1) = fldL.take (fldN j) ++ [(cand j, rt)] ∧ pwm (cand j) b0 ((cand j - 1) / 131072) = rt ∧ rtOk (cand j) b0 = true ∧ (∀ b, 2 ≤ b → b < b0 → rtOk (cand j) b = false) ∧ 2 ≤ b0 ∧ b0 ≤ 13 := by
  obtain ⟨h1, _⟩ := (fld_step hj).1 h
  cases ht : fldT[fldN j]? with
  | none => unfold fldL at h1; rw [List.getElem?_map, ht] at h1; simp at h1
  | some t =>
    have h1' := h1
    unfold fldL at h1'
    rw [List.getElem?_map, ht] at h1'
    simp only [Option.map_some, Option.some.injEq] at h1'
    have hm : t ∈ fldT := List.mem_of_getElem? ht
    have h2 := List.all_eq_true.1 fld_root t hm
    obtain ⟨h3, h4⟩ := Bool.and_eq_true_iff.1 h2
    obtain ⟨h5, h6⟩ := Bool.and_eq_true_iff.1 h3
    have hb : 2 ≤ t.2.2 ∧ t.2.2 ≤ 13 := by
      have : (fldT.all fun t => decide (2 ≤ t.2.2 ∧ t.2.2 ≤ 13)) = true := by decide +kernel
      exact of_decide_eq_true (List.all_eq_true.1 this t hm)
    refine ⟨t.2.1, t.2.2, ?_, by rw [← h1']; exact beq_iff_eq.1 h5, by rw [← h1']; exact h6, fun b hb1 hb2 => ?_, hb.1, hb.2⟩
    · have hg : fldL[fldN j]? = some (cand j, t.2.1) := by
        unfold fldL
        rw [List.getElem?_map, ht, ← h1']
        rfl
      rw [List.take_add_one, hg, Option.toList_some]
    · have h7 := List.all_eq_true.1 h4 b (List.mem_range.2 hb2)
      rw [← h1']
      rcases Bool.or_eq_true_iff.1 h7 with q | q
      · have := of_decide_eq_true q; omega
      · simpa using q
theorem cand_facts {j : Nat} (hj : j < 295) : 2305843009174896641 ≤ cand j ∧ cand j ≤ 2305843009213562881 ∧ cand (j + 1) + 131072 = cand j := by unfold cand; omega
theorem fldN_mono {j : Nat} (hj : j < 295) : fldN j ≤ fldN (j + 1) := by
  cases h : primeF (cand j) with
  | true => rw [((fld_step hj).1 h).2]; omega
  | false => rw [(fld_step hj).2 h]; exact Nat.le_refl _
set_option maxHeartbeats 4000000 in
set_option maxRecDepth 100000 in
theorem fields_any (K : Nat) (w : World) (hK : K ≤ 16) (hT : Tb6 w) :
    Calls Tryz.prog 70 #[.int .i64 (K : Int)] w fun e w' => ∃ v, e = .returned v ∧ OwnA 117 2 fE w.heap.size w' v (fldL.take K) ∧ Below w.heap.size w w' := by
  have HTB := Lib.hid hT
  clear hT
  obtain ⟨cs, hmk, hcs⟩ := run_makeF K (by omega) w
  have hst : OwnA 117 2 fE w.heap.size (w.alloc (.cells cs 117)) (.slice (some ⟨w.heap.size, 0, none⟩) 0 K) [] := OwnA.madeF (Nat.le_refl _) (by omega) hcs
  have hb := (Below.refl w.heap.size w).alloc (Nat.le_refl _) (.cells cs 117)
  clear hcs
  go_enter Tryz.func70, Tryz.ntmps70
  go_upto_region 2 with fail
  generalize w.alloc (.cells cs 117) = w3 at *
  clear hmk
  have HST := Lib.hid hst
  have HB3 := Lib.hid hb
  clear hst hb
  go_wp2_with fail
  go_loopg [3, 4] 295 (fun gk s3 s4 wr => ∃ j : Nat, j ≤ 295 ∧ gk = 295 - j ∧ s4 = .int .u64 ((cand j : Nat) : Int) ∧ fldN j ≤ K ∧ OwnA 117 2 fE w.heap.size wr s3 (fldL.take (fldN j)) ∧ Hid (Below w.heap.size w wr))
  case atStart => exact ⟨0, by omega, rfl, rfl, by rw [fld_end.2]; omega, by rw [fld_end.2]; exact HST.out, HB3⟩
  case round =>
    clear HST HB3
    obtain ⟨j, hj, rfl, rfl, hjK, hst, HB⟩ := hrel
    obtain ⟨As, csx, hv⟩ := hst.form
    have hlen : (fldL.take (fldN j)).length = fldN j := by
      rw [List.length_take]
      have : fldL.length = 16 := rfl
      omega
    rw [hlen] at hv
    subst hv
    have HST := Lib.hid hst
    clear hst
    by_cases hlt : fldN j < K
    · have z1 : ((fldN j : Nat) : Int) < (K : Int) := by omega
      have hj2 : j < 295 := by
        rcases Nat.lt_or_ge j 295 with q | q
        · exact q
        · have e : j = 295 := by omega
          rw [e, fld_end.1] at hlt; omega
      obtain ⟨hc1, hc2, hc3⟩ := cand_facts hj2
      have hmn := fldN_mono hj2
      have HPR := Lib.hid (fun W (h : Tb6 W) => prime_any (cand j) W (by omega) (by omega) h)
      have HSP := Lib.hid (fld_step hj2)
      have HAT := Lib.hid (fun h => fld_at hj2 h)
      have HLEN := Lib.hid hlen
      have HJJ := Lib.hid (show IntKind.u64.wrap (((cand j : Nat) : Int) - 131072) = ((cand (j + 1) : Nat) : Int) from by rw [IntKind.wrap_u64]; omega)
      obtain ⟨n', hn'⟩ : ∃ q, q = cand (j + 1) := ⟨_, rfl⟩
      rw [← hn'] at HJJ hc3
      have HNP := Lib.hid hn'
      clear hn'
      obtain ⟨q0, hq0⟩ : ∃ q, q = fldN j := ⟨_, rfl⟩
      rw [← hq0] at HST HSP HAT HLEN hjK hlt hmn z1 ⊢
      have HQ0 := Lib.hid hq0
      clear hq0 hlen
      generalize cand j = n at *
      cases hp : primeF n with
      | false =>
        rw [hp] at HPR
        have HNX := Lib.hid (HSP.out.2 hp)
        have zz := HJJ.out
        clear HSP HAT hp
        go_wp2_with fail
        refine (HPR.out wr (HTB.out.below HB.out)).mono ?_
        rintro e w4 ⟨rfl, hb4⟩
        have HST4 := Lib.hid (HST.out.below hb4)
        have HB4 := Lib.hid (HB.out.trans (hb4.mono HB.out.size))
        clear HST HB hb4 HPR
        go_wp2_with fail
        go_roundg (295 - (j + 1))
        case measure => omega
        case rel => exact ⟨j + 1, by omega, rfl, by rw [HNP.out], by rw [HNX.out]; exact hjK, by rw [HNX.out]; exact HST4.out, HB4⟩
      | true =>
        rw [hp] at HPR
        have HNX := Lib.hid (HSP.out.1 hp).2
        obtain ⟨rt, b0, hat, hrt, hok, hno, hb2, hb13⟩ := HAT.out hp
        have HA1 := Lib.hid hat
        have HA2 := Lib.hid hrt
        have HA3 := Lib.hid hok
        have HA4 := Lib.hid hno
        clear HSP HAT hp hat hrt hok hno
        have zz := HJJ.out
        go_wp2_with fail
        refine (HPR.out wr (HTB.out.below HB.out)).mono ?_
        rintro e w4 ⟨rfl, hb4⟩
        have HST4 := Lib.hid (HST.out.below hb4)
        have HB4 := Lib.hid (HB.out.trans (hb4.mono HB.out.size))
        clear HST HB hb4 HPR
        have hW : ∀ W, W = w4.alloc (.cells #[.int .u64 (n : Int), .int .u64 0] 117) → ∃ g, g = w4.heap.size ∧ Arr W g 117 [.int .u64 (n : Int), .int .u64 ((0 : Nat) : Int)] ∧ OwnA 117 2 fE w.heap.size W (.slice As q0 csx) (fldL.take q0) ∧ Below w.heap.size w W ∧ w.heap.size ≤ g ∧ (∀ k, (Value.slice As q0 csx).ownBlock = some k → k ≠ g) := by
          intro W hW
          subst hW
          exact ⟨_, rfl, Arr.new _ _ [_, _], HST4.out.alloc _, HB4.out.alloc HB4.out.size _, HB4.out.size, fun k hk e => by have := HST4.out.lt k hk; omega⟩
        have HW := Lib.hid hW
        clear hW
        go_upto_region 7 with fail
        have hW := HW.out
        clear HW HST4 HB4
        generalize w4.alloc (.cells #[.int .u64 (n : Int), .int .u64 0] 117) = w5 at hW ⊢
        obtain ⟨g, hg, hqg, hst5, hb5, hgs, hne⟩ := hW w5 rfl
        rw [← hg]
        have HQG := Lib.hid hqg
        have HST5 := Lib.hid hst5
        have HB5 := Lib.hid hb5
        have HGS := Lib.hid hgs
        have HNE := Lib.hid hne
        clear hW hg hqg hst5 hb5 hgs hne
        obtain ⟨d, hd⟩ : ∃ d, d = (n - 1) / 131072 := ⟨_, rfl⟩
        obtain ⟨n1, hn1⟩ : ∃ d, d = n - 1 := ⟨_, rfl⟩
        have e1 : (n : Int) - 1 = (n1 : Int) := by omega
        have e2 : (n1 : Int) / 131072 = (d : Int) := by omega
        have hn1b : n1 < 9223372036854775808 := by omega
        have hdb : d < 9223372036854775808 := by omega
        rw [← hd] at HA2
        have HRK := Lib.hid (fun b => (show rtOk n b = (pwm n (pwm n b d) 65536 == n1) from by unfold rtOk; rw [← hd, ← hn1]))
        have HPD := Lib.hid (fun b (hb : b ≤ 13) r W => fpower_any n r b d W (by omega) (by omega) (by omega) (by omega))
        have HPQ := Lib.hid (fun x (hx : x < n) r W => fpower_any n r x 65536 W (by omega) (by omega) (by omega) (by decide))
        have HPL := Lib.hid (fun b => pwm_lt (p := n) (by omega) b d)
        clear hd hn1 hc3
        go_wp2_with fail
        obtain ⟨wo, hwo⟩ : ∃ W, W = w5 := ⟨_, rfl⟩
        rw [← hwo] at HQG HST5 HB5 ⊢
        clear hwo
        go_loopg [6] (b0 - 2) (fun gk s6 wq => ∃ b r : Nat, 2 ≤ b ∧ b ≤ b0 ∧ gk = b0 - b ∧ s6 = .int .u64 (b : Int) ∧ Arr wq g 117 [.int .u64 (n : Int), .int .u64 (r : Int)] ∧ Hid (OwnA 117 2 fE w.heap.size wq (.slice As q0 csx) (fldL.take q0)) ∧ Hid (Below w.heap.size w wq))
        case atStart => exact ⟨2, 0, by omega, hb2, rfl, rfl, HQG.out, HST5, HB5⟩
        case round =>
          clear HQG HST5 HB5
          obtain ⟨b, r, hb2', hbb, rfl, rfl, hq, HST, HB⟩ := hrel
          have HX := Lib.hid (HPD.out b (by omega))
          have hxl := HPL.out b
          have HRB := Lib.hid (HRK.out b)
          have HRE := Lib.hid (fun (h : b = b0) => (show pwm n b d = rt from by rw [h]; exact HA2.out))
          generalize pwm n b d = x at *
          have HY := Lib.hid (HPQ.out x hxl)
          generalize pwm n x 65536 = y at *
          have y0 := hq.cell 0
          have y1 := hq.cell 1
          have f1 := hq.frozen 1
          have HQ := Lib.hid hq
          clear hq
          go_wp2_with fail
          refine (HX.out r _).mono ?_
          rintro en w6 ⟨rfl, hb6⟩
          have hq6 := HQ.out.below hb6 HQ.out.lt
          have HST6 := Lib.hid (HST.out.below hb6)
          have HB6 := Lib.hid (HB.out.trans (hb6.mono HB.out.size))
          clear y0 y1 f1 hb6 HQ HST HB HX
          have g1 := hq6.cell 1
          have g2 := hq6.frozen 1
          have hW : ∀ W, W = w6.setCell ⟨g, 1, none⟩ (.int .u64 (x : Int)) → Arr W g 117 [.int .u64 (n : Int), .int .u64 (x : Int)] ∧ OwnA 117 2 fE w.heap.size W (.slice As q0 csx) (fldL.take q0) ∧ Below w.heap.size w W := by
            intro W hW
            subst hW
            exact ⟨hq6.set 1 _, HST6.out.keepK fun k hk => Below.heap_setCell _ _ _ _ (HNE.out k hk), HB6.out.setCell (p := ⟨g, 1, none⟩) HGS.out _⟩
          have HW := Lib.hid hW
          clear hW hq6
          go_upto_region 10 with fail
          have hW := HW.out
          clear HW HST6 HB6 g1 g2
          generalize w6.setCell ⟨g, 1, none⟩ (.int .u64 (x : Int)) = w7 at hW ⊢
          obtain ⟨hq7, hst7, hb7⟩ := hW w7 rfl
          have z0 := hq7.cell 0
          have z1 := hq7.cell 1
          have HQ7 := Lib.hid hq7
          have HST7 := Lib.hid hst7
          have HB7 := Lib.hid hb7
          clear hW hq7 hst7 hb7
          go_wp2_with fail
          refine (HY.out x w7).mono ?_
          rintro en w8 ⟨rfl, hb8⟩
          have HQ8 := Lib.hid (HQ7.out.below hb8 HQ7.out.lt)
          have HST8 := Lib.hid (HST7.out.below hb8)
          have HB8 := Lib.hid (HB7.out.trans (hb8.mono HB7.out.size))
          clear z0 z1 hb8 HQ7 HST7 HB7 HY
          by_cases hy : y = n1
          · have zy : ((y : Int) == (n1 : Int)) = true := by rw [beq_iff_eq]; omega
            have hbe : b = b0 := by
              rcases Nat.lt_or_ge b b0 with q | q
              · have h1 := HA4.out b hb2' q
                rw [HRB.out, hy] at h1
                simp at h1
              · omega
            have HXR := Lib.hid (HRE.out hbe)
            have hq8 := HQ8.out
            rw [HXR.out] at hq8
            have u0 := hq8.cell 0
            have u1 := hq8.cell 1
            clear hy hbe HRB HRE
            have HSL := Lib.hid ((OwnA.lit (w := w8) (e := 117) (sz := 2) (enc := fE) (xs := [(n, rt)]) (fun x _ => rfl) (Nat.le_refl _) (by simp) (by simp)).sl)
            have HS9 := Lib.hid (HST8.out.alloc (.cells #[.int .u64 (n : Int), .int .u64 (rt : Int)] 117))
            have HB9 := Lib.hid (HB8.out.alloc HB8.out.size (.cells #[.int .u64 (n : Int), .int .u64 (rt : Int)] 117))
            have HRL := Lib.hid (show (fldL.take q0).length + [(n, rt)].length ≤ 1000000000 by rw [HLEN.out]; simp; omega)
            clear hq8
            go_wp2_with (at_builtin; go_loud (refine wpList_appA rfl elF (.tmp 36) (.tmp 38) 113 113 rfl Tryz.underlying113 Tryz.underlying113 rfl HS9.out rfl HSL.out HRL.out HB9.out.size ?_); go_loud (intro v' wa h1 h2 h3 h4; have HO := Lib.hid h1; have HBA := Lib.hid (HB9.out.trans h2); obtain ⟨Av, cv2, rfl⟩ := h1.form; clear h1 h2 h3 h4))
            go_roundg (295 - (j + 1))
            case measure => omega
            case rel =>
              have h1 := HO.out
              refine ⟨j + 1, by omega, rfl, by rw [HNP.out], by rw [HNX.out]; omega, ?_, HBA⟩
              rw [HNX.out, HA1.out]
              rw [show (fldL.take q0 ++ [(n, rt)]).length = min q0 fldL.length + 1 by simp] at h1
              exact h1
          · have zy : ((y : Int) == (n1 : Int)) = false := by rw [beq_eq_false_iff_ne]; omega
            have hbl : b < b0 := by
              rcases Nat.lt_or_ge b b0 with q | q
              · exact q
              · have e : b = b0 := by omega
                have h1 := HA3.out
                rw [← e, HRB.out] at h1
                exact absurd (beq_iff_eq.1 h1) hy
            have hb12 : b < 13 := by omega
            clear hy HRB HRE
            go_wp2_with fail
            go_roundg (b0 - (b + 1))
            case measure => omega
            case rel => exact ⟨b + 1, x, by omega, by omega, rfl, by go_num, HQ8.out, HST8, HB8⟩
    · have z1 : ¬ ((fldN j : Nat) : Int) < (K : Int) := by omega
      have HE := Lib.hid (show fldN j = K by omega)
      go_wp2_with fail
      go_ret
      exact ⟨_, rfl, by rw [← HE.out]; exact HST.out, HB.out⟩
end Go.Proofs.YtbkgpfalljgdcaaGreatDoor

namespace Go.Proofs.YtbkgpfalljgdcaaGreatDoor
open Go.RowKit
set_option linter.unusedVariables false

theorem SlA.fat {w : World} {A : Option Addr} {n c k : Nat} {l : List (Nat × Nat)} (h : SlA fE w (.slice A n c) l) (hk : k < l.length) : ∃ b o, A = some ⟨b, o, none⟩ ∧ n = l.length ∧ w.cell? ⟨b, o + k * 2, none⟩ = some (.int .u64 (l[k].1 : Nat)) ∧ w.cell? ⟨b, o + k * 2 + 1, none⟩ = some (.int .u64 (l[k].2 : Nat)) := by
  obtain ⟨A0, c0, hv, hc, hx⟩ := h
  injection hv with e1 e2 e3
  subst e1
  have q0 := flat_get (enc := fE) (sz := 2) (fun x => rfl) l k 0 hk (by omega)
  have q1 := flat_get (enc := fE) (sz := 2) (fun x => rfl) l k 1 hk (by omega)
  obtain ⟨b, o, rfl, h0⟩ := hx _ _ (q0.trans rfl)
  obtain ⟨b', o', hA, h1⟩ := hx _ _ (q1.trans rfl)
  injection hA with hA
  injection hA with hb ho
  subst hb; subst ho
  exact ⟨b, o, rfl, e2, h0, by rw [Nat.add_assoc]; exact h1⟩
theorem resA_length (p rt : Nat) (m : List (List (List TE))) (deg : Nat) : (resA p rt m deg).length = deg + 1 := by
  unfold resA
  rw [List.length_take, List.length_map, trF_length]
  have := lgN_gt deg
  omega
theorem resA_lt {p rt : Nat} (hp : 0 < p) (m : List (List (List TE))) (deg j : Nat) : gn (resA p rt m deg) j < p := by
  unfold gn resA
  rw [List.getElem?_take]
  split
  · rw [List.getElem?_map]
    cases (trF p (lgN deg) (valA p (rtF p rt (17 - lgN deg)) (2 ^ lgN deg) m) (fInv p (rtF p rt (17 - lgN deg))))[j]? with
    | none => exact hp
    | some x => exact Nat.mod_lt _ hp
  · exact hp
/-- what interpolated returns first, where it finds it -/
def itC (m : List (List (List TE))) (deg : Nat) : List Int := (resA 2305843009211596801 1681162619342215248 m deg).map (liftF 2305843009211596801)
theorem itC_length (m : List (List (List TE))) (deg : Nat) : (itC m deg).length = deg + 1 := by unfold itC; rw [List.length_map, resA_length]
theorem fldL_bd : (fldL.all fun t => decide (262144 < t.1) && decide (1125899906842624 < t.1) && decide (t.1 < 9223372036854775808) && decide (t.2 < t.1)) = true := by decide +kernel
theorem fldL_ok {k : Nat} (hk : k < fldL.length) : 262144 < fldL[k].1 ∧ 1125899906842624 < fldL[k].1 ∧ fldL[k].1 < 9223372036854775808 ∧ fldL[k].2 < fldL[k].1 := by
  have h := List.all_eq_true.1 fldL_bd fldL[k] (List.getElem_mem hk)
  simp only [Bool.and_eq_true, decide_eq_true_eq] at h
  exact ⟨h.1.1.1, h.1.1.2, h.1.2, h.2⟩
theorem fldL_len : fldL.length = 16 := by decide
/-- the number of fields -/
def cntF (m : List (List (List TE))) : Int := (max (wgtB m) 50 + 1) / 60 + 1
end Go.Proofs.YtbkgpfalljgdcaaGreatDoor
