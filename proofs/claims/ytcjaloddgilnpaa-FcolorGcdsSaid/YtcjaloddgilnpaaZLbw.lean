/- unravelref01.Label. -/
import Derived.Test.YtcjaloddgilnpaaZDia
import Derived.Test.YtcjaloddgilnpaaZBase2
import Derived.Test.YtcjaloddgilnpaaZArq
import Derived.KernelRfl
import Derived.OwnWalk
namespace Go.Proofs.Ytcjaloddgilnpaa
open Go.RowKit
set_option linter.unusedVariables false

/-- numbers as cells -/
def nc (l : List Nat) : List Value := l.map fun (k : Nat) => Value.int .i64 (k : Int)
theorem nc_get {l : List Nat} {k : Nat} (h : k < l.length) : (nc l)[k]? = some (.int .i64 (gn l k : Nat)) := by
  unfold nc gn; rw [List.getElem?_map, List.getElem?_eq_getElem h]; rfl
theorem nc_set (l : List Nat) (k x : Nat) : (nc l).set k (.int .i64 (x : Nat)) = nc (l.set k x) := by
  unfold nc; rw [List.map_set]
theorem mt_at {w : World} {A : Option Addr} {n c h : Nat} {M : List Int} (hM : Ints w (.slice A n c) M) (hh : h < M.length) (h0 : 0 ≤ M[h]) :
    ∃ b o, A = some ⟨b, o, none⟩ ∧ b < w.heap.size ∧ w.cell? ⟨b, o + h, none⟩ = some (.int .i64 (mt M h : Nat)) := by
  obtain ⟨b, o, hA, hb, hc⟩ := hM.at_ hh
  refine ⟨b, o, hA, hb, ?_⟩
  rw [hc, mt, List.getElem?_eq_getElem hh]
  simp only [Option.getD_some]
  rw [Int.toNat_of_nonneg h0]
/-- the list of the first k numbers, then zeros -/
def upto (n k : Nat) : List Nat := (List.range n).map fun i => if i < k then i else 0
theorem upto_zero (n : Nat) : nc (upto n 0) = List.replicate n (.int .i64 0) := by
  apply List.ext_getElem?
  intro i
  unfold nc upto
  simp [List.getElem?_replicate]
  by_cases h : i < n <;> simp [h]
theorem upto_all (n : Nat) : upto n n = List.range n := by
  apply List.ext_getElem?
  intro i
  unfold upto
  simp
  by_cases h : i < n <;> simp [h]
theorem upto_step {n k : Nat} (h : k < n) : (upto n k).set k k = upto n (k + 1) := by
  apply List.ext_getElem?
  intro i
  unfold upto
  rw [List.getElem?_set]
  by_cases e : k = i
  · subst e; simp [h]
  · simp [e]
    by_cases hi : i < n <;> simp [hi]
    split <;> split <;> omega
theorem upto_length (n k : Nat) : (upto n k).length = n := by simp [upto]

theorem info_int : (Try.prog.info? 3).map (fun i => (i.zero, i.size, i.bytes)) = some (some (.int .i64 0), 1, 8) := by kernel_rfl

set_option maxHeartbeats 2000000 in
theorem label_ref (vm : Value) (M : List Int) (n : Nat) (w : World) (hM : Ints w vm M) (hn : n ≤ 64) (hR : Rg M n) (h0 : ∀ h (hh : h < M.length), 0 ≤ M[h]) :
    Calls Try.prog 35 #[vm] w fun e w' => e = .returned (.slice (some ⟨w.heap.size, 0, none⟩) n n) ∧ Arr w' w.heap.size 3 (nc (labK M n n)) ∧ Below w.heap.size w w' := by
  obtain ⟨i0, hi0, hz0, hz1, hz2⟩ := info_parts info_int
  have hmk := fun W => run_make_one (P := Try.prog) 22 3 i0 (.int .i64 0) Try.underlying22 hi0 hz0 hz1 rfl (by rw [hz2]; decide) n (by omega) W
  clear hi0 hz0 hz1 hz2
  have e1 : (M.length : Int) / 4 = (n : Int) := by have := hR.1; omega
  have hl2 : M.length ≤ 256 := by have := hR.1; omega
  have HR := Lib.hid hR
  have H0 := Lib.hid h0
  clear h0 hR
  have hM0 := hM
  obtain ⟨A, c, rfl, hc, hh⟩ := hM
  clear hh
  go_enter Try.func35, Try.ntmps35
  go_wp2_with fail
  have hW : Arr (w.alloc (.cells (rowOf (List.replicate n (Value.int .i64 0))) 3)) w.heap.size 3 (nc (upto n 0)) ∧ Below w.heap.size w (w.alloc (.cells (rowOf (List.replicate n (Value.int .i64 0))) 3)) :=
    ⟨by rw [upto_zero]; exact Arr.new w _ _, (Below.refl _ _).alloc (Nat.le_refl _) _⟩
  clear hmk
  generalize w.alloc (.cells (rowOf (List.replicate n (Value.int .i64 0))) 3) = w4 at hW ⊢
  obtain ⟨a0, hb4⟩ := hW
  go_loopg [5] n (fun gk s5 wr => ∃ k : Nat, k ≤ n ∧ gk = n - k ∧ s5 = .int .i64 (k : Int) ∧ Arr wr w.heap.size 3 (nc (upto n k)) ∧ Below w.heap.size w wr)
  case atStart => exact ⟨0, Nat.zero_le _, rfl, rfl, a0, hb4⟩
  case round =>
    clear a0 hb4
    obtain ⟨k, hk, rfl, rfl, a0, hb4⟩ := hrel
    by_cases hlt : k < n
    · have z1 : (k : Int) < (n : Int) := by omega
      have zc := (a0.cell k).trans (nc_get (by rw [upto_length]; exact hlt))
      have zf := a0.frozen k
      go_wp2_with fail
      go_roundg (n - (k + 1))
      case measure => omega
      case rel => exact ⟨k + 1, by omega, rfl, by go_num, by rw [← upto_step hlt, ← nc_set]; exact a0.set k _, hb4.setCell (p := ⟨w.heap.size, k, none⟩) (Nat.le_refl _) _⟩
    · have z1 : ¬ ((k : Int) < (n : Int)) := by omega
      have a1 : Arr wr w.heap.size 3 (nc (labK M n 0)) := by
        have hkn : k = n := by omega
        rw [hkn, upto_all] at a0; exact a0
      clear a0
      go_wp2_with fail
      obtain ⟨wo, rfl⟩ : ∃ wo : World, wo = wr := ⟨_, rfl⟩
      go_loopg [6, 7, 8, 9, 10] n (fun gk s6 s7 s8 s9 s10 wi => ∃ t : Nat, t ≤ n ∧ gk = n - t ∧ s6 = .int .i64 (t : Int) ∧ Arr wi w.heap.size 3 (nc (labK M n t)) ∧ Below w.heap.size w wi)
      case atStart => exact ⟨0, Nat.zero_le _, rfl, rfl, a1, hb4⟩
      case round =>
        clear a1 hb4 z1 hlt hk
        obtain ⟨t, ht, rfl, rfl, a1, hb4⟩ := hrel
        by_cases hlt : t < n
        · have z1 : (t : Int) < (n : Int) := by omega
          go_wp2_with fail
          obtain ⟨wp, rfl⟩ : ∃ wp : World, wp = wr := ⟨_, rfl⟩
          have a2 : Arr wp w.heap.size 3 (nc (passK M (labK M n t) 0)) := a1
          have ll := labK_length M n t
          clear a1
          go_loopg [7, 8, 9, 10] M.length (fun gk s7 s8 s9 s10 wi => ∃ h : Nat, h ≤ M.length ∧ gk = M.length - h ∧ s7 = .int .i64 (h : Int) ∧ Arr wi w.heap.size 3 (nc (passK M (labK M n t) h)) ∧ Below w.heap.size w wi)
          case atStart => exact ⟨0, Nat.zero_le _, rfl, rfl, a2, hb4⟩
          case round =>
            clear a2 hb4
            obtain ⟨h, hh, rfl, rfl, a1, hb4⟩ := hrel
            by_cases hlt2 : h < M.length
            · have z2 : (h : Int) < (M.length : Int) := by omega
              obtain ⟨b, o, rfl, hbl, hcell⟩ := mt_at (hM0.below hb4) hlt2 (H0.out h hlt2)
              have hln : (passK M (labK M n t) h).length = n := by rw [passK_length]; exact ll
              have hst := Lib.hid (show passK M (labK M n t) (h + 1) = opL M (passK M (labK M n t) h) h from rfl)
              have hml : mt M h < 4 * n := HR.out.2 h (by have := HR.out.1; omega)
              have hhl : h < 4 * n := by have := HR.out.1; omega
              rw [opL] at hst
              generalize passK M (labK M n t) h = l at *
              generalize mt M h = m at *
              have d1 : (h : Int) / 4 = ((h / 4 : Nat) : Int) := by omega
              have d2 : (m : Int) / 4 = ((m / 4 : Nat) : Int) := by omega
              have b1 : h / 4 < n := by omega
              have b2 : m / 4 < n := by omega
              generalize h / 4 = q at *
              generalize m / 4 = r at *
              have c1 := (a1.cell q).trans (nc_get (by omega))
              have c2 := (a1.cell r).trans (nc_get (by omega))
              have f1 := a1.frozen q
              have f2 := a1.frozen r
              have y1 : (q : Int) < (n : Int) := by omega
              have y2 : (r : Int) < (n : Int) := by omega
              have dm : min (gn l q : Int) (gn l r : Int) = ((min (gn l q) (gn l r) : Nat) : Int) := by omega
              generalize gn l q = x at *
              generalize gn l r = y at *
              by_cases hqr : q = r
              · subst hqr
                have hxy : x = y := by rw [c1] at c2; simp at c2; omega
                subst hxy
                have hy' : x ≤ x := Nat.le_refl _
                clear dm
                go_upto_region 13 with fail
                go_quiet (fail)
                go_upto_region 14 with fail
                go_quiet (fail)
                go_wp2_with fail
                go_roundg (M.length - (h + 1))
                case measure => omega
                case rel => exact ⟨h + 1, by omega, rfl, by go_num, by rw [hst.out, Nat.min_self, ← nc_set, ← nc_set]; exact ((a1.drewN _).set q _).set q _, bset2 (bdrewN hb4 _) (Nat.le_refl _)⟩
              · have hrq : ¬ r = q := fun e => hqr e.symm
                by_cases hyx : y < x
                · have hy' : ¬ (x ≤ y) := by omega
                  clear dm
                  go_upto_region 13 with fail
                  go_quiet (fail)
                  go_upto_region 14 with fail
                  go_quiet (fail)
                  go_wp2_with fail
                  go_roundg (M.length - (h + 1))
                  case measure => omega
                  case rel => exact ⟨h + 1, by omega, rfl, by go_num, by rw [hst.out, Nat.min_eq_right (Nat.le_of_lt hyx), ← nc_set, ← nc_set]; exact ((a1.drewN _).set q _).set r _, bset2 (bdrewN hb4 _) (Nat.le_refl _)⟩
                · have hy' : x ≤ y := by omega
                  clear dm
                  go_upto_region 13 with fail
                  go_quiet (fail)
                  go_upto_region 14 with fail
                  go_quiet (fail)
                  go_wp2_with fail
                  go_roundg (M.length - (h + 1))
                  case measure => omega
                  case rel => exact ⟨h + 1, by omega, rfl, by go_num, by rw [hst.out, Nat.min_eq_left hy', ← nc_set, ← nc_set]; exact ((a1.drewN _).set q _).set r _, bset2 (bdrewN hb4 _) (Nat.le_refl _)⟩
            · have z2 : ¬ ((h : Int) < (M.length : Int)) := by omega
              have a3 : Arr wr w.heap.size 3 (nc (labK M n (t + 1))) := by
                have e : h = M.length := by omega
                rw [e] at a1; exact a1
              clear a1
              go_wp2_with fail
              go_roundg (n - (t + 1))
              case measure => omega
              case rel => exact ⟨t + 1, by omega, rfl, by go_num, a3, hb4⟩
        · have z1 : ¬ ((t : Int) < (n : Int)) := by omega
          have htn : t = n := by omega
          clear hlt
          go_wp2_with fail
          go_ret
          exact ⟨rfl, by rw [htn] at a1; exact a1, hb4⟩
end Go.Proofs.Ytcjaloddgilnpaa
