/- unravelref22.Arcs. -/
import Derived.Test.YtcjaloddgilnpaaZCyo
import Derived.Test.YtcjaloddgilnpaaZQue
namespace Go.Proofs.Ytcjaloddgilnpaa
open Go.RowKit
set_option linter.unusedVariables false

theorem numA_zero (l : List Nat) (n : Nat) : nc (numA l n 0) = List.replicate n (.int .i64 0) := by
  apply List.ext_getElem?
  intro i
  unfold nc numA
  simp [List.getElem?_replicate]
  by_cases h : i < n <;> simp [h]
theorem labA_idem {M : List Int} {n k : Nat} (hR : Rh M n) (h : k < n) : gn (labA M n n) (gn (labA M n n) k) = gn (labA M n n) k := by
  have h1 := labA_conn hR n k h
  have h2 := labA_least hR h (.refl k)
  have h3 : gn (labA M n n) k < n := by omega
  have h4 := labA_conn hR n _ h3
  have h5 := labA_least hR h3 (.refl _)
  have h6 : gn (labA M n n) (gn (labA M n n) k) < n := by omega
  have h7 := labA_least hR h6 (h4.trans h1)
  omega
theorem turnN_two (h : Nat) : turnN h 2 = opp h := rfl

set_option maxHeartbeats 2000000 in
theorem arcs_ref (vs vm : Value) (L : Int) (M : List Int) (w : World) (hM : Ints w vm M) (hn : M.length ≤ 256) (hR : Rh M M.length) (h0 : ∀ h (hh : h < M.length), 0 ≤ M[h]) :
    Calls Try.prog 40 #[.agg #[vs, vm, .int .i64 L]] w fun e w' => ∃ g, e = .returned (.tuple #[.slice (some ⟨g, 0, none⟩) M.length M.length, .int .i64 (rk (labA M M.length M.length) M.length : Nat)]) ∧ w.heap.size ≤ g ∧ Arr w' g 3 (nc (numA (labA M M.length M.length) M.length M.length)) ∧ Below w.heap.size w w' := by
  obtain ⟨i0, hi0, hz0, hz1, hz2⟩ := info_parts info_int
  have hmk := fun W => run_make_one (P := Try.prog) 22 3 i0 (.int .i64 0) Try.underlying22 hi0 hz0 hz1 rfl (by rw [hz2]; decide) M.length (by omega) W
  clear hi0 hz0 hz1 hz2
  have HR := Lib.hid hR
  have H0 := Lib.hid h0
  clear h0 hR
  have hM0 := hM
  obtain ⟨A, c, rfl, hc, hh⟩ := hM
  clear hh
  go_enter Try.func40, Try.ntmps40
  go_upto_region 1 with fail
  have hW : Arr (w.alloc (.cells #[vs, .slice A M.length c, .int .i64 L] 24)) w.heap.size 24 [vs, .slice A M.length c, .int .i64 L] ∧ Below w.heap.size w (w.alloc (.cells #[vs, .slice A M.length c, .int .i64 L] 24)) := ⟨Arr.new w _ _, (Below.refl _ _).alloc (Nat.le_refl _) _⟩
  generalize (w.alloc (.cells #[vs, .slice A M.length c, .int .i64 L] 24)) = w4 at hW ⊢
  obtain ⟨q0, hb4⟩ := hW
  have y0 := q0.cell 1
  go_wp2_with fail
  have hW : Arr (w4.alloc (.cells (rowOf (List.replicate M.length (Value.int .i64 0))) 3)) w4.heap.size 3 (nc (upto M.length 0)) ∧ Arr (w4.alloc (.cells (rowOf (List.replicate M.length (Value.int .i64 0))) 3)) w.heap.size 24 [vs, .slice A M.length c, .int .i64 L] ∧ Below w.heap.size w (w4.alloc (.cells (rowOf (List.replicate M.length (Value.int .i64 0))) 3)) :=
    ⟨by rw [upto_zero]; exact Arr.new w4 _ _, q0.alloc _, hb4.alloc hb4.size _⟩
  have lw := q0.lt
  clear y0 q0 hb4
  generalize hB : w4.heap.size = B at *
  generalize w4.alloc (.cells (rowOf (List.replicate M.length (Value.int .i64 0))) 3) = w5 at hW ⊢
  clear hB
  obtain ⟨a0, p0, hb5⟩ := hW
  go_loopg [6] M.length (fun gk s6 wr => ∃ k : Nat, k ≤ M.length ∧ gk = M.length - k ∧ s6 = .int .i64 (k : Int) ∧ Arr wr B 3 (nc (upto M.length k)) ∧ Arr wr w.heap.size 24 [vs, .slice A M.length c, .int .i64 L] ∧ Below w.heap.size w wr)
  case atStart => exact ⟨0, Nat.zero_le _, rfl, rfl, a0, p0, hb5⟩
  case round =>
    clear a0 p0 hb5
    obtain ⟨k, hk, rfl, rfl, a0, p0, hb5⟩ := hrel
    by_cases hlt : k < M.length
    · have z1 : (k : Int) < (M.length : Int) := by omega
      have zc := (a0.cell k).trans (nc_get (by rw [upto_length]; exact hlt))
      have zf := a0.frozen k
      go_wp2_with fail
      go_roundg (M.length - (k + 1))
      case measure => omega
      case rel => exact ⟨k + 1, by omega, rfl, by go_num, by rw [← upto_step hlt, ← nc_set]; exact a0.set k _, p0.far (p := ⟨B, k, none⟩) (Nat.ne_of_lt lw) _, hb5.setCell (p := ⟨B, k, none⟩) (Nat.le_of_lt lw) _⟩
    · have z1 : ¬ ((k : Int) < (M.length : Int)) := by omega
      have a1 : Arr wr B 3 (nc (labA M M.length 0)) := by
        have hkn : k = M.length := by omega
        rw [hkn, upto_all] at a0; exact a0
      clear a0
      go_wp2_with fail
      obtain ⟨wo, rfl⟩ : ∃ wo : World, wo = wr := ⟨_, rfl⟩
      go_loopg [7, 8, 9] M.length (fun gk s7 s8 s9 wi => ∃ t : Nat, t ≤ M.length ∧ gk = M.length - t ∧ s7 = .int .i64 (t : Int) ∧ Arr wi B 3 (nc (labA M M.length t)) ∧ Arr wi w.heap.size 24 [vs, .slice A M.length c, .int .i64 L] ∧ Below w.heap.size w wi)
      case atStart => exact ⟨0, Nat.zero_le _, rfl, rfl, a1, p0, hb5⟩
      case round =>
        clear a1 p0 hb5 z1 hlt hk
        obtain ⟨t, ht, rfl, rfl, a1, p0, hb5⟩ := hrel
        by_cases hlt : t < M.length
        · have z1 : (t : Int) < (M.length : Int) := by omega
          go_wp2_with fail
          obtain ⟨wp, rfl⟩ : ∃ wp : World, wp = wr := ⟨_, rfl⟩
          have a2 : Arr wp B 3 (nc (passA M (labA M M.length t) 0)) := a1
          have ll := labA_length M M.length t
          clear a1
          go_loopg [8, 9] M.length (fun gk s8 s9 wi => ∃ h : Nat, h ≤ M.length ∧ gk = M.length - h ∧ s8 = .int .i64 (h : Int) ∧ Arr wi B 3 (nc (passA M (labA M M.length t) h)) ∧ Arr wi w.heap.size 24 [vs, .slice A M.length c, .int .i64 L] ∧ Below w.heap.size w wi)
          case atStart => exact ⟨0, Nat.zero_le _, rfl, rfl, a2, p0, hb5⟩
          case round =>
            clear a2 p0 hb5
            obtain ⟨h, hh, rfl, rfl, a1, p0, hb5⟩ := hrel
            by_cases hlt2 : h < M.length
            · have z2 : (h : Int) < (M.length : Int) := by omega
              obtain ⟨b, o, rfl, hbl, hcell⟩ := mt_at (hM0.below hb5) hlt2 (H0.out h hlt2)
              have hln : (passA M (labA M M.length t) h).length = M.length := by rw [passA_length]; exact ll
              have hst := Lib.hid (show passA M (labA M M.length t) (h + 1) = (passA M (labA M M.length t) h).set h (lowA M (passA M (labA M M.length t) h) h) from rfl)
              have hml : mt M h < M.length := HR.out.2 h hlt2
              have hol : opp h < M.length := opp_lt HR.out hlt2
              rw [lowA] at hst
              generalize passA M (labA M M.length t) h = l at *
              generalize mt M h = m at *
              have y0 := p0.cell 1
              have c1 := (a1.cell h).trans (nc_get (by omega))
              have c2 := (a1.cell m).trans (nc_get (by omega))
              have c3 := (a1.cell (opp h)).trans (nc_get (by omega))
              have f1 := a1.frozen h
              have y2 : (m : Int) < (M.length : Int) := by omega
              have y3 : ((opp h : Nat) : Int) < (M.length : Int) := by omega
              generalize gn l h = x at *
              generalize gn l m = y at *
              generalize gn l (opp h) = z at *
              by_cases hodd : h % 2 = 1
              · have o1 : (h : Int) % 2 = 1 := by omega
                by_cases hyx : y < x
                · have hy' : ¬ (x ≤ y) := by omega
                  by_cases hzv : z < y
                  · have hz' : ¬ (y ≤ z) := by omega
                    go_upto_region 13 with fail
                    go_quiet (fail)
                    go_wp2_with (go_at_call 64; refine (turn2_ref h _ (by omega)).mono ?_; rintro e w9 ⟨rfl, rfl⟩; rw [turnN_two])
                    go_roundg (M.length - (h + 1))
                    case measure => omega
                    case rel => exact ⟨h + 1, by omega, rfl, by go_num, by rw [hst.out, if_pos hodd, Nat.min_eq_right (Nat.le_of_lt hyx), Nat.min_eq_right (Nat.le_of_lt hzv), ← nc_set]; exact (a1.drewN _).set h _, (p0.drewN _).far (p := ⟨B, h, none⟩) (Nat.ne_of_lt lw) _, (bdrewN hb5 _).setCell (p := ⟨B, h, none⟩) (Nat.le_of_lt lw) _⟩
                  · have hz' : y ≤ z := by omega
                    go_upto_region 13 with fail
                    go_quiet (fail)
                    go_wp2_with (go_at_call 64; refine (turn2_ref h _ (by omega)).mono ?_; rintro e w9 ⟨rfl, rfl⟩; rw [turnN_two])
                    go_roundg (M.length - (h + 1))
                    case measure => omega
                    case rel => exact ⟨h + 1, by omega, rfl, by go_num, by rw [hst.out, if_pos hodd, Nat.min_eq_right (Nat.le_of_lt hyx), Nat.min_eq_left hz', ← nc_set]; exact (a1.drewN _).set h _, (p0.drewN _).far (p := ⟨B, h, none⟩) (Nat.ne_of_lt lw) _, (bdrewN hb5 _).setCell (p := ⟨B, h, none⟩) (Nat.le_of_lt lw) _⟩
                · have hy' : x ≤ y := by omega
                  by_cases hzv : z < x
                  · have hz' : ¬ (x ≤ z) := by omega
                    go_upto_region 13 with fail
                    go_quiet (fail)
                    go_wp2_with (go_at_call 64; refine (turn2_ref h _ (by omega)).mono ?_; rintro e w9 ⟨rfl, rfl⟩; rw [turnN_two])
                    go_roundg (M.length - (h + 1))
                    case measure => omega
                    case rel => exact ⟨h + 1, by omega, rfl, by go_num, by rw [hst.out, if_pos hodd, Nat.min_eq_left hy', Nat.min_eq_right (Nat.le_of_lt hzv), ← nc_set]; exact (a1.drewN _).set h _, (p0.drewN _).far (p := ⟨B, h, none⟩) (Nat.ne_of_lt lw) _, (bdrewN hb5 _).setCell (p := ⟨B, h, none⟩) (Nat.le_of_lt lw) _⟩
                  · have hz' : x ≤ z := by omega
                    go_upto_region 13 with fail
                    go_quiet (fail)
                    go_wp2_with (go_at_call 64; refine (turn2_ref h _ (by omega)).mono ?_; rintro e w9 ⟨rfl, rfl⟩; rw [turnN_two])
                    go_roundg (M.length - (h + 1))
                    case measure => omega
                    case rel => exact ⟨h + 1, by omega, rfl, by go_num, by rw [hst.out, if_pos hodd, Nat.min_eq_left hy', Nat.min_eq_left hz', ← nc_set]; exact (a1.drewN _).set h _, (p0.drewN _).far (p := ⟨B, h, none⟩) (Nat.ne_of_lt lw) _, (bdrewN hb5 _).setCell (p := ⟨B, h, none⟩) (Nat.le_of_lt lw) _⟩
              · have o1 : (h : Int) % 2 = 0 := by omega
                by_cases hyx : y < x
                · have hy' : ¬ (x ≤ y) := by omega
                  go_upto_region 13 with fail
                  go_quiet (fail)
                  go_wp2_with fail
                  go_roundg (M.length - (h + 1))
                  case measure => omega
                  case rel => exact ⟨h + 1, by omega, rfl, by go_num, by rw [hst.out, if_neg hodd, Nat.min_eq_right (Nat.le_of_lt hyx), ← nc_set]; exact (a1.drewN _).set h _, (p0.drewN _).far (p := ⟨B, h, none⟩) (Nat.ne_of_lt lw) _, (bdrewN hb5 _).setCell (p := ⟨B, h, none⟩) (Nat.le_of_lt lw) _⟩
                · have hy' : x ≤ y := by omega
                  go_upto_region 13 with fail
                  go_quiet (fail)
                  go_wp2_with fail
                  go_roundg (M.length - (h + 1))
                  case measure => omega
                  case rel => exact ⟨h + 1, by omega, rfl, by go_num, by rw [hst.out, if_neg hodd, Nat.min_eq_left hy', ← nc_set]; exact (a1.drewN _).set h _, (p0.drewN _).far (p := ⟨B, h, none⟩) (Nat.ne_of_lt lw) _, (bdrewN hb5 _).setCell (p := ⟨B, h, none⟩) (Nat.le_of_lt lw) _⟩
            · have z2 : ¬ ((h : Int) < (M.length : Int)) := by omega
              have a3 : Arr wr B 3 (nc (labA M M.length (t + 1))) := by
                have e : h = M.length := by omega
                rw [e] at a1; exact a1
              clear a1
              go_wp2_with fail
              go_roundg (M.length - (t + 1))
              case measure => omega
              case rel => exact ⟨t + 1, by omega, rfl, by go_num, a3, p0, hb5⟩
        · have z1 : ¬ ((t : Int) < (M.length : Int)) := by omega
          have htn : t = M.length := by omega
          clear hlt
          go_wp2_with fail
          have a2 : Arr wr B 3 (nc (labA M M.length M.length)) := by rw [htn] at a1; exact a1
          clear a1
          have hW : Arr (wr.alloc (.cells (rowOf (List.replicate M.length (Value.int .i64 0))) 3)) wr.heap.size 3 (nc (numA (labA M M.length M.length) M.length 0)) ∧ Arr (wr.alloc (.cells (rowOf (List.replicate M.length (Value.int .i64 0))) 3)) B 3 (nc (labA M M.length M.length)) ∧ Below w.heap.size w (wr.alloc (.cells (rowOf (List.replicate M.length (Value.int .i64 0))) 3)) :=
            ⟨by rw [numA_zero]; exact Arr.new wr _ _, a2.alloc _, hb5.alloc hb5.size _⟩
          have lB := a2.lt
          have lW := hb5.size
          have ll := labA_length M M.length M.length
          have G1 := Lib.hid (fun k (h : k < M.length) => labA_least HR.out h (.refl k))
          have G2 := Lib.hid (fun k (h : k < M.length) => labA_idem HR.out h)
          clear a2 p0 hb5 hmk
          generalize hC : wr.heap.size = C at *
          generalize wr.alloc (.cells (rowOf (List.replicate M.length (Value.int .i64 0))) 3) = w6 at hW ⊢
          clear hC
          obtain ⟨l, hl⟩ : ∃ l, l = labA M M.length M.length := ⟨_, rfl⟩
          rw [← hl] at hW ll G1 G2
          have HL := Lib.hid hl
          clear hl
          obtain ⟨a3, a2, hb6⟩ := hW
          go_loopg [10, 12] M.length (fun gk s10 s12 wi => ∃ k : Nat, k ≤ M.length ∧ gk = M.length - k ∧ s10 = .int .i64 (rk l k : Nat) ∧ s12 = .int .i64 (k : Int) ∧ Arr wi C 3 (nc (numA l M.length k)) ∧ Arr wi B 3 (nc l) ∧ Below w.heap.size w wi)
          case atStart => exact ⟨0, Nat.zero_le _, rfl, rfl, rfl, a3, a2, hb6⟩
          case round =>
            clear a3 a2 hb6
            obtain ⟨k, hk, rfl, rfl, rfl, a3, a2, hb6⟩ := hrel
            by_cases hlt3 : k < M.length
            · have z3 : (k : Int) < (M.length : Int) := by omega
              have c1 := (a2.cell k).trans (nc_get (by omega))
              have c2 := (a3.cell k).trans (nc_get (by rw [numA_length]; exact hlt3))
              have f2 := a3.frozen k
              have hrk := rk_le l k
              have g1 := G1.out k hlt3
              by_cases hx : gn l k = k
              · have hst := Lib.hid (numA_step (l := l) hlt3)
                have hr1 := Lib.hid (show rk l (k + 1) = rk l k + 1 by rw [rk, if_pos hx])
                rw [hx] at c1 hst
                clear hx g1
                generalize rk l k = R at *
                go_wp2_with fail
                go_roundg (M.length - (k + 1))
                case measure => omega
                case rel => exact ⟨k + 1, by omega, rfl, by rw [hr1.out]; go_num, by go_num, by rw [← hst.out, ← nc_set]; exact a3.set k _, a2.far (p := ⟨C, k, none⟩) (Nat.ne_of_lt lB) _, hb6.setCell (p := ⟨C, k, none⟩) lW _⟩
              · have hst := Lib.hid (numA_step (l := l) hlt3)
                have hr1 := Lib.hid (show rk l (k + 1) = rk l k by rw [rk, if_neg hx])
                have c3 := (a3.cell (gn l k)).trans (nc_get (by rw [numA_length]; omega))
                rw [numA_old hlt3 (by omega) (G2.out k hlt3)] at c3
                generalize rk l (gn l k) = Q at *
                generalize gn l k = j at *
                have d1 : ((j : Int) == (k : Int)) = false := by simp; omega
                have d2 : (j : Int) < (M.length : Int) := by omega
                go_wp2_with fail
                go_roundg (M.length - (k + 1))
                case measure => omega
                case rel => exact ⟨k + 1, by omega, rfl, by rw [hr1.out], by go_num, by rw [← hst.out, ← nc_set]; exact a3.set k _, a2.far (p := ⟨C, k, none⟩) (Nat.ne_of_lt lB) _, hb6.setCell (p := ⟨C, k, none⟩) lW _⟩
            · have z3 : ¬ ((k : Int) < (M.length : Int)) := by omega
              have hkn : k = M.length := by omega
              rw [hkn] at a3
              clear hlt3
              go_wp2_with fail
              go_ret2
              exact ⟨C, by rw [← HL.out]; rfl, lW, by rw [← HL.out]; exact a3, hb6⟩
end Go.Proofs.Ytcjaloddgilnpaa
