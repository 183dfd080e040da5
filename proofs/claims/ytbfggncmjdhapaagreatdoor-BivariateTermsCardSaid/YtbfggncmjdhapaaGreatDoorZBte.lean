/- bivariate.Terms. -/
import Derived.Test.YtbfggncmjdhapaaGreatDoorZBpl
import Derived.Test.YtbfggncmjdhapaaGreatDoorZBeq
namespace Go.Proofs.YtbfggncmjdhapaaGreatDoor
open Go.RowKit Go.Maps
set_option linter.unusedVariables false

theorem info_3 : (Tryz.prog.info? 98).map (fun i => (i.zero, i.size, i.bytes)) = some (some (.agg #[.int .i64 0, .int .i64 0, .int .i64 0]), 3, 24) := by kernel_rfl
theorem el3 : ElA Tryz.prog 98 3 tB where
  ex := by
    obtain ⟨i, hi, hz, hs, hb⟩ := info_parts info_3
    exact ⟨i, _, 24, hi, hz, hs, hb, rfl, by omega⟩
  pos := by omega
  len := fun x => rfl
  one := fun x q h => by unfold tB at h; simp at h; rcases h with rfl | rfl | rfl <;> rfl
/-- a list of terms as Terms returns it -/
abbrev Own3 (base : Nat) (w : World) (v : Value) (l : List T2) : Prop := OwnA 98 3 tB base w v l
theorem run_make3 (n : Nat) (hn : n ≤ 10000000) (W : World) : ∃ cs, (Instr.makeSlice 59 (.int .i64 0) (.int .i64 (n : Int))).run Tryz.prog W = .ok (.slice (some ⟨W.heap.size, 0, none⟩) 0 n) (W.alloc (.cells cs 98)) ∧ cs.size = n * 3 := by
  obtain ⟨i, hi, hz, hs, hby⟩ := info_parts info_3
  have h := run_make (P := Tryz.prog) W 59 98 i _ Tryz.underlying59 hi hz .i64 .i64 0 (n : Int) (Int.le_refl _) (by omega) (by rw [hby]; omega) (by omega)
  refine ⟨_, h, ?_⟩
  rw [size_madeCells, hs]; omega
theorem Own3.made {w : World} {base n : Nat} {cs : Array Value} (hb : base ≤ w.heap.size) (hn : n ≤ 10000000) (hc : cs.size = n * 3) : Own3 base (w.alloc (.cells cs 98)) (.slice (some ⟨w.heap.size, 0, none⟩) 0 n) [] :=
  ⟨rfl, .inr ⟨w.heap.size, n, cs, rfl, hb, heap_alloc_new w _, Nat.zero_le _, by unfold maxLen; omega, by omega, by simp⟩⟩
theorem sl3_one (w : World) (a z c : Int) : SlA tB (w.alloc (.cells #[.int .i64 a, .int .i64 z, .int .i64 c] 98)) (.slice (some ⟨w.heap.size, 0, none⟩) 1 1) [((a, z), c)] := (OwnA.lit (w := w) (e := 98) (sz := 3) (enc := tB) (xs := [((a, z), c)]) (fun x _ => rfl) (Nat.le_refl _) (by simp) (by simp)).sl
set_option maxHeartbeats 4000000 in
set_option maxRecDepth 100000 in
theorem Terms_any (vp : Value) (p : PolB) (w : World) (hp : PolyB w vp p) (hl : lenB p ≤ 1000000) :
    Calls Tryz.prog 30 #[vp] w fun e w' => ∃ v, e = .returned v ∧ Own3 w.heap.size w' v (p.getD []) ∧ Below w.heap.size w w' := by
  have hl2 : (p.getD []).length ≤ 1000000 := hl
  obtain ⟨A, c, rfl, hx⟩ := hp
  have HX := Lib.hid (fun W (hb : Below w.heap.size w W) => hx.below hb)
  clear hx hl
  generalize p.isNone = b1 at *
  generalize p.getD [] = l at *
  have hW : ∀ W, W = w.alloc (.cells #[.bool b1, .slice A l.length c] 27) → Arr W w.heap.size 27 [.bool b1, .slice A l.length c] ∧ Below w.heap.size w W := by
    intro W hW
    subst hW
    exact ⟨Arr.new _ _ [_, _], (Below.refl _ _).alloc (Nat.le_refl _) _⟩
  go_enter Tryz.func30, Tryz.ntmps30
  go_upto_region 1 with fail
  generalize w.alloc (.cells #[.bool b1, .slice A l.length c] 27) = w3 at hW ⊢
  obtain ⟨qp, hb3⟩ := hW w3 rfl
  clear hW
  have y1 := qp.cell 1
  obtain ⟨cs, hmk, hcs⟩ := run_make3 l.length (by omega) w3
  have hst : Own3 w.heap.size (w3.alloc (.cells cs 98)) (.slice (some ⟨w3.heap.size, 0, none⟩) 0 l.length) [] := Own3.made hb3.size (by omega) hcs
  have y2 := (qp.alloc (.cells cs 98)).cell 1
  have hb4 := hb3.alloc hb3.size (.cells cs 98)
  clear qp hcs
  go_upto_region 2 with fail
  generalize w3.alloc (.cells cs 98) = w4 at *
  clear hmk y1 hb3
  go_wp2_with fail
  go_loopg [3, 13] l.length (fun gk s3 s13 wr => ∃ k : Nat, k ≤ l.length ∧ gk = l.length - k ∧ s13 = .int .i64 (k : Int) ∧ Own3 w.heap.size wr s3 (l.take k) ∧ Below w.heap.size w wr)
  case atStart => exact ⟨0, Nat.zero_le _, rfl, rfl, hst, hb4⟩
  case round =>
    clear hst y2 hb4
    obtain ⟨k, hk, rfl, rfl, hst, hbr⟩ := hrel
    by_cases hlt : k < l.length
    · have z1 : (k : Int) < (l.length : Int) := by omega
      obtain ⟨b, o, rfl, hnn, y0, y1, y2⟩ := (HX.out wr hbr).at_ hlt
      clear hnn
      have HL := Lib.hid (show l.take (k + 1) = l.take k ++ [l[k]] by rw [take_snocB hlt])
      have hrl : (l.take k).length ≤ 1000000 := by simp; omega
      generalize l[k] = t at *
      obtain ⟨⟨t1, t2⟩, t3⟩ := t
      dsimp only at *
      generalize l.take k = R at *
      have HSTa := Lib.hid (hst.below ((Below.refl _ _).alloc (Nat.le_refl _) (.cells #[.int .i64 t1, .int .i64 t2, .int .i64 t3] 65)))
      have HBa := Lib.hid (hbr.alloc hbr.size (.cells #[.int .i64 t1, .int .i64 t2, .int .i64 t3] 65))
      have HQT := Lib.hid (Arr.new wr 65 [.int .i64 t1, .int .i64 t2, .int .i64 t3])
      obtain ⟨As, csx, rfl⟩ := hst.form
      clear hst
      go_upto_region 5 with fail
      have hqt : Arr (wr.alloc (.cells #[.int .i64 t1, .int .i64 t2, .int .i64 t3] 65)) wr.heap.size 65 [.int .i64 t1, .int .i64 t2, .int .i64 t3] := HQT.out
      obtain ⟨g, hg⟩ : ∃ g, g = wr.heap.size := ⟨_, rfl⟩
      generalize (wr.alloc (.cells #[.int .i64 t1, .int .i64 t2, .int .i64 t3] 65)) = w5 at *
      rw [← hg] at hqt ⊢
      have x0 := hqt.cell 0
      have x1 := hqt.cell 1
      have x2 := hqt.cell 2
      clear y0 y1 y2 HQT hqt hg hbr
      have HSL := Lib.hid (sl3_one w5 t1 t2 t3)
      have HS7 := Lib.hid (HSTa.out.below ((Below.refl _ _).alloc (Nat.le_refl _) (.cells #[.int .i64 t1, .int .i64 t2, .int .i64 t3] 98)))
      have HSZ := Lib.hid (show w.heap.size ≤ (w5.alloc (.cells #[.int .i64 t1, .int .i64 t2, .int .i64 t3] 98)).heap.size by have := HBa.out.size; simp; omega)
      have HB7 := Lib.hid (HBa.out.alloc HBa.out.size (.cells #[.int .i64 t1, .int .i64 t2, .int .i64 t3] 98))
      have HRL := Lib.hid (show R.length + [((t1, t2), t3)].length ≤ 1000000000 by simp; omega)
      clear HSTa HBa
      go_wp2_with (at_builtin; go_loud (refine wpList_appA rfl el3 (.tmp 17) (.tmp 25) 59 59 rfl Tryz.underlying59 Tryz.underlying59 rfl HS7.out rfl HSL.out HRL.out HSZ.out ?_); go_loud (intro v' w8 h1 h2 h3 h4; have HO := Lib.hid h1; have HB8 := Lib.hid (HB7.out.trans h2); obtain ⟨Av, cv2, rfl⟩ := h1.form; clear h1 h2 h3 h4))
      go_roundg (l.length - (k + 1))
      case measure => omega
      case rel =>
        have h1 := HO.out
        rw [show (R ++ [((t1, t2), t3)]).length = R.length + 1 by simp] at h1
        exact ⟨k + 1, by omega, rfl, by go_num, by rw [HL.out]; exact h1, HB8.out⟩
    · have z1 : ¬ (k : Int) < (l.length : Int) := by omega
      have hkk : l.take k = l := List.take_of_length_le (by omega)
      rw [hkk] at hst
      have HST := Lib.hid hst
      have HB := Lib.hid hbr
      clear hst hbr hkk
      go_wp2_with fail
      go_ret
      exact ⟨_, rfl, HST.out, HB.out⟩
end Go.Proofs.YtbfggncmjdhapaaGreatDoor
