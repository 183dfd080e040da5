/- wirtinger's closure find. -/
import Derived.Test.YtcjaloddgilnpaaZUfp
import Derived.Test.YtcjaloddgilnpaaZVac
import Derived.Deep.RegionWith
namespace Go.Proofs.Ytcjaloddgilnpaa
open Go.RowKit
set_option linter.unusedVariables false

/-- only block g has been written -/
structure Onl (g : Nat) (w w' : World) : Prop where
  os : w'.os = w.os
  tape : w'.tape = w.tape
  output : w'.output = w.output
  size : w'.heap.size = w.heap.size
  block : ∀ k, k ≠ g → w'.heap[k]? = w.heap[k]?
theorem Onl.refl (g : Nat) (w : World) : Onl g w w := ⟨rfl, rfl, rfl, rfl, fun _ _ => rfl⟩
theorem Onl.trans {g : Nat} {a b c : World} (h : Onl g a b) (k : Onl g b c) : Onl g a c := ⟨k.os.trans h.os, k.tape.trans h.tape, k.output.trans h.output, k.size.trans h.size, fun i hi => (k.block i hi).trans (h.block i hi)⟩
theorem Onl.drew {g : Nat} {a w : World} (h : Onl g a w) : Onl g a w.drew := ⟨h.os, h.tape, h.output, h.size, h.block⟩
theorem Onl.drewN {g : Nat} {a w : World} (h : Onl g a w) (n : Nat) : Onl g a (w.drewN n) := ⟨h.os, h.tape, h.output, h.size, h.block⟩
theorem Onl.below {g B : Nat} {a w : World} (h : Onl g a w) (hB : B ≤ g) : Below B a w := ⟨h.os, h.tape, h.output, Nat.le_of_eq h.size.symm, fun k hk => h.block k (by omega)⟩
theorem Onl.setCell {g : Nat} {a w : World} (h : Onl g a w) (i : Nat) (u : Value) : Onl g a (w.setCell ⟨g, i, none⟩ u) := by
  have hb := (Below.refl 0 w).setCell (p := ⟨g, i, none⟩) (Nat.zero_le _) u
  exact ⟨hb.os.trans h.os, hb.tape.trans h.tape, hb.output.trans h.output, by simp [h.size], fun k hk => (Below.heap_setCell w ⟨g, i, none⟩ u k hk).trans (h.block k hk)⟩
theorem Arr.onl {g b : Nat} {w w' : World} {t : TypeId} {cs : List Value} (h : Arr w b t cs) (o : Onl g w w') (hb : b ≠ g) : Arr w' b t cs := (o.block b hb).trans h
theorem Onl.cell {g : Nat} {w w' : World} (o : Onl g w w') {p : Addr} (hp : p.block ≠ g) : w'.cell? p = w.cell? p := by
  unfold World.cell?; rw [o.block p.block hp]

/-- the closure that finds roots -/
def fnV (pb fb : Nat) : Value := .func (.func 77) #[] #[.pointer (some ⟨pb, 0, none⟩), .pointer (some ⟨fb, 0, none⟩)]

set_option maxHeartbeats 4000000 in
theorem find_code (pb fb g N : Nat) (hpg : pb ≠ g) (hfg : fb ≠ g) (hN : N ≤ 256) : ∀ (n x r : Nat) (P : List Nat) (w : World), P.length = N → (∀ y, y < N → gn P y < N) → x < N → Dp P n x r →
    Arr w pb 22 [.slice (some ⟨g, 0, none⟩) N N] → Arr w fb 60 [fnV pb fb] → Arr w g 3 (nc P) →
    Calls Try.prog 77 #[.int .i64 x, .pointer (some ⟨pb, 0, none⟩), .pointer (some ⟨fb, 0, none⟩)] w fun e w' => ∃ P', e = .returned (.int .i64 (r : Nat)) ∧ Fnd P P' n ∧ Arr w' g 3 (nc P') ∧ Onl g w w' := by
  intro n
  induction n with
  | zero =>
    intro x r P w hl hP hx hd ap af ag
    have y0 := ap.cell 0
    have zc := (ag.cell x).trans (nc_get (by omega))
    obtain ⟨h1, rfl⟩ := hd
    rw [h1] at zc
    have z1 : (r : Int) < (N : Int) := by omega
    clear h1
    go_enter Try.func77, Try.ntmps77
    go_wp2_with fail
    go_ret
    exact ⟨P, rfl, Fnd.refl P, ag, Onl.refl _ _⟩
  | succ n ih =>
    intro x r P w hl hP hx hd ap af ag
    have y0 := ap.cell 0
    have y1 := af.cell 0
    have zc := (ag.cell x).trans (nc_get (by omega))
    have hpx := hP x hx
    have HD := Lib.hid hd
    have hne := hd.1
    have HI := Lib.hid (fun W (hW : Onl g w W) (hg : Arr W g 3 (nc P)) => ih (gn P x) r P W hl hP hpx hd.2 (ap.onl hW hpg) (af.onl hW hfg) hg)
    clear hd ih
    have z1 : (x : Int) < (N : Int) := by omega
    have z2 : ((gn P x : Nat) : Int) ≠ (x : Int) := by omega
    have z3 : (((gn P x : Nat) : Int) != (x : Int)) = true := by simp; omega
    generalize hp : gn P x = p at *
    have HP := Lib.hid hp
    clear hp
    go_enter Try.func77, Try.ntmps77
    go_wp2_with fail
    have y1' : w.cell? ⟨fb, 0, none⟩ = some (.func (.func 77) #[] #[.pointer (some ⟨pb, 0, none⟩), .pointer (some ⟨fb, 0, none⟩)]) := y1
    clear y1
    have HZ := Lib.hid (fun (P' : List Nat) (W : World) (hF : Fnd P P' n) (ag : Arr W g 3 (nc P')) => show W.cell? ⟨g, x, none⟩ = some (.int .i64 (p : Int)) by
      have e := hF.stays HD.out.1 HD.out.2
      rw [HP.out] at e
      rw [ag.cell x, nc_get (by rw [hF.kp.len]; omega), e])
    have HQ := Lib.hid (fun (W : World) (hb : Onl g w W) => (⟨(hb.cell hpg).trans y0, (hb.cell hfg).trans y1'⟩ : W.cell? ⟨pb, 0, none⟩ = some (.slice (some ⟨g, 0, none⟩) N N) ∧ W.cell? ⟨fb, 0, none⟩ = some (.func (.func 77) #[] #[.pointer (some ⟨pb, 0, none⟩), .pointer (some ⟨fb, 0, none⟩)])))
    go_region_with (go_at_call 77; refine (HI.out _ ?_ ?_).mono ?_; (focus (first | exact Onl.refl _ _ | exact (Onl.refl _ _).drew | exact (Onl.refl _ _).drew.drew)); exact ag; rintro e w1 ⟨P', rfl, hF, ag1, hO1⟩; have hO : Onl g w w1 := Onl.trans (by first | exact Onl.refl _ _ | exact (Onl.refl _ _).drew | exact (Onl.refl _ _).drew.drew) hO1; clear hO1; have zd := HZ.out _ _ hF ag1; have zf := ag1.frozen x; obtain ⟨y3, y4⟩ := HQ.out _ hO)
    all_goals
      go_wp2_with fail
      go_ret
      exact ⟨P'.set x r, rfl, hF.step (by omega) HD.out.1 HD.out.2, by rw [← nc_set]; exact ag1.set x _, hO.setCell _ _⟩
end Go.Proofs.Ytcjaloddgilnpaa
