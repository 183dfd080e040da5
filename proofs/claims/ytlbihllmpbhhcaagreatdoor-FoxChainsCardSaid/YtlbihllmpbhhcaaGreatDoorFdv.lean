/- fox.derive with the closure of Derivative. -/
import Derived.Test.YtlbihllmpbhhcaaGreatDoorFnx
namespace Go.Proofs.YtlbihllmpbhhcaaGreatDoor
open Go.RowKit
set_option linter.unusedVariables false

theorem degW_bd {comp : List Int} {N : Int} (hN : 0 ≤ N) (h : ∀ c ∈ comp, -N ≤ c ∧ c ≤ N) : ∀ (u : List Int) (d : Int), d - N * u.length ≤ degW comp u d ∧ degW comp u d ≤ d + N * u.length
  | [], d => by simp [degW]
  | x :: u, d => by
    have h1 := degW_bd hN h u (stepD comp d x)
    have h2 := cg_bd hN h (x - 1)
    have h3 := cg_bd hN h (-x - 1)
    have h4 : d - N ≤ stepD comp d x ∧ stepD comp d x ≤ d + N := by unfold stepD; split <;> omega
    have e1 : N * ((x :: u).length : Int) = N * u.length + N := by rw [List.length_cons, Int.natCast_add, Int.mul_add]; simp
    rw [degW, e1]
    omega
theorem drv_snoc (comp : List Int) (g : Int) (u : List Int) (x d : Int) : drv comp g (u ++ [x]) d = addR (drv comp g u d) (gnr x) g (trm comp (degW comp u d) x) := by
  rw [drv_append]
  unfold addR
  rw [drv, drv, List.append_nil]
theorem degW_snoc (comp : List Int) (u : List Int) (x d : Int) : degW comp (u ++ [x]) d = stepD comp (degW comp u d) x := by rw [degW_append]; rfl
theorem take_snocI {l : List Int} {i : Nat} (h : i < l.length) : l.take (i + 1) = l.take i ++ [l[i]] := by
  rw [List.take_add_one, List.getElem?_eq_getElem h]; rfl
set_option maxHeartbeats 2000000 in
set_option maxRecDepth 100000 in
theorem derive_any (base gb tmb : Nat) (gen : Int) (vw vc : Value) (ws comp : List Int) (w W : World) (hw : ∀ W', Below base w W' → Ints W' vw ws) (hcm : ∀ W', Below base w W' → Ints W' vc comp) (hbel : Below base w W) (hbt : base ≤ tmb) (hbs : base ≤ W.heap.size)
    (qt : Arr W tmb 44 [.slice none 0 0]) (qg : Arr W gb 3 [.int .i64 gen]) (hc : ∀ c ∈ comp, -1000 ≤ c ∧ c ≤ 1000) (hcl : comp.length ≤ 1000000) (hwl : ws.length ≤ 1000) (hx : ∀ x ∈ ws, x ≠ 0 ∧ -(comp.length : Int) ≤ x ∧ x ≤ comp.length) :
    Calls Tryz.prog 18 #[vw, vc, .func (.func 19) #[] #[.pointer (some ⟨gb, 0, none⟩), .pointer (some ⟨tmb, 0, none⟩)]] W fun e w' => e = .returned (.tuple #[]) ∧ ∃ s', OwnF base w' s' (drv comp gen ws 0) ∧ Arr w' tmb 44 [s'] ∧ Below base w w' := by
  have hX : ∀ W3, W3 = ((W.alloc (.cells #[vc] 22)).alloc (.cells #[.func (.func 19) #[] #[.pointer (some ⟨gb, 0, none⟩), .pointer (some ⟨tmb, 0, none⟩)]] 48)).alloc (.cells #[.int .i64 0] 3) → DSt base gb tmb (W.heap.size + 1) (W.heap.size + 2) W.heap.size gen 0 vc comp (.slice none 0 0) [] w W3 := by
    intro W3 h
    subst h
    exact ⟨OwnF.nil _ _, ((qt.alloc _).alloc _).alloc _, ((qg.alloc _).alloc _).alloc _, (Arr.newAt (W.alloc _) _ [_] _ (by simp)).alloc _, Arr.newAt ((W.alloc _).alloc _) _ [_] _ (by simp), ((Arr.new _ _ [_]).alloc _).alloc _, hcm, ((hbel.alloc hbs _).alloc (by simp; omega) _).alloc (by simp; omega) _, hbt, by omega, by simp; omega, by have := qg.lt; omega⟩
  have HN : ∀ (k : Nat) (hk : k < ws.length) (s : Value) (wr : World), DSt base gb tmb (W.heap.size + 1) (W.heap.size + 2) W.heap.size gen (degW comp (ws.take k) 0) vc comp s (drv comp gen (ws.take k) 0) w wr → Calls Tryz.prog 39 #[.int .i64 ws[k], .pointer (some ⟨W.heap.size + 1, 0, none⟩), .pointer (some ⟨W.heap.size + 2, 0, none⟩), .pointer (some ⟨W.heap.size, 0, none⟩)] wr fun e w' => e = .returned (.tuple #[]) ∧ ∃ s', DSt base gb tmb (W.heap.size + 1) (W.heap.size + 2) W.heap.size gen (degW comp (ws.take (k + 1)) 0) vc comp s' (drv comp gen (ws.take (k + 1)) 0) w w' := by
    intro k hk s wr hst
    obtain ⟨x0, x1, x2⟩ := hx _ (List.getElem_mem hk)
    have hd := degW_bd (N := 1000) (by omega) hc (ws.take k) 0
    have hl : ((ws.take k).length : Int) ≤ 1000 := by simp; omega
    have hR := drv_len comp gen (ws.take k) 0
    have hR2 : (ws.take k).length ≤ 1000 := by simp; omega
    rw [take_snocI hk, degW_snoc, drv_snoc]
    rcases Int.lt_trichotomy ws[k] 0 with q | q | q
    · exact next_neg base gb tmb _ _ _ gen _ _ vc comp s _ w wr hst hc (by omega) (by omega) q (by omega) hcl
    · exact absurd q x0
    · exact next_pos base gb tmb _ _ _ gen _ _ vc comp s _ w wr hst hc (by omega) (by omega) q (by omega) hcl
  have HNX := Lib.hid HN
  have hwW := hw W hbel
  obtain ⟨A, c, rfl, _, _⟩ := hwW
  obtain ⟨A2, c2, hvc, _, _⟩ := hcm W hbel
  have HW := Lib.hid hw
  clear HN hw hcm hx hc qt qg hbt
  subst hvc
  go_enter Tryz.func18, Tryz.ntmps18
  go_upto_region 2 with fail
  have hst0 := hX _ rfl
  clear hX
  generalize (((W.alloc (.cells #[.slice A2 comp.length c2] 22)).alloc (.cells #[.func (.func 19) #[] #[.pointer (some ⟨gb, 0, none⟩), .pointer (some ⟨tmb, 0, none⟩)]] 48)).alloc (.cells #[.int .i64 0] 3)) = w3 at *
  go_wp2_with fail
  go_loopg [9, 13] ws.length (fun gk s9 s13 wr => ∃ (k : Nat) (s : Value), k ≤ ws.length ∧ gk = ws.length - k ∧ s13 = .int .i64 (k : Int) ∧ DSt base gb tmb (W.heap.size + 1) (W.heap.size + 2) W.heap.size gen (degW comp (ws.take k) 0) (.slice A2 comp.length c2) comp s (drv comp gen (ws.take k) 0) w wr)
  case atStart => exact ⟨0, _, Nat.zero_le _, rfl, rfl, hst0⟩
  case round =>
    clear hst0
    obtain ⟨k, s, hk, rfl, rfl, hst⟩ := hrel
    by_cases hlt : k < ws.length
    · have z1 : (k : Int) < (ws.length : Int) := by omega
      obtain ⟨b, o, ⟨c', hv⟩, hbl, hcell⟩ := ints_at (HW.out wr hst.bel) hlt
      injection hv with hv1 hv2 hv3
      subst hv1 hv3
      clear hv2
      have HC := Lib.hid (HNX.out k hlt s wr hst)
      generalize ws[k] = x at *
      clear hst
      go_wp2_with fail
      refine HC.out.mono ?_
      rintro e w5 ⟨rfl, s', hst5⟩
      go_wp2_with fail
      go_roundg (ws.length - (k + 1))
      case measure => omega
      case rel => exact ⟨k + 1, s', by omega, rfl, by go_num, hst5⟩
    · have z1 : ¬ ((k : Int) < (ws.length : Int)) := by omega
      obtain rfl : k = ws.length := by omega
      rw [List.take_length] at hst
      have HF := Lib.hid (show ∃ s', OwnF base wr s' (drv comp gen ws 0) ∧ Arr wr tmb 44 [s'] ∧ Below base w wr from ⟨s, hst.own, hst.tt, hst.bel⟩)
      clear hst hlt hk
      go_wp2_with fail
      go_end0
      exact ⟨rfl, HF.out⟩
end Go.Proofs.YtlbihllmpbhhcaaGreatDoor
