/- Rotating a word keeps the determinant of its Seifert matrix: one letter (plain). -/
/- Normal forms of Laurent polynomials (plain); the normal form of a determinant read backwards. -/
/- The moves of a braid word keep the determinant of its Seifert matrix (plain). -/
import Derived.Test.YtbkgpfalljgdcaaGreatDoorZSmw
import Derived.Test.YtbkgpfalljgdcaaGreatDoorZOwn
import Derived.Test.YtbkgpfalljgdcaaGreatDoorZDeu
namespace Go.Proofs.YtbkgpfalljgdcaaGreatDoor
open Go.RowKit
set_option linter.unusedVariables false

def at6 (L : List L3) (i : Nat) : L3 := L[i]?.getD (0, 0, 0)
def eM (W : List Int) (L : List L3) (i j : Nat) : Int := sfE W (at6 L i) (at6 L j)
theorem at6_mem {L : List L3} {i : Nat} (h : i < L.length) : at6 L i ∈ L := by
  unfold at6; rw [List.getElem?_eq_getElem h]; exact List.getElem_mem h
theorem at6_map {L : List L3} {i : Nat} (h : i < L.length) : at6 (L.map up6) i = up6 (at6 L i) := by
  unfold at6; rw [List.getElem?_map, List.getElem?_eq_getElem h]; rfl
/-- the sum over a block of successive loops -/
theorem sum_block {W : List Int} {L : List L3} {g : Int} {o m n : Nat} (r : Nat → Int) (hn : o + m < n) (hL : ∀ l, o ≤ l → l ≤ o + m → at6 L l = (g, r (l - o), r (l + 1 - o))) (G : L3 → Int) (f : Int → Int) (hG : ∀ l, o ≤ l → l ≤ o + m → G (at6 L l) = f (at6 L l).2.2 - f (at6 L l).2.1) :
    sumI n (fun l => (if o ≤ l ∧ l ≤ o + m then (-1 : Int) else 0) * G (at6 L l)) = -(f (r (m + 1)) - f (r 0)) := by
  have h := tele6 (fun l => f (r (l - o))) o m n
  rw [if_neg (by omega)] at h
  have e : sumI n (fun l => (if o ≤ l ∧ l ≤ o + m then (-1 : Int) else 0) * G (at6 L l)) = sumI n (fun l => (if o ≤ l ∧ l ≤ o + m then (-1 : Int) else 0) * (f (r (l + 1 - o)) - f (r (l - o)))) := sumI_congr fun l hl => by
    by_cases c : o ≤ l ∧ l ≤ o + m
    · rw [if_pos c, hG l c.1 c.2, hL l c.1 c.2]
    · rw [if_neg c, Int.zero_mul, Int.zero_mul]
  rw [e, h]
  split
  · rw [show n - o = m + 1 by omega, Nat.sub_self]
  · rw [show o + m + 1 - o = m + 1 by omega, Nat.sub_self]
section
variable {a : Int} {t : List Int} {g : Nat}
theorem T6_first (g h : Int) {s : Int} (h0 : 0 ≤ s) : T6 (a :: t) g h 0 (s + 1) = 0 := by
  unfold T6
  by_cases e : g = h
  · rw [if_pos e, if_neg (by omega), if_neg (by omega)]
  · rw [if_neg e]; split
    · rw [if_neg (by omega)]
    · rfl
theorem T6_first' (g h : Int) {s : Int} (h0 : 0 ≤ s) : T6 (a :: t) g h (s + 1) 0 = if g = h then 1 else if h = g + 1 then -1 else 0 := by
  unfold T6
  by_cases e : g = h
  · rw [if_pos e, if_pos e, if_pos (by omega)]
  · rw [if_neg e, if_neg e]; split
    · rw [if_pos (by omega)]
    · rfl
theorem T6_end (g h : Int) {s : Int} (h0 : s < (t.length : Int)) : T6 (t ++ [a]) g h (t.length : Int) s = if g = h then 1 else if h = g + 1 then -1 else 0 := by
  unfold T6
  by_cases e : g = h
  · rw [if_pos e, if_pos e, if_pos (by omega)]
  · rw [if_neg e, if_neg e]
    by_cases f : h = g + 1
    · rw [if_pos f, if_pos f, if_pos h0]
    · rw [if_neg f, if_neg f]
theorem T6_end' (g h : Int) {s : Int} (h0 : s < (t.length : Int)) : T6 (t ++ [a]) g h s (t.length : Int) = 0 := by
  unfold T6
  by_cases e : g = h
  · rw [if_pos e, if_neg (by omega), if_neg (by omega)]
  · rw [if_neg e]; split
    · rw [if_neg (by omega)]
    · rfl
set_option maxHeartbeats 1000000 in
theorem rot_step (hg : 1 ≤ g) (h1 : isG (g : Int) a = true) (d : Nat) (s x : Int) :
    (lgL (t ++ [a]) (g + d)).length = (lgL (a :: t) (g + d)).length ∧
    dt (List.range' 0 (lgL (a :: t) (g + d)).length) (fun i j => s * eM (t ++ [a]) (lgL (t ++ [a]) (g + d)) i j - x * eM (t ++ [a]) (lgL (t ++ [a]) (g + d)) j i) =
      dt (List.range' 0 (lgL (a :: t) (g + d)).length) (fun i j => s * eM (a :: t) (lgL (a :: t) (g + d)) i j - x * eM (a :: t) (lgL (a :: t) (g + d)) j i) := by
  have gdL := gd_lgL (a :: t) (g + d)
  have gdL' := gd_lgL (t ++ [a]) (g + d)
  obtain ⟨S, e1, e2⟩ := lgL_split (t := t) hg h1 d
  have hQ := oc6_bd (g : Int) t t.length
  generalize lgL (a :: t) (g + d) = L at *
  generalize lgL (t ++ [a]) (g + d) = L' at *
  generalize lgL (t ++ [a]) (g - 1) = P at *
  generalize oc6 (g : Int) t t.length = Q at *
  -- what is alike
  have key : ∀ y z : L3, Gd6 (a :: t) (up6 y) → Gd6 (a :: t) (up6 z) → Gd6 (t ++ [a]) y → Gd6 (t ++ [a]) z → sfE (t ++ [a]) y z = sfE (a :: t) (up6 y) (up6 z) := fun y z hy hz hy' hz' => by
    rw [sfE_V6 hy' hz', sfE_V6 hy hz, V6_up hy hy'.lo]
  by_cases hq : Q = []
  · subst hq
    have e3 : L = L'.map up6 := by rw [e1, e2]; simp [prs]
    have hl : L'.length = L.length := by rw [e3, List.length_map]
    refine ⟨hl, dt_congr fun i hi j hj => ?_⟩
    have hi' : i < L'.length := by rw [List.length_range'] at hi; omega
    have hj' : j < L'.length := by have := List.mem_range'_1.1 hj; omega
    have gi : up6 (at6 L' i) = at6 L i := by rw [e3, at6_map hi']
    have gj : up6 (at6 L' j) = at6 L j := by rw [e3, at6_map hj']
    have ki : Gd6 (a :: t) (up6 (at6 L' i)) := by rw [gi]; exact gdL _ (at6_mem (by omega))
    have kj : Gd6 (a :: t) (up6 (at6 L' j)) := by rw [gj]; exact gdL _ (at6_mem (by omega))
    unfold eM
    rw [key _ _ ki kj (gdL' _ (at6_mem hi')) (gdL' _ (at6_mem hj')), key _ _ kj ki (gdL' _ (at6_mem hj')) (gdL' _ (at6_mem hi')), gi, gj]
  · obtain ⟨m, hm⟩ : ∃ m, Q.length = m + 1 := ⟨Q.length - 1, by have := List.length_pos_iff.2 hq; omega⟩
    have l1 : (prs (g : Int) (0 :: Q.map (· + 1))).length = m + 1 := by rw [prs_length]; simp [hm]
    have l2 : (prs (g : Int) (Q ++ [(t.length : Int)])).length = m + 1 := by rw [prs_length]; simp [hm]
    have hlL : L.length = P.length + (m + 1) + S.length := by rw [e1, List.length_append, List.length_append, List.length_map, List.length_map, l1]
    have hlL' : L'.length = P.length + (m + 1) + S.length := by rw [e2, List.length_append, List.length_append, l2]
    obtain ⟨o, ho⟩ : ∃ o, o = P.length := ⟨_, rfl⟩
    rw [← ho] at hlL hlL'
    have gL : ∀ i, L[i]? = if i < o then (P[i]?).map up6 else if i < o + (m + 1) then (prs (g : Int) (0 :: Q.map (· + 1)))[i - o]? else (S[i - o - (m + 1)]?).map up6 := fun i => by
      rw [e1, get3, List.length_map, l1, List.getElem?_map, List.getElem?_map, ← ho]
    have gL' : ∀ i, L'[i]? = if i < o then P[i]? else if i < o + (m + 1) then (prs (g : Int) (Q ++ [(t.length : Int)]))[i - o]? else S[i - o - (m + 1)]? := fun i => by
      rw [e2, get3, l2, ← ho]
    obtain ⟨r, hr⟩ : ∃ r : Nat → Int, r = fun k => (0 :: Q.map (· + 1))[k]?.getD 0 := ⟨_, rfl⟩
    have hr0 : r 0 = 0 := by rw [hr]; rfl
    obtain ⟨La, hLa⟩ : ∃ z, z = Q[m]?.getD 0 := ⟨_, rfl⟩
    have hQm : Q[m]? = some La := by rw [hLa, List.getElem?_eq_getElem (by omega)]; rfl
    have hrm : r (m + 1) = La + 1 := by rw [hr]; simp only; rw [List.getElem?_cons_succ, List.getElem?_map, hQm]; rfl
    have hLb := hQ La (List.mem_of_getElem? hQm)
    have hblk : ∀ l, o ≤ l → l ≤ o + m → at6 L l = ((g : Int), r (l - o), r (l + 1 - o)) := fun l c1 c2 => by
      unfold at6
      rw [gL, if_neg (by omega), if_pos (by omega), prs_get _ _ _ (by simp; omega), hr]
      simp only [Option.getD_some]
      rw [show l + 1 - o = l - o + 1 by omega]
    have hz : at6 L' (o + m) = ((g : Int), La, (t.length : Int)) := by
      unfold at6
      rw [gL', if_neg (by omega), if_pos (by omega), prs_get _ _ _ (by simp; omega), show o + m - o = m by omega, List.getElem?_append_left (by omega), hQm, List.getElem?_append_right (by omega), hm, Nat.sub_self]
      rfl
    have hup : ∀ i, i < L'.length → i ≠ o + m → at6 L (cy6 o m i) = up6 (at6 L' i) := fun i hi hne => by
      have e : L[cy6 o m i]? = (L'[i]?).map up6 := by
        by_cases c1 : i < o
        · rw [show cy6 o m i = i by unfold cy6; rw [if_neg (by omega), if_neg (by omega)], gL, gL', if_pos c1, if_pos c1]
        · by_cases c2 : i < o + m
          · rw [show cy6 o m i = i + 1 by unfold cy6; rw [if_pos (by omega)], gL, gL', if_neg (by omega), if_pos (by omega), if_neg (by omega), if_pos (by omega), show i + 1 - o = i - o + 1 by omega, prs_get _ _ _ (by simp; omega), prs_get _ _ _ (by simp; omega)]
            rw [List.getElem?_cons_succ, List.getElem?_cons_succ, List.getElem?_map, List.getElem?_map, List.getElem?_append_left (by omega), List.getElem?_append_left (by omega), List.getElem?_eq_getElem (by omega), List.getElem?_eq_getElem (by omega)]
            rfl
          · rw [show cy6 o m i = i by unfold cy6; rw [if_neg (by omega), if_neg hne], gL, gL', if_neg c1, if_neg (by omega), if_neg c1, if_neg (by omega)]
      unfold at6
      rw [e, List.getElem?_eq_getElem hi]
      rfl
    have hcl : ∀ i, i < L'.length → cy6 o m i < L.length := fun i hi => by unfold cy6; split <;> (try split) <;> omega
    have gdU : ∀ i, i < L'.length → i ≠ o + m → Gd6 (a :: t) (up6 (at6 L' i)) := fun i hi hne => by rw [← hup i hi hne]; exact gdL _ (at6_mem (hcl i hi))
    have gdz := gdL' _ (at6_mem (show o + m < L'.length by omega))
    rw [hz] at gdz
    have gdB : ∀ l, o ≤ l → l ≤ o + m → Gd6 (a :: t) (at6 L l) := fun l c1 c2 => gdL _ (at6_mem (by omega))
    have gB : ∀ l, o ≤ l → l ≤ o + m → (at6 L l).1 = (g : Int) := fun l c1 c2 => by rw [hblk l c1 c2]
    refine ⟨by omega, ?_⟩
    refine dt_basis (o := o) (m := m) (by omega) (eM (a :: t) L) (eM (t ++ [a]) L') (fun l => if o ≤ l ∧ l ≤ o + m then (-1 : Int) else 0) (by simp) ?_ ?_ ?_ ?_ ?_ s x
    · intro i j hi hj hi2 hj2
      unfold eM
      rw [hup i (by omega) hi2, hup j (by omega) hj2]
      exact key _ _ (gdU i (by omega) hi2) (gdU j (by omega) hj2) (gdL' _ (at6_mem (by omega))) (gdL' _ (at6_mem (by omega)))
    · intro j hj hj2
      have gj := gdU j (by omega) hj2
      have gj' := gdL' _ (at6_mem (show j < L'.length by omega))
      unfold eM
      rw [hz, hup j (by omega) hj2, sfE_V6 gdz gj']
      have hb := sum_block (W := a :: t) (L := L) r (show o + m < L.length by omega) hblk (fun y => sfE (a :: t) y (up6 (at6 L' j))) (fun p => T6 (a :: t) (g : Int) (up6 (at6 L' j)).1 p (up6 (at6 L' j)).2.2 - T6 (a :: t) (g : Int) (up6 (at6 L' j)).1 p (up6 (at6 L' j)).2.1) fun l c1 c2 => by
        show sfE (a :: t) (at6 L l) (up6 (at6 L' j)) = _
        rw [sfE_V6 (gdB l c1 c2) gj]
        unfold V6
        rw [gB l c1 c2]
        omega
      rw [hb, hrm, hr0]
      have b1 := gj.hi
      have b2 := gj.lt
      have b3 := gj'.lo
      generalize at6 L' j = y at b1 b2 b3 ⊢
      obtain ⟨h, q, q'⟩ := y
      rw [List.length_cons] at b1
      unfold up6 at b1 b2 ⊢
      dsimp only at b1 b2 b3 ⊢
      unfold V6
      dsimp only
      rw [T6_end _ _ (by omega), T6_end _ _ (by omega), T6_up _ _ hLb.1 hLb.2.1, T6_up _ _ hLb.1 hLb.2.1, T6_first _ _ (by omega), T6_first _ _ b3]
      omega
    · intro j hj hj2
      have gj := gdU j (by omega) hj2
      have gj' := gdL' _ (at6_mem (show j < L'.length by omega))
      unfold eM
      rw [hz, hup j (by omega) hj2, sfE_V6 gj' gdz]
      have hb := sum_block (W := a :: t) (L := L) r (show o + m < L.length by omega) hblk (fun y => sfE (a :: t) (up6 (at6 L' j)) y) (fun p => T6 (a :: t) (up6 (at6 L' j)).1 (g : Int) (up6 (at6 L' j)).2.2 p - T6 (a :: t) (up6 (at6 L' j)).1 (g : Int) (up6 (at6 L' j)).2.1 p) fun l c1 c2 => by
        show sfE (a :: t) (up6 (at6 L' j)) (at6 L l) = _
        rw [sfE_V6 gj (gdB l c1 c2)]
        unfold V6
        rw [gB l c1 c2]
        omega
      rw [hb, hrm, hr0]
      have b1 := gj.hi
      have b2 := gj.lt
      have b3 := gj'.lo
      generalize at6 L' j = y at b1 b2 b3 ⊢
      obtain ⟨h, q, q'⟩ := y
      rw [List.length_cons] at b1
      unfold up6 at b1 b2 ⊢
      dsimp only at b1 b2 b3 ⊢
      unfold V6
      dsimp only
      rw [T6_end' _ _ (by omega), T6_end' _ _ (by omega), T6_up _ _ (by omega) (by omega), T6_up _ _ b3 (by omega), T6_first' _ _ (by omega), T6_first' _ _ b3]
      omega
    · unfold eM
      rw [hz, sfE_V6 gdz gdz]
      have hin : ∀ k, o ≤ k → k ≤ o + m → sumI L.length (fun l => (if o ≤ l ∧ l ≤ o + m then (-1 : Int) else 0) * sfE (a :: t) (at6 L l) (at6 L k)) = -((fun p => T6 (a :: t) (g : Int) (g : Int) (La + 1) p - T6 (a :: t) (g : Int) (g : Int) 0 p) (at6 L k).2.2 - (fun p => T6 (a :: t) (g : Int) (g : Int) (La + 1) p - T6 (a :: t) (g : Int) (g : Int) 0 p) (at6 L k).2.1) := fun k d1 d2 => by
        rw [sum_block (W := a :: t) (L := L) r (show o + m < L.length by omega) hblk (fun y => sfE (a :: t) y (at6 L k)) (fun p => T6 (a :: t) (g : Int) (g : Int) p (at6 L k).2.2 - T6 (a :: t) (g : Int) (g : Int) p (at6 L k).2.1) fun l c1 c2 => by
          show sfE (a :: t) (at6 L l) (at6 L k) = _
          rw [sfE_V6 (gdB l c1 c2) (gdB k d1 d2)]
          unfold V6
          rw [gB l c1 c2, gB k d1 d2]
          omega]
        rw [hrm, hr0]
        dsimp only
        omega
      have e5 : sumI L.length (fun k => (if o ≤ k ∧ k ≤ o + m then (-1 : Int) else 0) * sumI L.length (fun l => (if o ≤ l ∧ l ≤ o + m then (-1 : Int) else 0) * sfE (a :: t) (at6 L l) (at6 L k))) =
          (-1 : Int) * (sumI L.length (fun k => (if o ≤ k ∧ k ≤ o + m then (-1 : Int) else 0) * (fun y : L3 => (fun p => T6 (a :: t) (g : Int) (g : Int) (La + 1) p - T6 (a :: t) (g : Int) (g : Int) 0 p) y.2.2 - (fun p => T6 (a :: t) (g : Int) (g : Int) (La + 1) p - T6 (a :: t) (g : Int) (g : Int) 0 p) y.2.1) (at6 L k))) := by
        rw [← sumI_mul]
        refine sumI_congr fun k hk => ?_
        by_cases c : o ≤ k ∧ k ≤ o + m
        · rw [if_pos c, hin k c.1 c.2]
          dsimp only
          omega
        · rw [if_neg c]; simp
      rw [e5, sum_block (W := a :: t) (L := L) r (show o + m < L.length by omega) hblk (fun y : L3 => (fun p => T6 (a :: t) (g : Int) (g : Int) (La + 1) p - T6 (a :: t) (g : Int) (g : Int) 0 p) y.2.2 - (fun p => T6 (a :: t) (g : Int) (g : Int) (La + 1) p - T6 (a :: t) (g : Int) (g : Int) 0 p) y.2.1) (fun p => T6 (a :: t) (g : Int) (g : Int) (La + 1) p - T6 (a :: t) (g : Int) (g : Int) 0 p) (fun l c1 c2 => rfl), hrm, hr0]
      unfold V6
      dsimp only
      rw [T6_end _ _ hLb.2.1, T6_end' _ _ hLb.2.1, T6_first' _ _ hLb.1, T6_first _ _ hLb.1, T6_up _ _ hLb.1 hLb.2.1]
      rw [T6_eq, T6_eq, T6_eq, wAt_end]
      omega
    · have e6 : ∀ (u : Nat → Nat → Int), sumI L.length (fun k => (if o ≤ k ∧ k ≤ o + m then (-1 : Int) else 0) * sumI L.length (fun l => (if o ≤ l ∧ l ≤ o + m then (-1 : Int) else 0) * u k l)) = sumI L.length (fun k => sumI L.length (fun l => (if o ≤ k ∧ k ≤ o + m then (-1 : Int) else 0) * ((if o ≤ l ∧ l ≤ o + m then (-1 : Int) else 0) * u k l))) := fun u => sumI_congr fun k hk => by rw [sumI_mul]
      rw [e6, e6, sumI_swap]
      exact sumI_congr fun k hk => sumI_congr fun l hl => by grind
end
end Go.Proofs.YtbkgpfalljgdcaaGreatDoor

namespace Go.Proofs.YtbkgpfalljgdcaaGreatDoor
open Go.RowKit
set_option linter.unusedVariables false

structure Nor (l q : LP) : Prop where
  can : Can q
  ex : ∃ (τ N : Int), (τ = 1 ∨ τ = -1) ∧ ∀ e, cf q e = τ * cf l (e + N)
  low : q = [] ∨ (0 < cf q 0 ∧ ∀ e, e < 0 → cf q e = 0)
theorem can_nil_of {q : LP} (h : Can q) (hz : ∀ e, cf q e = 0) : q = [] := h.ext Can.nil fun e => by rw [hz]; rfl
theorem Nor.uniq {l q q' : LP} (h : Nor l q) (k : Nor l q') : q = q' := by
  obtain ⟨τ, N, ht, he⟩ := h.ex
  obtain ⟨σ, M, hs, ke⟩ := k.ex
  have e1 : ∀ e, cf q e = τ * σ * cf q' (e + (N - M)) := fun e => by
    rw [he, ke, show e + (N - M) + M = e + N by omega]
    rcases ht with rfl | rfl <;> rcases hs with rfl | rfl <;> omega
  have e2 : ∀ e, cf q' e = τ * σ * cf q (e - (N - M)) := fun e => by
    rw [he, ke, show e - (N - M) + N = e + M by omega]
    rcases ht with rfl | rfl <;> rcases hs with rfl | rfl <;> omega
  rcases h.low with rfl | ⟨h1, h2⟩
  · exact (can_nil_of k.can fun e => by rw [e2]; simp [cf]).symm
  · rcases k.low with rfl | ⟨k1, k2⟩
    · exact can_nil_of h.can fun e => by rw [e1]; simp [cf]
    · have a1 : 0 ≤ N - M := by
        rcases Int.lt_or_le (N - M) 0 with z | z
        · have := e1 0
          rw [Int.zero_add, k2 _ z, Int.mul_zero] at this
          omega
        · exact z
      have a2 : N - M ≤ 0 := by
        rcases Int.lt_or_le 0 (N - M) with z | z
        · have := e2 0
          rw [h2 _ (by omega), Int.mul_zero] at this
          omega
        · exact z
      have a3 : N - M = 0 := by omega
      rw [a3] at e1
      refine h.can.ext k.can fun e => ?_
      have b0 := e1 0
      have be := e1 e
      rw [Int.add_zero] at b0 be
      rcases ht with rfl | rfl <;> rcases hs with rfl | rfl <;> omega
theorem cf_mvS (l : LP) (n e : Int) : cf (l.map (mvT (fun x => x + n))) e = cf l (e - n) := by
  induction l with
  | nil => rfl
  | cons t l ih =>
    rw [List.map_cons, cf_cons, cf_cons, ih]
    unfold mvT
    by_cases h : t.1 = e - n
    · rw [if_pos h, if_pos (show t.1 + n = e by omega)]
    · rw [if_neg h, if_neg (show ¬ t.1 + n = e by omega)]
theorem nsL_cf (l : LP) : ∃ τ : Int, (τ = 1 ∨ τ = -1) ∧ (∀ e, cf (nsL l) e = τ * cf l e) ∧ 0 ≤ cf (nsL l) (lowL l) := by
  unfold nsL
  split
  · next h => exact ⟨-1, .inr rfl, fun e => by rw [cf_negL]; omega, by rw [cf_negL]; omega⟩
  · next h => exact ⟨1, .inl rfl, fun e => by omega, by omega⟩
theorem nsL_can {l : LP} (h : Can l) : Can (nsL l) := by
  unfold nsL; split
  · exact negL_can h
  · exact h
theorem low_least {l : LP} (h : Can l) : ∀ t ∈ l, lowL l ≤ t.1 := by
  intro t ht
  cases l with
  | nil => cases ht
  | cons s l =>
    show s.1 ≤ t.1
    rcases List.mem_cons.1 ht with rfl | ht
    · exact Int.le_refl _
    · have := (List.pairwise_cons.1 h.srt).1 t ht
      omega
theorem norP_nor {l q : LP} (h : Can l) (hn : norP (some l) = some q) : Nor l q := by
  rw [norP_some] at hn
  split at hn
  · next h0 =>
    have : l = [] := List.eq_nil_of_length_eq_zero h0
    subst this
    injection hn with hn
    subst hn
    exact ⟨Can.nil, ⟨1, 0, .inl rfl, fun e => by simp [cf]⟩, .inl rfl⟩
  · next h0 =>
    change (if ((nsL l).all fun t => wiB (t.1 + -lowL l) 1048576) = true then some ((nsL l).map (mvT fun e => e + -lowL l)) else none) = some q at hn
    split at hn
    · injection hn with hn
      subst hn
      obtain ⟨τ, ht, hc, hp⟩ := nsL_cf l
      refine ⟨can_mvS (nsL_can h) _, ⟨τ, lowL l, ht, fun e => by rw [cf_mvS, hc, show e - -lowL l = e + lowL l by omega]⟩, .inr ⟨?_, fun e he => ?_⟩⟩
      · rw [cf_mvS, show (0 : Int) - -lowL l = lowL l by omega]
        have hne : cf l (lowL l) ≠ 0 := by
          cases l with
          | nil => simp at h0
          | cons t l => exact h.ne (List.mem_cons_self)
        have := hc (lowL l)
        rcases ht with rfl | rfl <;> omega
      · rw [cf_mvS, hc, cf_out fun t ht => ?_, Int.mul_zero]
        have := low_least h t ht
        omega
    · cases hn
/-- the exponents are small -/
def Ex1 (l : LP) : Prop := ∀ t ∈ l, -1000 ≤ t.1 ∧ t.1 ≤ 1000
theorem norP_ex {l : LP} (h : Ex1 l) : ∃ q, norP (some l) = some q := by
  rw [norP_some]
  split
  · exact ⟨_, rfl⟩
  · next h0 =>
    refine ⟨(nsL l).map (mvT fun e => e + -lowL l), if_pos (List.all_eq_true.2 fun t ht => wiB_iff.2 ?_)⟩
    have hl : -1000 ≤ lowL l ∧ lowL l ≤ 1000 := by
      cases l with
      | nil => simp at h0
      | cons s l => exact h s List.mem_cons_self
    have ht2 : ∃ s ∈ l, s.1 = t.1 := by
      unfold nsL at ht
      split at ht
      · obtain ⟨s, hs, rfl⟩ := List.mem_map.1 ht
        exact ⟨s, hs, rfl⟩
      · exact ⟨t, ht, rfl⟩
    obtain ⟨s, hs, e⟩ := ht2
    have := h s hs
    show -1048576 ≤ t.1 + -lowL l ∧ t.1 + -lowL l ≤ 1048576
    omega
theorem Nor.norP {l q : LP} (h : Nor l q) (hc : Can l) (hx : Ex1 l) : norP (some l) = some q := by
  obtain ⟨q', hq⟩ := norP_ex hx
  rw [hq, (norP_nor hc hq).uniq h]
theorem Nor.self {l q : LP} (h : Nor l q) : Nor q q := ⟨h.can, ⟨1, 0, .inl rfl, fun e => by rw [Int.add_zero]; omega⟩, h.low⟩
theorem cf_rev (l : LP) (e : Int) : cf l.reverse e = cf l e := by
  induction l with
  | nil => rfl
  | cons t l ih => rw [List.reverse_cons, cf_append, ih, cf_cons, cf_cons]; simp [cf]; omega
theorem cf_flip (l : LP) (e : Int) : cf (l.map (mvT (fun x => -x))) e = cf l (-e) := by
  induction l with
  | nil => rfl
  | cons t l ih =>
    rw [List.map_cons, cf_cons, cf_cons, ih]
    unfold mvT
    by_cases h : t.1 = -e
    · rw [if_pos h, if_pos (show -t.1 = e by omega)]
    · rw [if_neg h, if_neg (show ¬ -t.1 = e by omega)]
def flL (l : LP) : LP := (l.map (mvT (fun x => -x))).reverse
theorem flL_can {l : LP} (h : Can l) : Can (flL l) := by
  refine ⟨?_, fun t ht => ?_⟩
  · unfold Srt flL
    rw [List.pairwise_reverse, List.pairwise_map]
    exact h.srt.imp fun {a b} hab => by show -b.1 < -a.1; omega
  · obtain ⟨s, hs, rfl⟩ := List.mem_map.1 (List.mem_reverse.1 ht)
    exact h.nz s hs
theorem flL_mem {l : LP} {t : Int × Int} (ht : t ∈ flL l) : ∃ s ∈ l, t = (-s.1, s.2) := by
  obtain ⟨s, hs, rfl⟩ := List.mem_map.1 (List.mem_reverse.1 ht)
  exact ⟨s, hs, rfl⟩
theorem flL_lim {l : LP} (h : Lim l) : Lim (flL l) := by
  refine ⟨fun t ht => ?_, fun t ht => ?_⟩
  · obtain ⟨s, hs, rfl⟩ := flL_mem ht; exact h.co s hs
  · obtain ⟨s, hs, rfl⟩ := flL_mem ht; have := h.ex s hs; show -1048576 ≤ -s.1 ∧ -s.1 ≤ 1048576; omega
/-- the plain law: the normal form of the determinant, flipped, has the same normal form -/
theorem sym_plain {m : List (List Int)} (hn : m.length ≤ 13) {D : LP} (hc : Can D) (hl : Lim D) (h0 : ∀ t ∈ D, 0 ≤ t.1) (hv : ∀ x, 1 ≤ x → evQ 0 x D = detE 0 (alM m) x) :
    ∃ p, norP (some D) = some p ∧ Can p ∧ Lim p ∧ norP (some (flL p)) = some p ∧ norP (some p) = some p := by
  have hD := D_is hc h0 hv
  have hb : ∀ t ∈ D, 0 ≤ t.1 ∧ t.1 ≤ 13 := fun t ht => by
    refine ⟨h0 t ht, ?_⟩
    rcases Int.lt_or_le 13 t.1 with z | z
    · exfalso
      have h1 := hc.ne ht
      rw [hD] at h1
      refine h1 ?_
      rw [cf_ofL t.1 _ 0 (h0 t ht), List.getElem?_eq_none (by have := LS_len m m.length 1; omega)]; rfl
    · exact z
  have hx : Ex1 D := fun t ht => by have := hb t ht; omega
  obtain ⟨p, hp⟩ := norP_ex hx
  have hN := norP_nor hc hp
  have okp : Can p ∧ Lim p := by have := okP_nor hc hl; rw [hp] at this; exact this
  obtain ⟨τ, N, ht, he⟩ := hN.ex
  have hsup : ∀ e, cf D e ≠ 0 → 0 ≤ e ∧ e ≤ 13 := fun e hne => by
    obtain ⟨t, ht, e1⟩ := cf_ne hne
    rw [← e1]; exact hb t ht
  -- the exponents of p lie within 12 of 0
  have hpx : ∀ t ∈ p, 0 ≤ t.1 ∧ t.1 ≤ 13 := by
    intro t htp
    have h1 := okp.1.ne htp
    rcases hN.low with rfl | ⟨k1, k2⟩
    · cases htp
    · have a0 : 0 ≤ t.1 := by
        rcases Int.lt_or_le t.1 0 with z | z
        · exact absurd (k2 _ z) h1
        · exact z
      have a1 := hsup (t.1 + N) (fun z => h1 (by rw [he, z, Int.mul_zero]))
      have a2 := hsup (0 + N) (fun z => by have := he 0; rw [z, Int.mul_zero] at this; omega)
      omega
  have hpe : Ex1 p := fun t ht => by have := hpx t ht; omega
  have hfe : Ex1 (flL p) := fun t ht => by
    obtain ⟨s, hs, rfl⟩ := flL_mem ht
    have := hpx s hs
    show -1000 ≤ -s.1 ∧ -s.1 ≤ 1000
    omega
  refine ⟨p, hp, okp.1, okp.2, ?_, hN.self.norP okp.1 hpe⟩
  refine Nor.norP ⟨okp.1, ?_, hN.low⟩ (flL_can okp.1) hfe
  have hpal : ∀ e, cf D ((m.length : Int) - e) = (-1) ^ m.length * cf D e := fun e => by rw [hD]; exact D_pal e
  have hsg : ((-1 : Int) ^ m.length = 1 ∨ (-1 : Int) ^ m.length = -1) := by
    rcases Nat.mod_two_eq_zero_or_one m.length with z | z
    · left
      obtain ⟨k, hk⟩ : ∃ k, m.length = 2 * k := ⟨m.length / 2, by omega⟩
      rw [hk, Int.pow_mul]; simp [Int.one_pow]
    · right
      obtain ⟨k, hk⟩ : ∃ k, m.length = 2 * k + 1 := ⟨m.length / 2, by omega⟩
      rw [hk, Int.pow_succ, Int.pow_mul]; simp [Int.one_pow]
  refine ⟨(-1) ^ m.length, 2 * N - (m.length : Int), hsg, fun e => ?_⟩
  rw [flL, cf_rev, cf_flip, he, he]
  have h1 := hpal (e + N)
  rw [show -(e + (2 * N - (m.length : Int))) + N = (m.length : Int) - (e + N) by omega, h1]
  generalize (-1 : Int) ^ m.length = s at *
  rcases hsg with rfl | rfl <;> rcases ht with rfl | rfl <;> omega
end Go.Proofs.YtbkgpfalljgdcaaGreatDoor

namespace Go.Proofs.YtbkgpfalljgdcaaGreatDoor
open Go.RowKit
set_option linter.unusedVariables false

theorem gm_eM {W : List Int} {L : List L3} {i j : Nat} (hi : i < L.length) (hj : j < L.length) : gm (sfM W L) i j = eM W L i j := by
  unfold gm eM at6
  rw [sfM_get hi, Option.getD_some, sfRow_get hj, Option.getD_some]
def DW (N : Int) (W : List Int) (x : Int) : Int := dt (List.range' 0 (lsF N W).length) (fun i j => 1 * eM W (lsF N W) i j - x * eM W (lsF N W) j i)
theorem detE_DW (N : Int) (W : List Int) (x : Int) : detE 0 (alM (sfM W (lsF N W))) x = DW N W x := by
  rw [detE_dS, sfM_length]
  unfold dS DW
  refine dt_congr fun l hl j hj => ?_
  have hl' : l < (lsF N W).length := by simpa using hl
  have hj' : j < (lsF N W).length := by have := List.mem_range'_1.1 hj; omega
  rw [gm_eM hl' hj', gm_eM hj' hl']
theorem oc6_ne {g : Int} {W : List Int} : ∀ k, k ≤ W.length → (oc6 g W k ≠ [] ↔ ∃ i, i < k ∧ isG g (W[i]?.getD 0) = true)
  | 0, _ => by simp [oc6]
  | k + 1, hk => by
    rw [oc6]
    constructor
    · intro h
      by_cases c : isG g (W[k]?.getD 0) = true
      · exact ⟨k, by omega, c⟩
      · rw [if_neg c, List.append_nil] at h
        obtain ⟨i, h1, h2⟩ := (oc6_ne k (by omega)).1 h
        exact ⟨i, by omega, h2⟩
    · rintro ⟨i, h1, h2⟩ e
      obtain ⟨e1, e2⟩ := List.append_eq_nil_iff.1 e
      by_cases z : i = k
      · subst z; rw [if_pos h2] at e2; cases e2
      · exact (oc6_ne k (by omega)).2 ⟨i, by omega, h2⟩ e1
theorem lst6_nn {g : Int} {W : List Int} {k : Nat} : 0 ≤ lst6 (oc6 g W k) ↔ oc6 g W k ≠ [] := by
  constructor
  · intro h e; rw [e] at h; simp [lst6] at h
  · intro h; exact (oc6_bd g W k _ (lst6_mem _ h)).1
/-- connected: each generator stands in the word -/
theorem cnB_mem {N : Int} {W : List Int} : cnB N W ↔ ∀ g : Nat, 1 ≤ g → (g : Int) < N → ∃ l ∈ W, isG (g : Int) l = true := by
  have e : ∀ g : Nat, 0 ≤ (lpF (g : Int) W W.length).1 ↔ ∃ l ∈ W, isG (g : Int) l = true := fun g => by
    rw [lpF_oc, show (lst6 (oc6 (g : Int) W W.length), prs (g : Int) (oc6 (g : Int) W W.length)).1 = lst6 (oc6 (g : Int) W W.length) from rfl, lst6_nn, oc6_ne _ (Nat.le_refl _)]
    constructor
    · rintro ⟨i, h1, h2⟩
      rw [List.getElem?_eq_getElem h1] at h2
      exact ⟨W[i], List.getElem_mem h1, h2⟩
    · rintro ⟨l, h1, h2⟩
      obtain ⟨i, hi, rfl⟩ := List.getElem_of_mem h1
      exact ⟨i, hi, by rw [List.getElem?_eq_getElem hi]; exact h2⟩
  unfold cnB
  constructor
  · intro h g h1 h2; exact (e g).1 (h g h1 h2)
  · intro h g h1 h2; exact (e g).2 (h g h1 h2)
/-- the words that the moves make -/
def Mv6 (N : Int) (W : List Int) (N' : Int) (W' : List Int) : Prop :=
  brV N' W' = true ∧ cnB N' W' ∧ (lsF N' W').length = (lsF N W).length ∧ ((∀ x, 1 ≤ x → DW N' W' x = DW N W x) ∨ ∃ τ : Int, (τ = 1 ∨ τ = -1) ∧ ∀ x, 1 ≤ x → DW N' W' x = τ * DW N W x)
/-! ### rotations -/
theorem rot_all {N : Int} {W : List Int} (hb : brV N W = true) : ∀ k, k ≤ W.length → (lsF N (W.drop k ++ W.take k)).length = (lsF N W).length ∧ ∀ x, DW N (W.drop k ++ W.take k) x = DW N W x
  | 0, _ => by simp
  | k + 1, hk => by
    obtain ⟨h1, h2⟩ := rot_all hb k (by omega)
    have hk' : k < W.length := by omega
    obtain ⟨b1, b2, b3, b4⟩ := brV_iff.1 hb
    have hl := b4 _ (List.getElem_mem hk')
    have e1 : W.drop k ++ W.take k = W[k] :: (W.drop (k + 1) ++ W.take k) := by rw [List.drop_eq_getElem_cons hk']; rfl
    have e2 : W.drop (k + 1) ++ W.take (k + 1) = (W.drop (k + 1) ++ W.take k) ++ [W[k]] := by rw [List.take_succ_eq_append_getElem hk', List.append_assoc]
    rw [e2]
    rw [e1] at h1 h2
    generalize W.drop (k + 1) ++ W.take k = t at *
    generalize W[k] = a at *
    have hg : 1 ≤ a.natAbs := by omega
    have hd : (N - 1).toNat = a.natAbs + ((N - 1).toNat - a.natAbs) := by omega
    have hG : isG (a.natAbs : Int) a = true := isG_iff.2 (by omega)
    have h := rot_step (t := t) hg hG ((N - 1).toNat - a.natAbs) 1
    rw [← hd] at h
    unfold DW lsF at *
    refine ⟨((h 0).1).trans h1, fun x => ?_⟩
    rw [← h2, ← (h x).2, (h x).1]
theorem mv_rot {N : Int} {W : List Int} (hb : brV N W = true) (hc : cnB N W) {k : Nat} (hk : k ≤ W.length) : Mv6 N W N (W.drop k ++ W.take k) := by
  obtain ⟨h1, h2⟩ := rot_all hb k hk
  obtain ⟨b1, b2, b3, b4⟩ := brV_iff.1 hb
  have hm : ∀ l, l ∈ W.drop k ++ W.take k ↔ l ∈ W := fun l => by
    conv => rhs; rw [← List.take_append_drop k W]
    simp only [List.mem_append]
    exact Or.comm
  refine ⟨brV_iff.2 ⟨b1, b2, by simp; omega, fun l hl => b4 l ((hm l).1 hl)⟩, cnB_mem.2 fun g g1 g2 => ?_, h1, .inl fun x _ => h2 x⟩
  obtain ⟨l, hl, hg⟩ := cnB_mem.1 hc g g1 g2
  exact ⟨l, (hm l).2 hl, hg⟩
/-! ### one strand more -/
theorem oc6_app {g z : Int} {W : List Int} (hz : isG g z = false) : oc6 g (W ++ [z]) (W ++ [z]).length = oc6 g W W.length := by
  rw [List.length_append, List.length_singleton, oc6_snoc, hz]; simp
theorem lgL_app {z : Int} {W : List Int} : ∀ G : Nat, (∀ g, 1 ≤ g → g ≤ G → isG (g : Int) z = false) → lgL (W ++ [z]) G = lgL W G
  | 0, _ => rfl
  | G + 1, h => by
    rw [lgL_blk, lgL_blk, lgL_app G fun g h1 h2 => h g h1 (by omega)]
    unfold blk
    rw [oc6_app (h (G + 1) (by omega) (Nat.le_refl _))]
theorem oc6_none {g : Int} {W : List Int} (h : ∀ l ∈ W, isG g l = false) : oc6 g W W.length = [] := by
  rcases Classical.em (oc6 g W W.length = []) with q | q
  · exact q
  · obtain ⟨i, h1, h2⟩ := (oc6_ne _ (Nat.le_refl _)).1 q
    rw [List.getElem?_eq_getElem h1] at h2
    have := h _ (List.getElem_mem h1)
    rw [Option.getD_some, this] at h2
    cases h2
theorem mv_more {N z : Int} {W : List Int} (hb : brV N W = true) (hc : cnB N W) (h10 : N < 10) (hl : W.length ≤ 14) (hz : z = N ∨ z = -N) : Mv6 N W (N + 1) (W ++ [z]) := by
  obtain ⟨b1, b2, b3, b4⟩ := brV_iff.1 hb
  have hzg : ∀ g : Nat, (g : Int) < N → isG (g : Int) z = false := fun g hg => Bool.eq_false_iff.2 fun c => by rcases isG_iff.1 c with q | q <;> omega
  have e : lsF (N + 1) (W ++ [z]) = lsF N W := by
    unfold lsF
    rw [show (N + 1 - 1).toNat = (N - 1).toNat + 1 by omega, lgL_blk, lgL_app _ fun g h1 h2 => hzg g (by omega)]
    have hn : (((N - 1).toNat + 1 : Nat) : Int) = N := by omega
    unfold blk
    rw [hn, List.length_append, List.length_singleton, oc6_snoc, oc6_none fun l hl => Bool.eq_false_iff.2 fun c => by have := b4 l hl; rcases isG_iff.1 c with q | q <;> omega]
    split <;> simp [prs]
  have hgd := gd_lgL W (N - 1).toNat
  have hw : ∀ r : Int, 0 ≤ r → r < (W.length : Int) → wAt (W ++ [z]) r = wAt W r := fun r h0 h1 => by unfold wAt; rw [List.getElem?_append_left (by omega)]
  have hE : ∀ i j, i < (lsF N W).length → j < (lsF N W).length → eM (W ++ [z]) (lsF N W) i j = eM W (lsF N W) i j := fun i j hi hj => by
    have k1 := hgd _ (at6_mem hi)
    have k2 := hgd _ (at6_mem hj)
    unfold eM
    change sfE (W ++ [z]) (at6 (lsF N W) i) (at6 (lsF N W) j) = _
    change Gd6 W (at6 (lsF N W) i) at k1
    change Gd6 W (at6 (lsF N W) j) at k2
    generalize at6 (lsF N W) i = x at *
    generalize at6 (lsF N W) j = y at *
    unfold sfE
    rw [hw _ k1.lo (by have := k1.lt; have := k1.hi; omega), hw _ (by have := k1.lo; have := k1.lt; omega) k1.hi]
  refine ⟨brV_iff.2 ⟨by omega, by omega, by simp; omega, fun l hl => ?_⟩, cnB_mem.2 fun g g1 g2 => ?_, by rw [e], .inl fun x _ => ?_⟩
  · rcases List.mem_append.1 hl with q | q
    · have := b4 l q; omega
    · rw [List.mem_singleton.1 q]; omega
  · by_cases c : (g : Int) < N
    · obtain ⟨l, hl, hg⟩ := cnB_mem.1 hc g g1 c
      exact ⟨l, List.mem_append_left _ hl, hg⟩
    · exact ⟨z, by simp, isG_iff.2 (by omega)⟩
  · unfold DW
    rw [e]
    refine dt_congr fun l hl j hj => ?_
    have hl' : l < (lsF N W).length := by simpa using hl
    have hj' : j < (lsF N W).length := by have := List.mem_range'_1.1 hj; omega
    rw [hE l j hl' hj', hE j l hj' hl']
/-! ### all letters negated -/
def ng6 (W : List Int) : List Int := W.map fun x => -x
theorem isG_neg (g l : Int) : isG g (-l) = isG g l := by
  rw [Bool.eq_iff_iff, isG_iff, isG_iff]; omega
theorem wAt_neg (W : List Int) (r : Int) : wAt (ng6 W) r = - wAt W r := by
  unfold wAt ng6
  rw [List.getElem?_map]
  cases W[r.toNat]? <;> simp
theorem oc6_neg (g : Int) (W : List Int) (k : Nat) : oc6 g (ng6 W) k = oc6 g W k := oc6_congr g _ _ k fun i _ => by
  unfold ng6
  rw [List.getElem?_map]
  cases W[i]? with
  | none => rfl
  | some a => exact isG_neg g a
theorem lgL_neg (W : List Int) : ∀ G, lgL (ng6 W) G = lgL W G
  | 0 => rfl
  | G + 1 => by
    rw [lgL_blk, lgL_blk, lgL_neg W G]
    unfold blk
    rw [show (ng6 W).length = W.length by simp [ng6], oc6_neg]
theorem sfE_neg {W : List Int} {x y : L3} (hx : Gd6 W x) (hy : Gd6 W y) :
    (x.1 = y.1 → sfE (ng6 W) x y = - sfE W y x) ∧ (x.1 ≠ y.1 → sfE (ng6 W) x y = sfE W x y) := by
  obtain ⟨g, p, p'⟩ := x
  obtain ⟨h, q, q'⟩ := y
  obtain ⟨x1, x2, x3, x4, x5, x6, x7⟩ := hx
  obtain ⟨y1, y2, y3, y4, y5, y6, y7⟩ := hy
  dsimp only at *
  rw [sfE_eq, sfE_eq, sfE_eq, wAt_neg, wAt_neg]
  have np : wAt W p ≠ 0 := by rcases isG_iff.1 x5 with k | k <;> omega
  have np' : wAt W p' ≠ 0 := by rcases isG_iff.1 x6 with k | k <;> omega
  constructor
  · intro e
    subst e
    by_cases c1 : p = q ∧ p' = q'
    · obtain ⟨rfl, rfl⟩ := c1
      rw [if_pos (show g = g ∧ p = p ∧ p' = p' from ⟨rfl, rfl, rfl⟩), if_pos (show g = g ∧ p = p ∧ p' = p' from ⟨rfl, rfl, rfl⟩)]
      generalize wAt W p = a at *
      generalize wAt W p' = b at *
      by_cases z1 : 0 < a <;> by_cases z2 : 0 < b
      · rw [if_neg (show ¬ (0 < -a ∧ 0 < -b) by omega), if_pos (show -a < 0 ∧ -b < 0 by omega), if_pos (show 0 < a ∧ 0 < b from ⟨z1, z2⟩)]; rfl
      · rw [if_neg (show ¬ (0 < -a ∧ 0 < -b) by omega), if_neg (show ¬ (-a < 0 ∧ -b < 0) by omega), if_neg (show ¬ (0 < a ∧ 0 < b) by omega), if_neg (show ¬ (a < 0 ∧ b < 0) by omega)]; rfl
      · rw [if_neg (show ¬ (0 < -a ∧ 0 < -b) by omega), if_neg (show ¬ (-a < 0 ∧ -b < 0) by omega), if_neg (show ¬ (0 < a ∧ 0 < b) by omega), if_neg (show ¬ (a < 0 ∧ b < 0) by omega)]; rfl
      · rw [if_pos (show 0 < -a ∧ 0 < -b by omega), if_neg (show ¬ (0 < a ∧ 0 < b) by omega), if_pos (show a < 0 ∧ b < 0 by omega)]
    · rw [if_neg (show ¬ (g = g ∧ p = q ∧ p' = q') by omega), if_neg (show ¬ (g = g ∧ q = p ∧ q' = p') by omega)]
      by_cases c2 : p' = q
      · subst c2
        rw [if_pos (show g = g ∧ p' = p' from ⟨rfl, rfl⟩), if_neg (show ¬ (g = g ∧ q' = p) by omega), if_pos (show g = g ∧ p' = p' from ⟨rfl, rfl⟩)]
        by_cases z : 0 < wAt W p'
        · rw [if_pos (show -wAt W p' < 0 by omega), if_pos z]
        · rw [if_neg (show ¬ -wAt W p' < 0 by omega), if_neg z]; rfl
      · rw [if_neg (show ¬ (g = g ∧ p' = q) by omega)]
        by_cases c3 : p = q'
        · subst c3
          rw [if_pos (show g = g ∧ p = p from ⟨rfl, rfl⟩), if_pos (show g = g ∧ p = p from ⟨rfl, rfl⟩)]
          by_cases z : 0 < wAt W p
          · rw [if_neg (show ¬ 0 < -wAt W p by omega), if_neg (show ¬ wAt W p < 0 by omega)]; rfl
          · rw [if_pos (show 0 < -wAt W p by omega), if_pos (show wAt W p < 0 by omega)]; rfl
        · rw [if_neg (show ¬ (g = g ∧ p = q') by omega), if_neg (show ¬ (g = g ∧ q' = p) by omega), if_neg (show ¬ (g = g ∧ q = p') by omega), if_neg (show ¬ (g = g + 1 ∧ p < q ∧ q < p' ∧ p' < q') by omega), if_neg (show ¬ (g = g + 1 ∧ q < p ∧ p < q' ∧ q' < p') by omega), if_neg (show ¬ (g = g + 1 ∧ q < p ∧ p < q' ∧ q' < p') by omega), if_neg (show ¬ (g = g + 1 ∧ p < q ∧ q < p' ∧ p' < q') by omega)]
          rfl
  · intro e
    rw [if_neg (show ¬ (g = h ∧ p = q ∧ p' = q') by omega), if_neg (show ¬ (g = h ∧ p' = q) by omega), if_neg (show ¬ (g = h ∧ p = q') by omega), if_neg (show ¬ (g = h ∧ p = q ∧ p' = q') by omega), if_neg (show ¬ (g = h ∧ p' = q) by omega), if_neg (show ¬ (g = h ∧ p = q') by omega)]
theorem sfE_apart {W : List Int} {x y : L3} (h1 : x.1 ≠ y.1) (h2 : y.1 ≠ x.1 + 1) : sfE W x y = 0 := by
  unfold sfE
  rw [if_neg (fun e => h1 (by rw [e])), if_neg (by omega), if_neg (by omega), if_neg (by omega), if_neg (by omega)]
theorem prodI_ne {f : Nat → Int} : ∀ n, (∀ k, k < n → f k ≠ 0) → prodI n f ≠ 0
  | 0, _ => by simp [prodI]
  | n + 1, h => by rw [prodI]; exact Int.mul_ne_zero (prodI_ne n fun k hk => h k (by omega)) (h n (by omega))
theorem neg_DW {N : Int} {W : List Int} {x : Int} (hx : 1 ≤ x) : DW N (ng6 W) x = (-1) ^ (lsF N W).length * DW N W x := by
  have e : lsF N (ng6 W) = lsF N W := lgL_neg W _
  unfold DW
  rw [e]
  have hgd : ∀ y ∈ lsF N W, Gd6 W y := gd_lgL W _
  generalize lsF N W = L at *
  obtain ⟨n, hn⟩ : ∃ n, n = L.length := ⟨_, rfl⟩
  rw [← hn]
  obtain ⟨c, hc⟩ : ∃ c : Nat → Int, c = fun i => x ^ (at6 L i).1.toNat := ⟨_, rfl⟩
  have hc0 : prodI n c ≠ 0 := prodI_ne n fun k _ => by rw [hc]; exact Int.pow_ne_zero (by omega)
  have key : ∀ i j, i < n → j < n → (1 * eM (ng6 W) L i j - x * eM (ng6 W) L j i) * c j = c i * (-1 * (1 * eM W L j i - x * eM W L i j)) := fun i j hi hj => by
    have k1 := hgd _ (at6_mem (show i < L.length by omega))
    have k2 := hgd _ (at6_mem (show j < L.length by omega))
    unfold eM
    rw [hc]
    dsimp only
    generalize at6 L i = y at *
    generalize at6 L j = z at *
    obtain ⟨a1, a2⟩ := sfE_neg k1 k2
    obtain ⟨b1, b2⟩ := sfE_neg k2 k1
    by_cases e1 : y.1 = z.1
    · rw [a1 e1, b1 e1.symm, e1]; grind
    · rw [a2 e1, b2 (fun h => e1 h.symm)]
      have p1 := k1.pos
      have p2 := k2.pos
      by_cases e2 : z.1 = y.1 + 1
      · rw [sfE_apart (x := z) (y := y) (fun h => e1 h.symm) (by omega), show z.1.toNat = y.1.toNat + 1 by omega, Int.pow_succ]; grind
      · by_cases e3 : y.1 = z.1 + 1
        · rw [sfE_apart (x := y) (y := z) e1 (by omega), show y.1.toNat = z.1.toNat + 1 by omega, Int.pow_succ]; grind
        · rw [sfE_apart (x := y) (y := z) e1 e2, sfE_apart (x := z) (y := y) (fun h => e1 h.symm) e3]; grind
  have h1 := dt_rows (List.range' 0 n) (fun i j => -1 * (1 * eM W L j i - x * eM W L i j)) c
  have h2 := dt_rows (List.range' 0 n) (fun i j => (1 * eM W L j i - x * eM W L i j)) (fun _ => -1)
  have h3 := dt_rows (List.range' 0 n) (fun i j => 1 * eM (ng6 W) L j i - x * eM (ng6 W) L i j) c
  rw [List.length_range'] at h1 h2 h3
  rw [prodI_pow] at h2
  rw [dt_trans n (fun i j => c i * _)] at h3
  rw [show dt (List.range' 0 n) (fun i j => c j * (1 * eM (ng6 W) L i j - x * eM (ng6 W) L j i)) = dt (List.range' 0 n) (fun i j => c i * (-1 * (1 * eM W L j i - x * eM W L i j))) from dt_congr fun i hi j hj => by
    rw [Int.mul_comm]
    exact key i j (by simpa using hi) (by have := List.mem_range'_1.1 hj; omega)] at h3
  rw [h1, h2] at h3
  have h4 := Int.eq_of_mul_eq_mul_left hc0 h3
  rw [dt_trans n (fun i j => 1 * eM (ng6 W) L i j - x * eM (ng6 W) L j i), dt_trans n (fun i j => 1 * eM W L i j - x * eM W L j i)]
  exact h4.symm
theorem mv_neg {N : Int} {W : List Int} (hb : brV N W = true) (hc : cnB N W) : Mv6 N W N (ng6 W) := by
  obtain ⟨b1, b2, b3, b4⟩ := brV_iff.1 hb
  refine ⟨brV_iff.2 ⟨b1, b2, by simpa [ng6] using b3, fun l hl => ?_⟩, cnB_mem.2 fun g g1 g2 => ?_, by rw [show lsF N (ng6 W) = lsF N W from lgL_neg W _], .inr ⟨(-1) ^ (lsF N W).length, ?_, fun x hx => neg_DW hx⟩⟩
  · obtain ⟨m, hm, rfl⟩ := List.mem_map.1 hl
    have := b4 m hm; omega
  · obtain ⟨l, hl, hg⟩ := cnB_mem.1 hc g g1 g2
    exact ⟨-l, List.mem_map.2 ⟨l, hl, rfl⟩, by rw [isG_neg]; exact hg⟩
  · generalize (lsF N W).length = n
    induction n with
    | zero => exact .inl rfl
    | succ n ih => rw [Int.pow_succ]; rcases ih with h | h <;> rw [h] <;> simp
/-! ### the polynomials -/
theorem cf_LS (m : List (List Int)) (n : Nat) (e : Int) : cf (ofL 0 (LS m n 1)) e = if 0 ≤ e then (LS m n 1)[e.toNat]?.getD 0 else 0 := by
  by_cases h : 0 ≤ e
  · rw [if_pos h, cf_ofL e _ 0 h, Int.sub_zero]
  · rw [if_neg h]; exact cf_out fun t ht => by have := ofL_0 t ht; omega
/-- polynomials of determinants that agree up to the sign have the same normal form -/
theorem nor_same {m k : List (List Int)} (hm : m.length ≤ 13) {D E : LP} (cD : Can D) (D0 : ∀ t ∈ D, 0 ≤ t.1) (hD : ∀ x, 1 ≤ x → evQ 0 x D = detE 0 (alM m) x) (cE : Can E) (E0 : ∀ t ∈ E, 0 ≤ t.1) (hE : ∀ x, 1 ≤ x → evQ 0 x E = detE 0 (alM k) x)
    {τ : Int} (hτ : τ = 1 ∨ τ = -1) (h : ∀ x, 1 ≤ x → detE 0 (alM k) x = τ * detE 0 (alM m) x) : norP (some E) = norP (some D) ∧ ∃ q, norP (some D) = some q := by
  have hD2 := D_is cD D0 hD
  have hx : Ex1 D := fun t ht => by
    have h0 := D0 t ht
    have h1 := cD.ne ht
    rw [hD2, cf_ofL t.1 _ 0 h0] at h1
    rcases Int.lt_or_le 13 t.1 with z | z
    · rw [List.getElem?_eq_none (by have := LS_len m m.length 1; omega)] at h1
      exact absurd rfl h1
    · exact ⟨by omega, by omega⟩
  obtain ⟨q, hq⟩ := norP_ex hx
  refine ⟨?_, q, hq⟩
  rcases hτ with rfl | rfl
  · have e : E = D := evQ_inj (N := 0) cE cD (fun t ht => by have := E0 t ht; omega) (fun t ht => by have := D0 t ht; omega) fun x hx => by rw [hE x hx, hD x hx, h x hx, Int.one_mul]
    rw [e]
  · have hneg : ∀ (l : LP) (x : Int), evQ 0 x (negL l) = -1 * evQ 0 x l := fun l x => by
      induction l with
      | nil => rfl
      | cons t l ih =>
        show -t.2 * x ^ (t.1 + ((0 : Nat) : Int)).toNat + evQ 0 x (negL l) = -1 * (t.2 * x ^ (t.1 + ((0 : Nat) : Int)).toNat + evQ 0 x l)
        rw [ih, Int.neg_mul]; omega
    have e : E = negL D := evQ_inj (N := 0) cE (negL_can cD) (fun t ht => by have := E0 t ht; omega) (fun t ht => by
      obtain ⟨s, hs, rfl⟩ := List.mem_map.1 ht
      have := D0 s hs; simpa using this) fun x hx => by rw [hE x hx, h x hx, ← hD x hx, hneg]
    have n1 := norP_nor cD hq
    have n2 : Nor (negL D) q := ⟨n1.can, by
      obtain ⟨τ, M, ht, he⟩ := n1.ex
      exact ⟨-τ, M, by omega, fun e => by rw [he, cf_negL]; grind⟩, n1.low⟩
    rw [e, hq]
    exact n2.norP (negL_can cD) fun t ht => by
      obtain ⟨s, hs, rfl⟩ := List.mem_map.1 ht
      exact hx s hs
end Go.Proofs.YtbkgpfalljgdcaaGreatDoor
