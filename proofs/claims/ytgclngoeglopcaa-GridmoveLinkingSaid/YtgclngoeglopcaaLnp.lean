/- Labels of columns and the sum over crossings: plain facts. -/
import Derived.Test.YtgclngoeglopcaaCmq
import Derived.Test.YtgclngoeglopcaaCrp
namespace Go.Proofs.Ytgclngoeglopcaa
open Go.RowKit

def labs (n : Nat) (S : Nat → Int) : List Value := (List.range n).map fun j => Value.int .i64 (S j)
theorem labs_get {n : Nat} {S : Nat → Int} {i : Nat} (h : i < n) : (labs n S)[i]? = some (.int .i64 (S i)) := by simp [labs, h]
theorem labs_zero (n : Nat) : labs n (fun _ => 0) = List.replicate n (.int .i64 0) := by
  apply List.ext_getElem?
  intro i
  by_cases h : i < n <;> simp [labs, h]
def updI (S : Nat → Int) (i : Nat) (x : Int) : Nat → Int := fun j => if j = i then x else S j
theorem labs_set {n : Nat} {S : Nat → Int} {i : Nat} {x : Int} : (labs n S).set i (.int .i64 x) = labs n (updI S i x) := by
  apply List.ext_getElem?
  intro j
  rw [List.getElem?_set]
  by_cases hj : j < n
  · by_cases e : i = j
    · subst e; simp [labs, hj, updI]
    · simp [labs, hj, e, updI, Ne.symm e]
  · simp [labs, hj]; omega
theorem labs_congr {n : Nat} {S T : Nat → Int} (h : ∀ j, j < n → S j = T j) : labs n S = labs n T := by
  unfold labs
  exact List.map_congr_left (fun j hj => by rw [h j (List.mem_range.1 hj)])
def nn (S : Nat → Int) : Nat → Bool := fun j => decide (0 ≤ S j)
theorem nn_upd (T : Nat → Int) (i k : Nat) : nn (updI T i k) = mark (nn T) i := by
  funext j
  unfold nn updI mark
  by_cases e : j = i
  · simp [e]
  · simp [e]
/-- the labels when the columns below k have been looked at -/
structure Lb (f : Nat → Nat) (n k : Nat) (S : Nat → Int) : Prop where
  mks : ∃ cnt, Mk f n k (nn S) cnt
  head : ∀ j, j < n → 0 ≤ S j → ∃ h, h ∈ heads f n ∧ Rl f h j ∧ S j = (h : Int)
structure Ll (f : Nat → Nat) (n k t : Nat) (S T : Nat → Int) : Prop where
  mi : Mi f n k t (nn S) (nn T)
  head : ∀ j, j < n → 0 ≤ T j → ∃ h, h ∈ heads f n ∧ Rl f h j ∧ T j = (h : Int)
section
variable {n k t : Nat} {f : Nat → Nat} {S T : Nat → Int}
theorem Lb.start : Lb f n 0 (fun _ => -1) := by
  have e : nn (fun _ => -1) = fun _ => false := by funext j; simp [nn]
  exact ⟨⟨0, by rw [e]; exact Mk.start⟩, fun j _ h => absurd h (by omega)⟩
theorem Lb.skip (hp : PermF n f) (h : Lb f n k S) (hk : k < n) (hs : 0 ≤ S k) : Lb f n (k + 1) S := by
  obtain ⟨cnt, hm⟩ := h.mks
  exact ⟨⟨cnt, hm.skip hp hk (by simp [nn, hs])⟩, h.head⟩
theorem Ll.start (h : Lb f n k S) : Ll f n k 0 S S := ⟨Mi.start, h.head⟩
theorem Ll.step (hp : PermF n f) (hk : k < n) (hb : Lb f n k S) (hs : S k < 0) (h : Ll f n k t S T) (hu : T (itr f t k) < 0) : Ll f n k (t + 1) S (updI T (itr f t k) k) ∧ t + 1 ≤ n := by
  obtain ⟨cnt, hm⟩ := hb.mks
  obtain ⟨h1, h2⟩ := h.mi.step hp hk (by simp [nn]; omega)
  have hhd : k ∈ heads f n := by
    refine (mem_heads hp).2 ⟨hk, fun m hmk hr => ?_⟩
    have := (hm.seen k hk).2 ⟨m, hmk, hr⟩
    simp [nn] at this
    omega
  refine ⟨⟨by rw [nn_upd]; exact h1, fun j hj h0 => ?_⟩, h2⟩
  unfold updI at h0 ⊢
  by_cases e : j = itr f t k
  · rw [if_pos e]; exact ⟨k, hhd, ⟨t, e.symm⟩, rfl⟩
  · rw [if_neg e] at h0 ⊢; exact h.head j hj h0
theorem Ll.done (hp : PermF n f) (hk : k < n) (hb : Lb f n k S) (hs : S k < 0) (h : Ll f n k t S T) (hu : 0 ≤ T (itr f t k)) : Lb f n (k + 1) T := by
  obtain ⟨cnt, hm⟩ := hb.mks
  exact ⟨⟨cnt + 1, h.mi.done hp hk hm (by simp [nn]; omega) (by simp [nn, hu])⟩, h.head⟩
theorem Lb.eq_iff (hp : PermF n f) (h : Lb f n n S) {i j : Nat} (hi : i < n) (hj : j < n) : S i = S j ↔ Rl f i j := by
  obtain ⟨cnt, hm⟩ := h.mks
  have pos : ∀ j, j < n → 0 ≤ S j := fun j hj => by have := (hm.seen j hj).2 ⟨j, hj, Rl.refl _ _⟩; simpa [nn] using this
  obtain ⟨a, ha, ra, ea⟩ := h.head i hi (pos i hi)
  obtain ⟨b, hb, rb, eb⟩ := h.head j hj (pos j hj)
  have la := ((mem_heads hp).1 ha).1
  constructor
  · intro e
    have : a = b := by omega
    subst this
    exact (hp.symm la ra).trans rb
  · intro r
    have : a = b := heads_inj hp ha hb ((ra.trans r).trans (hp.symm ((mem_heads hp).1 hb).1 rb))
    rw [ea, eb, this]
end
/-- the sum over a list of crossings -/
def sumP (X O : List Int) (l : List (Nat × Nat)) : Int := l.foldr (fun p s => crT X O p.1 p.2 + s) 0
theorem sumP_append (X O : List Int) (l m : List (Nat × Nat)) : sumP X O (l ++ m) = sumP X O l + sumP X O m := by
  induction l with
  | nil => simp [sumP]
  | cons a l ih => simp only [sumP, List.cons_append, List.foldr_cons] at ih ⊢; rw [ih]; omega
theorem sgn_le (x : Int) : -1 ≤ sgn x ∧ sgn x ≤ 1 := by unfold sgn; split <;> (try split) <;> omega
theorem sgn_mul (x y : Int) : -1 ≤ sgn x * sgn y ∧ sgn x * sgn y ≤ 1 := by
  have h1 : sgn x = -1 ∨ sgn x = 0 ∨ sgn x = 1 := by have := sgn_le x; omega
  have h2 := sgn_le y
  rcases h1 with e | e | e <;> rw [e] <;> omega
theorem crT_le (X O : List Int) (i j : Nat) : -1 ≤ crT X O i j ∧ crT X O i j ≤ 1 := by
  have := sgn_mul (gt O i - gt X i) ((cl X j : Int) - cl O j)
  unfold crT dl
  split
  · rw [Int.zero_mul]; omega
  · rw [Int.one_mul]; omega
theorem sumP_le (X O : List Int) (l : List (Nat × Nat)) : -(l.length : Int) ≤ sumP X O l ∧ sumP X O l ≤ l.length := by
  induction l with
  | nil => simp [sumP]
  | cons a l ih =>
    have := crT_le X O a.1 a.2
    have e : sumP X O (a :: l) = crT X O a.1 a.2 + sumP X O l := rfl
    rw [e, List.length_cons]
    omega
theorem sumP_cI (X O : List Int) (i : Nat) : ∀ J, sumP X O (cI X O i J) = sumR J (fun j => if crB X O i j = true then crT X O i j else 0) := by
  intro J
  induction J with
  | zero => rfl
  | succ J ih =>
    rw [cI_succ, sumP_append, ih, sumR]
    congr 1
    split <;> simp [sumP]
theorem sumP_crL (X O : List Int) : ∀ k, sumP X O (crL X O k) = sumR k (fun i => sumR X.length (fun j => if crB X O i j = true then crT X O i j else 0)) := by
  intro k
  induction k with
  | zero => rfl
  | succ k ih => rw [crL_succ, sumP_append, ih, sumR, sumP_cI]
theorem lk_code {X O : List Int} (h : Vd X O) : sumP X O (crL X O X.length) = lkI X O := by rw [sumP_crL, cross_sum h]
theorem mem_crL {X O : List Int} {k : Nat} {p : Nat × Nat} (h : p ∈ crL X O k) : p.1 < k ∧ p.2 < X.length ∧ crB X O p.1 p.2 = true := by
  unfold crL at h
  obtain ⟨i, hi, hp⟩ := List.mem_flatMap.1 h
  unfold cI at hp
  obtain ⟨j, hj, rfl⟩ := List.mem_map.1 hp
  have := List.mem_filter.1 hj
  exact ⟨List.mem_range.1 hi, List.mem_range.1 this.1, this.2⟩
theorem sumP_take (X O : List Int) (l : List (Nat × Nat)) {q : Nat} (h : q < l.length) : sumP X O (l.take (q + 1)) = sumP X O (l.take q) + crT X O l[q].1 l[q].2 := by
  rw [List.take_succ_eq_append_getElem h, sumP_append]
  simp [sumP]
theorem Pairs.at_ {w : World} {A : Option Addr} {n c k : Nat} {ps : List (Nat × Nat)} (h : Pairs w (.slice A n c) ps) (hk : k < ps.length) :
    ∃ b o, A = some ⟨b, o, none⟩ ∧ w.cell? ⟨b, o + k * 2, none⟩ = some (.int .i64 ps[k].1) ∧ w.cell? ⟨b, o + k * 2 + 1, none⟩ = some (.int .i64 ps[k].2) := by
  obtain ⟨A', c', hv, hx⟩ := h
  injection hv with h1 h2 h3
  subst h1
  exact hx k hk
/-- a call that leaves the world alone, inside a region that reads -/
theorem quietL {P : Program} {f : FuncId} {args : Array Value} {w : World} {n : Nat} {v : Value} (h : Calls P f args (w.drewN n) fun e w' => e = .returned v ∧ w.drewN n = w') : Calls P f args (w.drewN n) fun e w'' => e = .returned v ∧ ∃ m, w'' = w.drewN m :=
  h.mono fun _ _ hh => ⟨hh.1, n, hh.2.symm⟩
end Go.Proofs.Ytgclngoeglopcaa
