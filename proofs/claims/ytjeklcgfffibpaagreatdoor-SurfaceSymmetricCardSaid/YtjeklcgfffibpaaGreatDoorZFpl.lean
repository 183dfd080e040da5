/- The determinant of the transpose (plain). -/
/- Alexander's polynomial: plain lemmas that the laws share. -/
/- det (M - t M^T) read backwards is itself, up to its sign (plain). -/
/- slices.Reverse at laurent's terms. -/
/- laurent.moved at a function that turns the order round; Flip. -/
/- laurent's Flip. -/
import Derived.Test.YtjeklcgfffibpaaGreatDoorZDet
import Derived.Test.YtjeklcgfffibpaaGreatDoorZAwa
import Derived.Test.YtjeklcgfffibpaaGreatDoorZBld
import Derived.Shelf.SlicesQ.Reverse
import Derived.Ground.SlgnProg
import Derived.Test.YtjeklcgfffibpaaGreatDoorZOwn
namespace Go.Proofs.YtjeklcgfffibpaaGreatDoor
set_option linter.unusedVariables false

theorem sumI_frontT (f : Nat → Int) : ∀ c : Nat, sumI (c + 1) f = f 0 + sumI c (fun k => f (k + 1))
  | 0 => by simp [sumI]
  | c + 1 => by rw [sumI, sumI_frontT f c, sumI]; omega
theorem skp_s0 (k : Nat) : skp (k + 1) 0 = 0 := by simp [skp]
theorem skp_s1 (k l : Nat) : skp (k + 1) (l + 1) = skp k l + 1 := by unfold skp; split <;> split <;> omega
/-- Laplace by the first row -/
theorem dt_row : ∀ (J : List Nat) (f : Nat → Nat → Int), J ≠ [] → dt J f = sumI J.length (fun p => sgn p * f 0 (J[p]?.getD 0) * dt (J.eraseIdx p) (fun l => f (l + 1)))
  | [], f, h => absurd rfl h
  | j :: J, f, _ => by
    have e1 : ∀ k, k < J.length → sgn (k + 1) * f (k + 1) j * dt J (fun l => f (skp (k + 1) l)) = sumI J.length (fun p => -(sgn k * sgn p * f (k + 1) j * f 0 (J[p]?.getD 0) * dt (J.eraseIdx p) (fun l => f (skp k l + 1)))) := by
      intro k hk
      rw [dt_row J _ (fun e => by rw [e] at hk; exact absurd hk (by simp)), ← sumI_mul]
      refine sumI_congr fun p hp => ?_
      simp only [skp_s0, skp_s1, sgn_succ]
      grind
    have e2 : ∀ p, p < J.length → sgn (p + 1) * f 0 ((j :: J)[p + 1]?.getD 0) * dt ((j :: J).eraseIdx (p + 1)) (fun l => f (l + 1)) = sumI J.length (fun k => -(sgn k * sgn p * f (k + 1) j * f 0 (J[p]?.getD 0) * dt (J.eraseIdx p) (fun l => f (skp k l + 1)))) := by
      intro p hp
      rw [List.eraseIdx_cons_succ, dt, List.length_eraseIdx_of_lt hp, show J.length - 1 + 1 = J.length by omega, ← sumI_mul]
      refine sumI_congr fun k hk => ?_
      rw [sgn_succ, List.getElem?_cons_succ]
      grind
    rw [dt, List.length_cons, sumI_frontT, sumI_frontT, sumI_congr e1, sumI_congr e2, sumI_swap]
    rfl
theorem dt_tr : ∀ (n : Nat) (J L : List Nat) (f : Nat → Nat → Int), J.length = n → L.length = n → dt J (fun l j => f (L[l]?.getD 0) j) = dt L (fun l j => f j (J[l]?.getD 0))
  | 0, J, L, f, hJ, hL => by
    rw [List.eq_nil_of_length_eq_zero hJ, List.eq_nil_of_length_eq_zero hL]; rfl
  | n + 1, [], L, f, hJ, hL => by simp at hJ
  | n + 1, j :: J, L, f, hJ, hL => by
    rw [dt_row L _ (fun e => by rw [e] at hL; simp at hL), dt, hL]
    rw [List.length_cons] at hJ
    rw [hJ]
    refine sumI_congr fun k hk => ?_
    have h1 : dt J (fun l c => f (L[skp k l]?.getD 0) c) = dt (L.eraseIdx k) (fun l c => f c (J[l]?.getD 0)) := by
      rw [← dt_tr n J (L.eraseIdx k) f (by omega) (by rw [List.length_eraseIdx_of_lt (by omega)]; omega)]
      refine dt_congr fun l hl c hc => ?_
      rw [List.getElem?_eraseIdx]
      unfold skp
      split <;> rfl
    exact congrArg (sgn k * f (L[k]?.getD 0) j * ·) h1
theorem dt_trans (n : Nat) (f : Nat → Nat → Int) : dt (List.range' 0 n) f = dt (List.range' 0 n) (fun l j => f j l) := by
  have hg : ∀ l, l < n → (List.range' 0 n)[l]?.getD 0 = l := fun l hl => by rw [List.getElem?_range' hl]; simp
  have h := dt_tr n (List.range' 0 n) (List.range' 0 n) f (by simp) (by simp)
  rw [dt_congr (g := f) (fun l hl j hj => by rw [hg l (by simpa using hl)])] at h
  rw [h]
  exact dt_congr fun l hl j hj => by rw [hg l (by simpa using hl)]
end Go.Proofs.YtjeklcgfffibpaaGreatDoor

namespace Go.Proofs.YtjeklcgfffibpaaGreatDoor
open Go.RowKit
set_option linter.unusedVariables false

theorem ev2L (a b x : Int) : evQ 0 x (ofL 0 [a, b]) = a + b * x := by
  rw [evQ_ofL 0 x [a, b] 0 (by simp)]
  simp [ev]
  grind
theorem ev3L (a b c x : Int) : evQ 0 x (ofL 0 [a, b, c]) = a + b * x + c * x * x := by
  rw [evQ_ofL 0 x [a, b, c] 0 (by simp)]
  simp [ev]
  grind
theorem al_1 (a : Int) : alM [[a]] = [[ofL 0 [a, -a]]] := by
  simp [alM, alR, alE, gm, List.range_succ]
theorem al_2 (a b c d : Int) : alM [[a, b], [c, d]] = [[ofL 0 [a, -a], ofL 0 [b, -c]], [ofL 0 [c, -b], ofL 0 [d, -d]]] := by
  simp [alM, alR, alE, gm, List.range_succ]
theorem det_1 (a x : Int) : evQ 0 x (ofL 0 [a, -a]) = detE 0 (alM [[a]]) x := by
  rw [al_1]
  simp [detE, dt, sumI, sgn]
def cs2 (a b c d : Int) : List Int := [a * d - b * c, b * b + c * c - 2 * (a * d), a * d - b * c]
theorem det_2 (a b c d x : Int) : evQ 0 x (ofL 0 (cs2 a b c d)) = detE 0 (alM [[a, b], [c, d]]) x := by
  rw [al_2, cs2, ev3L]
  simp [detE, dt, List.range', sumI, sgn, skp, ev2L]
  grind
theorem cf_2L (a b e : Int) : cf (ofL 0 [a, b]) e = cf [(0, a), (1, b)] e := by
  by_cases h1 : a = 0 <;> by_cases h2 : b = 0 <;> simp [ofL, cf, h1, h2]
theorem cf_3L (a b c e : Int) : cf (ofL 0 [a, b, c]) e = cf [(0, a), (1, b), (2, c)] e := by
  by_cases h1 : a = 0 <;> by_cases h2 : b = 0 <;> by_cases h3 : c = 0 <;> simp [ofL, cf, h1, h2, h3]
theorem lim_ofL {cs : List Int} (hl : cs.length ≤ 3) (h : ∀ c ∈ cs, -1125899906842624 ≤ c ∧ c ≤ 1125899906842624) : Lim (ofL 0 cs) := by
  refine ofL_lim ?_
  have key : ∀ (cs : List Int) (low : Int), 0 ≤ low → low + cs.length ≤ 3 → (∀ c ∈ cs, -1125899906842624 ≤ c ∧ c ≤ 1125899906842624) → ofB low cs = true := by
    intro cs
    induction cs with
    | nil => intro low _ _ _; rfl
    | cons c cs ih =>
      intro low h0 h1 h2
      rw [List.length_cons] at h1
      rw [ofB, ih (low + 1) (by omega) (by omega) fun z hz => h2 z (List.mem_cons_of_mem _ hz)]
      have := h2 c (by simp)
      simp
      right
      omega
  exact key cs 0 (by omega) (by omega) h
theorem ofL_0 {cs : List Int} : ∀ t ∈ ofL 0 cs, 0 ≤ t.1 := fun t ht => (ofL_ge 0 cs t ht).1
theorem can_mvS {l : LP} (h : Can l) (n : Int) : Can (l.map (mvT (fun x => x + n))) := by
  refine ⟨?_, fun t ht => ?_⟩
  · unfold Srt
    rw [List.pairwise_map]
    exact h.srt.imp fun {a b} hab => by show a.1 + n < b.1 + n; omega
  · obtain ⟨s, hs, rfl⟩ := List.mem_map.1 ht
    exact h.nz s hs
theorem okP_mov (n : Int) {l : LP} (hc : Can l) (hl : Lim l) : okP (movP (fun e => e + n) (some l)) := by
  show okP (if (l.all fun t => wiB (t.1 + n) 1048576) = true then some (l.map (mvT fun e => e + n)) else none)
  split
  · next h =>
    refine ⟨can_mvS hc n, fun t ht => ?_, fun t ht => ?_⟩
    · obtain ⟨s, hs, rfl⟩ := List.mem_map.1 ht
      exact hl.co s hs
    · obtain ⟨s, hs, rfl⟩ := List.mem_map.1 ht
      exact wiB_iff.1 (List.all_eq_true.1 h s hs)
  · trivial
theorem okP_nor {l : LP} (hc : Can l) (hl : Lim l) : okP (norP (some l)) := by
  rw [norP_some]
  split
  · exact ⟨hc, hl⟩
  · refine okP_mov _ ?_ ?_
    · unfold nsL; split
      · exact negL_can hc
      · exact hc
    · unfold nsL; split
      · exact negL_lim hl
      · exact hl
theorem Zero5 (w : World) : Calls Tryz.prog 20 #[.agg #[.bool false, .slice none 0 0]] w fun e w' => e = .returned (.bool true) ∧ Below w.heap.size w w' :=
  Zero_any _ (some []) w (PolyV.zero w) ⟨Can.nil, Lim.nil⟩
theorem MatI.rowv5 {w : World} {A : Option Addr} {n c i : Nat} {m : List (List Int)} (h : MatI w (.slice A n c) m) (hi : i < m.length) : ∃ b1 o1 A2 c2, A = some ⟨b1, o1, none⟩ ∧ ∀ W, Below w.heap.size w W → W.cell? ⟨b1, o1 + i, none⟩ = some (.slice A2 m[i].length c2) := by
  obtain ⟨b1, o1, hA, -, u, hu, hrow⟩ := h.at_ hi
  obtain ⟨A2, c2, rfl, -, -⟩ := hrow
  exact ⟨b1, o1, A2, c2, hA, fun W hb => (hb.cell (block_lt_of_cell hu)).trans hu⟩
def LawT5 (w : World) (e : Ending) (w' : World) : Prop := e = .returned (.bool true) ∧ Below w.heap.size w w'
end Go.Proofs.YtjeklcgfffibpaaGreatDoor

namespace Go.Proofs.YtjeklcgfffibpaaGreatDoor
open Go.RowKit
set_option linter.unusedVariables false

theorem sumI_rev : ∀ (n : Nat) (f : Nat → Int), sumI (n + 1) f = sumI (n + 1) (fun k => f (n - k))
  | 0, f => by simp [sumI]
  | n + 1, f => by
    rw [sumI_frontT f (n + 1), sumI_rev n (fun k => f (k + 1))]
    rw [show sumI (n + 1 + 1) (fun k => f (n + 1 - k)) = sumI (n + 1) (fun k => f (n + 1 - k)) + f (n + 1 - (n + 1)) from rfl, Nat.sub_self, Int.add_comm, sumI_congr (g := fun k => f (n + 1 - k)) fun k hk => by rw [show n - k + 1 = n + 1 - k by omega]]
theorem sum_ext {N : Nat} {a b : Nat → Int} (h : ∀ y : Int, 1 ≤ y → sumI N (fun k => a k * y ^ k) = sumI N (fun k => b k * y ^ k)) (k : Nat) (hk : k < N) : a k = b k := by
  have hg : ∀ (a : Nat → Int) k, k < N → ((List.range N).map a)[k]?.getD 0 = a k := fun a k hk => by rw [List.getElem?_map, List.getElem?_range hk]; rfl
  have hs : ∀ (a : Nat → Int) (y : Int), ev ((List.range N).map a) y = sumI N (fun k => a k * y ^ k) := fun a y => by
    rw [ev_sum y _ N (by simp)]
    exact sumI_congr fun k hk => by rw [hg a k hk]
  have h1 := ev_ext (a := (List.range N).map a) (b := (List.range N).map b) 1 (fun y hy => by rw [hs, hs]; exact h y hy) k
  rw [hg a k hk, hg b k hk] at h1
  exact h1
theorem prodI_pow (s : Int) : ∀ n : Nat, prodI n (fun _ => s) = s ^ n
  | 0 => by simp [prodI]
  | n + 1 => by rw [prodI, prodI_pow s n, Int.pow_succ]
theorem sumN_ones : ∀ n : Nat, sumN n (fun _ => 1) = n
  | 0 => rfl
  | n + 1 => by rw [sumN, sumN_ones n]
/-- det (s M - t M^T) -/
def dS (m : List (List Int)) (n : Nat) (s t : Int) : Int := dt (List.range' 0 n) (fun l j => s * gm m l j - t * gm m j l)
def LS (m : List (List Int)) (n : Nat) (s : Int) : List Int := dtL (List.range' 0 n) (fun l j => [s * gm m l j, -(gm m j l)])
theorem LS_ev (m : List (List Int)) (n : Nat) (s t : Int) : ev (LS m n s) t = dS m n s t := by
  unfold LS dS
  rw [ev_dtL]
  refine dt_congr fun l hl j hj => ?_
  simp only [ev]
  grind
theorem LS_len (m : List (List Int)) (n : Nat) (s : Int) : (LS m n s).length ≤ n + 1 := by
  have h := dtL_length (List.range' 0 n) (fun l j => [s * gm m l j, -(gm m j l)]) (fun _ => 1) (fun l hl j hj => by simp)
  rw [List.length_range', sumN_ones] at h
  exact h
theorem LS_sum (m : List (List Int)) (n : Nat) (s t : Int) : dS m n s t = sumI (n + 1) (fun k => (LS m n s)[k]?.getD 0 * t ^ k) := by
  rw [← LS_ev, ev_sum t _ (n + 1) (LS_len m n s)]
theorem dS_hom (m : List (List Int)) (n : Nat) (s y : Int) : dS m n s (s * y) = s ^ n * dS m n 1 y := by
  have h := dt_rows (List.range' 0 n) (fun l j => 1 * gm m l j - y * gm m j l) (fun _ => s)
  rw [List.length_range', prodI_pow] at h
  unfold dS
  rw [← h]
  exact dt_congr fun l hl j hj => by grind
theorem dS_sym (m : List (List Int)) (n : Nat) (s t : Int) : dS m n s t = (-1) ^ n * dS m n t s := by
  have h := dt_rows (List.range' 0 n) (fun l j => t * gm m l j - s * gm m j l) (fun _ => -1)
  rw [List.length_range', prodI_pow] at h
  unfold dS
  rw [← h, dt_trans]
  exact dt_congr fun l hl j hj => by grind
theorem LS_hom (m : List (List Int)) (n : Nat) {s : Int} (hs : 1 ≤ s) (k : Nat) (hk : k < n + 1) : (LS m n s)[k]?.getD 0 = s ^ (n - k) * (LS m n 1)[k]?.getD 0 := by
  have h := sum_ext (N := n + 1) (a := fun k => (LS m n s)[k]?.getD 0 * s ^ k) (b := fun k => s ^ n * (LS m n 1)[k]?.getD 0) (fun y hy => by
    have h1 := dS_hom m n s y
    rw [LS_sum, LS_sum, ← sumI_mul] at h1
    rw [← (sumI_congr fun l hl => by rw [Int.mul_pow]; grind : sumI (n + 1) (fun k => (LS m n s)[k]?.getD 0 * (s * y) ^ k) = sumI (n + 1) (fun k => (LS m n s)[k]?.getD 0 * s ^ k * y ^ k)), h1]
    exact sumI_congr fun l hl => by grind) k hk
  have hp : s ^ k ≠ 0 := Int.pow_ne_zero (by omega)
  have e : s ^ n = s ^ (n - k) * s ^ k := by rw [← Int.pow_add, show n - k + k = n by omega]
  rw [e] at h
  exact Int.eq_of_mul_eq_mul_right hp (by rw [h]; grind)
/-- the coefficients read backwards -/
theorem LS_pal (m : List (List Int)) (n k : Nat) (hk : k < n + 1) : (LS m n 1)[n - k]?.getD 0 = (-1) ^ n * (LS m n 1)[k]?.getD 0 := by
  refine sum_ext (N := n + 1) (a := fun k => (LS m n 1)[n - k]?.getD 0) (b := fun k => (-1) ^ n * (LS m n 1)[k]?.getD 0) (fun s hs => ?_) k hk
  have h1 := dS_sym m n s 1
  rw [LS_sum m n s 1, LS_sum m n 1 s, ← sumI_mul] at h1
  rw [sumI_rev n (fun k => (LS m n 1)[n - k]?.getD 0 * s ^ k)]
  rw [show sumI (n + 1) (fun k => (-1) ^ n * (LS m n 1)[k]?.getD 0 * s ^ k) = sumI (n + 1) (fun k => (-1) ^ n * ((LS m n 1)[k]?.getD 0 * s ^ k)) from sumI_congr fun l hl => by grind, ← h1]
  refine sumI_congr fun l hl => ?_
  rw [LS_hom m n hs l hl, show n - (n - l) = l by omega, Int.one_pow]
  grind
theorem detE_dS {m : List (List Int)} (x : Int) : detE 0 (alM m) x = dS m m.length 1 x := by
  unfold detE dS
  rw [alM_length]
  refine dt_congr fun l hl j hj => ?_
  have hl' : l < m.length := by simpa using hl
  have hj' : j < m.length := by have := List.mem_range'_1.1 hj; omega
  rw [alM_get hl', Option.getD_some, alR_get hj', Option.getD_some]
  unfold alE
  rw [ev2L]
  grind
theorem D_is {m : List (List Int)} {D : LP} (hc : Can D) (h0 : ∀ t ∈ D, 0 ≤ t.1) (hv : ∀ x, 1 ≤ x → evQ 0 x D = detE 0 (alM m) x) : D = ofL 0 (LS m m.length 1) :=
  evQ_inj (N := 0) hc (ofL_can _ _) (fun t ht => by have := h0 t ht; omega) (fun t ht => by have := ofL_0 t ht; omega) fun x hx => by
    rw [hv x hx, detE_dS, ← LS_ev, evQ_ofL 0 x _ 0 (by simp)]
    simp
theorem D_pal {m : List (List Int)} (e : Int) : cf (ofL 0 (LS m m.length 1)) ((m.length : Int) - e) = (-1) ^ m.length * cf (ofL 0 (LS m m.length 1)) e := by
  have hneg : ∀ e : Int, e < 0 → cf (ofL 0 (LS m m.length 1)) e = 0 := fun e he => cf_out fun t ht => by have := ofL_0 t ht; omega
  have hbig : ∀ e : Int, (m.length : Int) < e → cf (ofL 0 (LS m m.length 1)) e = 0 := fun e he => by
    rw [cf_ofL e _ 0 (by omega), List.getElem?_eq_none (by have := LS_len m m.length 1; omega)]; rfl
  rcases Int.lt_or_le e 0 with h | h
  · rw [hneg e h, hbig _ (by omega)]; simp
  · rcases Int.lt_or_le (m.length : Int) e with h2 | h2
    · rw [hbig e h2, hneg _ (by omega)]; simp
    · rw [cf_ofL _ _ 0 (by omega), cf_ofL e _ 0 h]
      have h3 := LS_pal m m.length e.toNat (by omega)
      rw [show ((m.length : Int) - e - 0).toNat = m.length - e.toNat by omega, show (e - 0).toNat = e.toNat by omega]
      exact h3
/-- the transposed matrix has the same determinant -/
theorem detE_tr {m k : List (List Int)} (hl : k.length = m.length) (hg : ∀ i j, i < m.length → j < m.length → gm k i j = gm m j i) (x : Int) : detE 0 (alM k) x = detE 0 (alM m) x := by
  rw [detE_dS, detE_dS, hl]
  unfold dS
  rw [dt_trans]
  refine dt_congr fun l hl j hj => ?_
  have hl' : l < m.length := by simpa using hl
  have hj' : j < m.length := by have := List.mem_range'_1.1 hj; omega
  rw [hg j l hj' hl', hg l j hl' hj']
end Go.Proofs.YtjeklcgfffibpaaGreatDoor

namespace Go.Proofs.YtjeklcgfffibpaaGreatDoor
open Go.RowKit Go.Shelf Go.Lib Go.Sort
set_option linter.unusedVariables false

def revT_ren : Go.Shelf.Ren := ⟨fun | 35 => 75 | n => n, fun | 22 => 37 | 23 => 68 | 3 => 3 | 4 => 4 | 0 => 0 | n => n, fun | n => n⟩
theorem revT : Go.Proofs.SlLaysE0.n35 Tryz.prog revT_ren := {
  mixed := by kernel_rfl
  f35 := ⟨Tryz.f75.name, by decide, Tryz.func75.trans (congrArg some (by kernel_rfl))⟩
  t0 := Tryz.underlying0
  a0 := Tryz.isAgg0
  z0 := Tryz.sizeOf0
  v0 := Tryz.zeroValue0
  t3 := Tryz.underlying3
  a3 := Tryz.isAgg3
  z3 := Tryz.sizeOf3
  v3 := Tryz.zeroValue3
  t4 := Tryz.underlying4
  a4 := Tryz.isAgg4
  z4 := Tryz.sizeOf4
  v4 := Tryz.zeroValue4
  t22 := Tryz.underlying37
  a22 := Tryz.isAgg37
  z22 := Tryz.sizeOf37
  v22 := Tryz.zeroValue37 }
section
variable {w : World} {g c base n : Nat} {d : Array (Int × Int)} {l : List (Int × Int)}
theorem rowT_heap {q : Nat} (h : q ≠ g) : (putRowK tc 2 (Sort.ahead w n) g 0 d).heap[q]? = w.heap[q]? := by
  unfold putRowK putRow mapBlock Sort.ahead
  show (w.heap.modify g _)[q]? = w.heap[q]?
  rw [Array.getElem?_modify, if_neg (fun e => h e.symm)]
theorem rowT_size : (putRowK tc 2 (Sort.ahead w n) g 0 d).heap.size = w.heap.size := by
  unfold putRowK putRow mapBlock Sort.ahead
  show (w.heap.modify g _).size = w.heap.size
  simp
theorem rowT_tb (h : TB w g) : TB (putRowK tc 2 (Sort.ahead w n) g 0 d) g := by
  obtain ⟨cs, fr, h⟩ := h
  unfold putRowK putRow mapBlock Sort.ahead TB
  show ∃ cs fr, (w.heap.modify g _)[g]? = some (.cells cs _ fr)
  rw [Array.getElem?_modify, if_pos rfl, h]
  exact ⟨_, fr, rfl⟩
theorem rowT_below (hb : base ≤ g) : Go.RowKit.Below base w (putRowK tc 2 (Sort.ahead w n) g 0 d) :=
  ⟨rfl, rfl, rfl, Nat.le_of_eq rowT_size.symm, fun q hq => rowT_heap (by omega)⟩
theorem own_holdsT (h : OwnT base w (.slice (some ⟨g, 0, none⟩) l.length c) l) : base ≤ g ∧ TB w g ∧ HoldsK tc 2 w g 0 l.toArray := by
  rcases h.2 with ⟨hv, _⟩ | ⟨g', cap, cur, hv, hg, hh, hn, _, hc, ht⟩
  · injection hv with hv; cases hv
  · injection hv with hv e2 e3
    injection hv with hv
    injection hv with hv _
    subst hv
    refine ⟨hg, ⟨_, _, hh⟩, fun j hj => ⟨?_, frozen_of_row w g _ _ _ hh⟩⟩
    rw [size_flatK] at hj
    have hj2 : j < l.length * 2 := by simpa using hj
    rw [get_flatK _ _ _ _ hj, cell_of_row w g _ cur _ (0, 0) hh, Nat.zero_add]
    have h1 := tflat_get l (j / 2) (j % 2) (by omega) (by omega)
    rw [show j / 2 * 2 + j % 2 = j by omega, ← ht, List.getElem?_take, if_pos hj2] at h1
    have h2 : (l.toArray)[j / 2]! = l[j / 2]'(by omega) := by
      rw [getElem!_pos l.toArray (j / 2) (by simp; omega)]; simp
    rw [h2]
    have h3 : cur[j]? = cur.toList[j]? := by simp
    rw [h3, h1]
    rcases (by omega : j % 2 = 0 ∨ j % 2 = 1) with q | q <;> rw [q] <;> rfl
theorem holds_tmsT (h : HoldsK tc 2 w g 0 d) (hb : TB w g) : Tms w (.slice (some ⟨g, 0, none⟩) d.size c) d.toList := by
  refine ⟨_, c, by simp, fun k hk => ⟨g, 0, rfl, ?_, ?_, hb⟩⟩
  · have h1 := (h (k * 2) (by rw [size_flatK]; simp at hk; omega)).1
    rw [get_flatK _ _ _ _ (by simp at hk; omega)] at h1
    have e : (tc d[k * 2 / 2]!)[k * 2 % 2]! = .int .i64 d.toList[k].1 := by
      rw [show k * 2 / 2 = k by omega, show k * 2 % 2 = 0 by omega]
      have : d[k]! = d.toList[k] := by simp at hk; rw [getElem!_pos d k hk]; simp
      rw [this]; rfl
    rw [e] at h1
    exact h1
  · have h1 := (h (k * 2 + 1) (by rw [size_flatK]; simp at hk; omega)).1
    rw [get_flatK _ _ _ _ (by simp at hk; omega)] at h1
    have e : (tc d[(k * 2 + 1) / 2]!)[(k * 2 + 1) % 2]! = .int .i64 d.toList[k].2 := by
      rw [show (k * 2 + 1) / 2 = k by omega, show (k * 2 + 1) % 2 = 1 by omega]
      have : d[k]! = d.toList[k] := by simp at hk; rw [getElem!_pos d k hk]; simp
      rw [this]; rfl
    rw [e] at h1
    rw [Nat.add_assoc]; exact h1
theorem revT_any (g c base : Nat) (l : List (Int × Int)) (w : World) (h : OwnT base w (.slice (some ⟨g, 0, none⟩) l.length c) l) (hl : l.length ≤ 9223372036854775807) :
    Calls Tryz.prog 75 #[.slice (some ⟨g, 0, none⟩) l.length c] w fun e w' => e = .returned (.tuple #[]) ∧ Tms w' (.slice (some ⟨g, 0, none⟩) l.length c) l.reverse ∧ Go.RowKit.Below base w w' ∧ ∀ k, k ≠ g → w'.heap[k]? = w.heap[k]? := by
  obtain ⟨hb, htb, hh⟩ := own_holdsT h
  have hcon := AnyQ.slices_Reverse revT 2 Tryz.isAgg68 Tryz.sizeOf68 tc (fun _ => rfl) (fun x v hv => by simp [tc] at hv; rcases hv with rfl | rfl <;> rfl) g 0 c l.toArray w hh (by simpa using hl)
  rw [show l.toArray.size = l.length by simp] at hcon
  refine Calls.mono hcon ?_
  rintro e w' ⟨rfl, n, rfl⟩
  have hd : HoldsK tc 2 (putRowK tc 2 (Sort.ahead w n) g 0 l.toArray.reverse) g 0 l.toArray.reverse := holdsK_putRowK tc 2 _ g 0 l.toArray _ (holdsK_ahead tc 2 w n g 0 _ hh) (by simp)
  have ht := holds_tmsT (c := c) hd (rowT_tb htb)
  rw [show l.toArray.reverse.size = l.length by simp, show l.toArray.reverse.toList = l.reverse by simp] at ht
  exact ⟨rfl, ht, rowT_below hb, fun k hk => rowT_heap hk⟩
end
end Go.Proofs.YtjeklcgfffibpaaGreatDoor

namespace Go.Proofs.YtjeklcgfffibpaaGreatDoor
open Go.RowKit
set_option linter.unusedVariables false

def movN (tq : Int → Int) : Pol → Pol
  | none => none
  | some l => if l.all (fun t => wiB (tq t.1) 1048576) = true then some (l.map (mvT tq)).reverse else none
structure CloN (fw : FuncId) (cv : Value) (tq : Int → Int) (w : World) : Prop where
  eg : ∀ args W, (callFunc fw args).run Tryz.prog W = .ok (.enter fw args) W
  ca : ∀ (e : Int) W, Below w.heap.size w W → -1048576 ≤ e → e ≤ 1048576 → Calls Tryz.prog fw #[.int .i64 e] W fun en w' => en = .returned (.int .i64 (tq e)) ∧ W = w'
  mono : ∀ a b : Int, a < b → tq b < tq a
  bd : ∀ e : Int, -1048576 ≤ e → e ≤ 1048576 → -4503599627370496 ≤ tq e ∧ tq e ≤ 4503599627370496
set_option maxHeartbeats 4000000 in
set_option maxRecDepth 100000 in
theorem movedN_any (fw : FuncId) (cv : Value) (tq : Int → Int) (vp : Value) (p : Pol) (w : World) (hf : CloN fw cv tq w) (hp : PolyV w vp p) (okp : okP p) :
    Calls Tryz.prog 49 #[vp, .func (.func fw) #[] #[]] w fun e w' => ∃ v, e = .returned v ∧ PolyV w' v (movN tq p) ∧ Below w.heap.size w w' := by
  obtain ⟨P, hP⟩ : ∃ P, P = movN tq p := ⟨_, rfl⟩
  rw [← hP]
  have HP := Lib.hid hP
  clear hP
  obtain ⟨A, c, rfl, hx⟩ := hp
  have HPT := Lib.hid (fun W (hb : Below w.heap.size w W) => hx.below hb)
  clear hx
  have hW : ∀ W, W = ((w.alloc (.cells #[.bool p.isNone, .slice A (p.getD []).length c] 39)).alloc (.cells #[.bool false, .slice none 0 0] 39)) → Arr W w.heap.size 39 [.bool p.isNone, .slice A (p.getD []).length c] ∧ Arr W (w.heap.size + 1) 39 [.bool false, .slice none 0 0] ∧ Below w.heap.size w W ∧ W.heap.size = w.heap.size + 2 := by
    intro W hW
    subst hW
    exact ⟨(Arr.new _ _ [_, _]).alloc _, Arr.newAt (w.alloc _) _ [_, _] _ (by simp), ((Below.refl _ _).alloc (Nat.le_refl _) _).alloc (by simp) _, by simp⟩
  go_enter Tryz.func49, Tryz.ntmps49
  go_upto_region 1 with fail
  generalize ((w.alloc (.cells #[.bool p.isNone, .slice A (p.getD []).length c] 39)).alloc (.cells #[.bool false, .slice none 0 0] 39)) = w3 at hW ⊢
  obtain ⟨qp, qr, hb3, hs3⟩ := hW w3 rfl
  clear hW
  have y0 := qp.cell 0
  have y1 := qp.cell 1
  cases p with
  | none =>
    have x0 := qr.cell 0
    have x1 := qr.cell 1
    have f0 := qr.frozen 0
    have f1 := qr.frozen 1
    have hres := Lib.hid ((qr.set 0 (.bool true)).set 1 (.slice A 0 c))
    clear hs3
    go_wp2_with fail
    refine bodyPost_ret (v := .agg #[.bool true, .slice A 0 c]) (results_c Tryz.results49 _ _ (w.heap.size + 1) 39 _ _ rfl hres.out Tryz.underlying39 rfl info_poly) rfl ?_
    exact ⟨_, rfl, by rw [HP.out]; exact ⟨A, c, rfl, ⟨A, c, rfl, fun k h => absurd h (Nat.not_lt_zero _)⟩⟩, (hb3.setCell (p := ⟨w.heap.size + 1, 0, none⟩) (by simp) _).setCell (p := ⟨w.heap.size + 1, 1, none⟩) (by simp) _⟩
  | some l =>
    obtain ⟨kl, liml⟩ := okp
    have ll := liml.len kl
    have HK := Lib.hid kl
    have HLI := Lib.hid liml
    have HF := Lib.hid hf
    have eg := hf.eg
    clear hf kl liml
    change w3.cell? ⟨w.heap.size, 0, none⟩ = some (.bool false) at y0
    change w3.cell? ⟨w.heap.size, 1, none⟩ = some (.slice A l.length c) at y1
    obtain ⟨cs, hmk, hcs⟩ := run_make_terms l.length (by omega) w3
    have HPT3 := Lib.hid (show Tms w3 (.slice A l.length c) l from HPT.out w3 hb3)
    go_upto_region 4 with fail
    have hst : MSt w (w.heap.size + 2 + 1) (.slice (some ⟨w.heap.size + 2, 0, none⟩) 0 l.length) [] ((w3.alloc (.cells cs 68)).alloc (.cells #[.bool false, .slice (some ⟨w.heap.size + 2, 0, none⟩) 0 l.length] 39)) := by
      have h1 := OwnT.made (w := w3) (base := w.heap.size + 2) (by omega) (by omega) hcs
      rw [hs3] at h1
      exact ⟨h1.below ((Below.refl _ _).alloc (Nat.le_refl _) _), Arr.newAt (w3.alloc _) _ [_, _] _ (by simp; omega), (qr.alloc _).alloc _, (hb3.alloc hb3.size _).alloc (by simp; omega) _, by omega⟩
    have y2 : ((w3.alloc (.cells cs 68)).alloc (.cells #[.bool false, .slice (some ⟨w.heap.size + 2, 0, none⟩) 0 l.length] 39)).cell? ⟨w.heap.size, 1, none⟩ = some (.slice A l.length c) := ((qp.alloc _).alloc _).cell 1
    have y3 : ((w3.alloc (.cells cs 68)).alloc (.cells #[.bool false, .slice (some ⟨w.heap.size + 2, 0, none⟩) 0 l.length] 39)).cell? ⟨w.heap.size, 0, none⟩ = some (.bool false) := ((qp.alloc _).alloc _).cell 0
    rw [hs3] at hmk
    generalize ((w3.alloc (.cells cs 68)).alloc (.cells #[.bool false, .slice (some ⟨w.heap.size + 2, 0, none⟩) 0 l.length] 39)) = w4 at *
    clear hmk hcs cs qp qr hs3 y0 y1 HPT3
    go_wp2_with fail
    go_loopg [7, 8, 20] l.length (fun gk s7 s8 s20 wr => ∃ (k : Nat) (s : Value), k ≤ l.length ∧ gk = l.length - k ∧ s20 = .int .i64 (k : Int) ∧ MSt w (w.heap.size + 2 + 1) s ((l.take k).map (mvT tq)) wr ∧ Hid (∀ t ∈ l.take k, wiB (tq t.1) 1048576 = true))
    case atStart => exact ⟨0, _, Nat.zero_le _, rfl, rfl, hst, Lib.hid (fun t h => by simp at h)⟩
    case round =>
      clear hst y2 y3 hb3
      obtain ⟨k, s, hk, rfl, rfl, hst, HT⟩ := hrel
      by_cases hlt : k < l.length
      · have z1 : (k : Int) < (l.length : Int) := by omega
        obtain ⟨b, o, rfl, _, y0, y1⟩ := (show Tms wr (.slice A l.length c) l from HPT.out wr hst.bel).at_ hlt
        have HL := Lib.hid (map_take_succ (tq := tq) hlt)
        have hex := HLI.out.ex l[k] (List.getElem_mem hlt)
        have hrl : ((l.take k).map (mvT tq)).length ≤ 10000000 := by simp; omega
        have HBad := Lib.hid (fun (h : wiB (tq l[k].1) 1048576 = false) => (show P = none from by
          rw [HP.out]; unfold movN
          refine if_neg fun h2 => ?_
          have := List.all_eq_true.1 h2 l[k] (List.getElem_mem hlt)
          rw [h] at this; cases this))
        have HT2 := Lib.hid (fun (h : wiB (tq l[k].1) 1048576 = true) => (show ∀ t ∈ l.take (k + 1), wiB (tq t.1) 1048576 = true from fun t ht => by
          rw [take_snoc' hlt] at ht
          rcases List.mem_append.1 ht with ht | ht
          · exact HT.out t ht
          · rw [List.mem_singleton.1 ht]; exact h))
        generalize l[k] = t at *
        obtain ⟨t1, t2⟩ := t
        dsimp only at *
        have hbd := HF.out.bd t1 hex.1 hex.2
        generalize (l.take k).map (mvT tq) = R at *
        have HST := Lib.hid (hst.alloc (.cells #[.int .i64 t1, .int .i64 t2] 68))
        have HQT := Lib.hid (Arr.new wr 68 [.int .i64 t1, .int .i64 t2])
        have hz5 : w.heap.size + 2 ≤ (wr.alloc (.cells #[.int .i64 t1, .int .i64 t2] 68)).heap.size := by have := hst.res.lt; simp; omega
        have HZ5 := Lib.hid hz5
        obtain ⟨As, ns, csx, rfl⟩ := hst.own.form3
        clear hst HT hz5
        go_upto_region 7 with fail
        have hqt : Arr (wr.alloc (.cells #[.int .i64 t1, .int .i64 t2] 68)) wr.heap.size 68 [.int .i64 t1, .int .i64 t2] := HQT.out
        have HCA := Lib.hid (HF.out.ca t1 _ HST.out.bel hex.1 hex.2)
        generalize wr.heap.size = g at *
        generalize (wr.alloc (.cells #[.int .i64 t1, .int .i64 t2] 68)) = w5 at *
        have x0 := hqt.cell 0
        have x1 := hqt.cell 1
        clear y0 y1 HQT hqt
        go_wp2_with fail
        refine HCA.out.mono ?_
        rintro e w6 ⟨rfl, rfl⟩
        clear HCA
        have HWI := Lib.hid (within_any (tq t1) 1048576 w5 (by omega) (by omega))
        obtain ⟨WB, hWB⟩ : ∃ z, z = wiB (tq t1) 1048576 := ⟨_, rfl⟩
        rw [← hWB] at HWI HBad HT2
        clear hWB
        have HMV := Lib.hid (show mvT tq (t1, t2) = (tq t1, t2) from rfl)
        rw [HMV.out] at HL
        generalize tq t1 = e1 at *
        clear HMV
        cases WB with
        | false =>
          have HPN := Lib.hid (HBad.out rfl)
          have qr := HST.out.res
          have x0 := qr.cell 0
          have x1 := qr.cell 1
          have f0 := qr.frozen 0
          have f1 := qr.frozen 1
          have HRS := Lib.hid ((qr.set 0 (.bool true)).set 1 (.slice none 0 0))
          have HBE := Lib.hid ((HST.out.bel.setCell (p := ⟨w.heap.size + 1, 0, none⟩) (by simp) (.bool true)).setCell (p := ⟨w.heap.size + 1, 1, none⟩) (by simp) (.slice none 0 0))
          clear qr HBad HT2 HL
          go_wp2_with fail
          refine HWI.out.mono ?_
          rintro e w6 ⟨rfl, rfl⟩
          go_wp2_with fail
          refine bodyPost_ret (v := .agg #[.bool true, .slice none 0 0]) (results_c Tryz.results49 _ _ (w.heap.size + 1) 39 _ _ rfl HRS.out Tryz.underlying39 rfl info_poly) rfl ?_
          exact ⟨_, rfl, by rw [HPN.out]; exact PolyV.big _, HBE.out⟩
        | true =>
          have HT3 := Lib.hid (HT2.out rfl)
          clear HBad HT2
          have q1 := HST.out.rr
          have y1 := q1.cell 1
          clear q1
          go_wp2_with fail
          refine HWI.out.mono ?_
          rintro e w6 ⟨rfl, rfl⟩
          have HUU := Lib.hid (Arr.new w5 68 [.int .i64 e1, .int .i64 t2])
          have HSA := Lib.hid (HST.out.alloc (.cells #[.int .i64 e1, .int .i64 t2] 68))
          have HRL := Lib.hid (show R.length ≤ 100000000 from by omega)
          have HSZ := Lib.hid (show w.heap.size + 2 ≤ (w5.alloc (.cells #[.int .i64 e1, .int .i64 t2] 68)).heap.size by have := HZ5.out; simp; omega)
          go_wp2_with (at_builtin; refine wpList_appT rfl (.tmp 33) (.tmp 38) rfl rfl HSA.out.own (m := (e1, t2)) rfl HUU.out HRL.out HSZ.out ?_; intro v' w1 hown1 hgr1; obtain ⟨q1, h2⟩ := HSA.out.app hown1 hgr1; obtain ⟨Av, nv, cv2, rfl⟩ := hown1.form3; have HN := Lib.hid h2; have f1 := q1.frozen 1; have yq := q1.cell 1; clear hown1 hgr1 q1 h2)
          go_roundg (l.length - (k + 1))
          case measure => omega
          case rel => exact ⟨k + 1, _, by omega, rfl, by go_num, by rw [HL.out]; exact HN.out, HT3⟩
      · have z1 : ¬ (k : Int) < (l.length : Int) := by omega
        have hkk : l.take k = l := List.take_of_length_le (by omega)
        rw [hkk] at hst HT
        have HE := Lib.hid (show P = some (l.map (mvT tq)).reverse from by
          rw [HP.out]; unfold movN
          exact if_pos (List.all_eq_true.2 HT.out))
        have HV := Lib.hid hst
        have htm := hst.own.tms
        obtain ⟨Ax, cx, rfl⟩ := hst.own.form
        have hln : (l.map (mvT tq)).length = l.length := by simp
        have qr := hst.res
        have q1 := hst.rr
        have y0 := q1.cell 0
        have y1 := q1.cell 1
        have f0 := qr.frozen 0
        have f1 := qr.frozen 1
        have x0 := qr.cell 0
        have x1 := qr.cell 1
        have HPV := Lib.hid (PolyV.own hst.own)
        rw [hln] at y1 HPV htm
        have HRS := Lib.hid ((qr.set 0 (.bool false)).set 1 (.slice Ax l.length cx))
        have HPB := Lib.hid ((HPV.out).box qr (.bool false) (.slice Ax l.length cx))
        have HBE := Lib.hid ((hst.bel.setCell (p := ⟨w.heap.size + 1, 0, none⟩) (by simp) (.bool false)).setCell (p := ⟨w.heap.size + 1, 1, none⟩) (by simp) (.slice Ax l.length cx))
        have HTM := Lib.hid htm
        clear htm
        clear hst qr q1 hkk hln
        go_upto_region 12 with fail
        by_cases h1 : l.length > 1
        · have z2 : (l.length : Int) > 1 := by omega
          have z3 : (1 : Int) < (l.length : Int) := by omega
          have z4 : (0 : Int) < (l.length : Int) := by omega
          obtain ⟨b, rfl⟩ : ∃ b, Ax = some ⟨b, 0, none⟩ := by
            rcases HV.out.own.2 with ⟨hv, h0⟩ | ⟨gb, cap, cur, hv, _⟩
            · exfalso; simp at h0; rw [h0] at h1; simp at h1
            · injection hv with hv; exact ⟨gb, hv⟩
          have u0 := (HTM.out.cells (k := 0) (by rw [List.length_map]; omega)).1
          have u1 := (HTM.out.cells (k := 1) (by rw [List.length_map]; omega)).1
          simp only [Nat.zero_mul, Nat.add_zero, Nat.one_mul, Nat.zero_add] at u0 u1
          have hs01 : (mvT tq l[1]).1 < (mvT tq l[0]).1 := HF.out.mono _ _ (List.pairwise_iff_getElem.1 HK.out.srt 0 1 (by omega) (by omega) (by omega))
          have m0 : ((l.map (mvT tq))[0]'(by rw [List.length_map]; omega)) = mvT tq l[0] := by simp
          have m1 : ((l.map (mvT tq))[1]'(by rw [List.length_map]; omega)) = mvT tq l[1] := by simp
          rw [m0] at u0
          rw [m1] at u1
          generalize (mvT tq l[0]).1 = a0 at *
          generalize (mvT tq l[1]).1 = a1 at *
          have z5 : decide (a1 < a0) = true := by simp; omega
          have z6 : a0 > a1 := hs01
          have HRV := Lib.hid (fun nq => by
            have h := revT_any b cx (w.heap.size + 2) (l.map (mvT tq)) (wr.drewN nq) (HV.out.own.drewN nq) (by rw [List.length_map]; omega)
            rw [show (l.map (mvT tq)).length = l.length by simp] at h
            exact h)
          clear m0 m1 HTM h1 hs01
          go_quiet (fail)
          have HRN := Lib.hid (HRV.out nq)
          clear HRV
          go_wp2_with fail
          refine HRN.out.mono ?_
          rintro e w9 ⟨rfl, htm, hb9, hk9⟩
          have hne1 : w.heap.size + 2 + 1 ≠ b := fun e => HV.out.own.apart HV.out.rr (by decide) (by simp [Value.ownBlock, e])
          have hne2 : w.heap.size + 1 ≠ b := fun e => HV.out.own.apart HV.out.res (by decide) (by simp [Value.ownBlock, e])
          have q1 : Arr w9 (w.heap.size + 2 + 1) 39 [.bool false, .slice (some ⟨b, 0, none⟩) l.length cx] := (hk9 _ hne1).trans (by
            have := HV.out.rr
            rw [show (l.map (mvT tq)).length = l.length by simp] at this
            exact this)
          have qr : Arr w9 (w.heap.size + 1) 39 [.bool false, .slice none 0 0] := (hk9 _ hne2).trans HV.out.res
          have hbw : Below w.heap.size w w9 := (bdrewN HV.out.bel nq).trans (hb9.mono (by omega))
          have hpv : PolyV w9 (.agg #[.bool false, .slice (some ⟨b, 0, none⟩) l.length cx]) (some (l.map (mvT tq)).reverse) := ⟨some ⟨b, 0, none⟩, cx, by simp, by simpa using htm⟩
          clear u0 u1 x0 x1 f0 f1 y0 y1 HRN htm hb9 hk9
          have y0 := q1.cell 0
          have y1 := q1.cell 1
          have f0 := qr.frozen 0
          have f1 := qr.frozen 1
          have x0 := qr.cell 0
          have x1 := qr.cell 1
          have HRS2 := Lib.hid ((qr.set 0 (.bool false)).set 1 (.slice (some ⟨b, 0, none⟩) l.length cx))
          have HPB2 := Lib.hid (hpv.box qr (.bool false) (.slice (some ⟨b, 0, none⟩) l.length cx))
          have HBE2 := Lib.hid ((hbw.setCell (p := ⟨w.heap.size + 1, 0, none⟩) (by simp) (.bool false)).setCell (p := ⟨w.heap.size + 1, 1, none⟩) (by simp) (.slice (some ⟨b, 0, none⟩) l.length cx))
          clear q1 qr hbw hpv
          go_wp2_with fail
          refine bodyPost_ret (v := .agg #[.bool false, .slice (some ⟨b, 0, none⟩) l.length cx]) (results_c Tryz.results49 _ _ (w.heap.size + 1) 39 _ _ rfl HRS2.out Tryz.underlying39 rfl info_poly) rfl ?_
          exact ⟨_, rfl, by rw [HE.out]; exact HPB2.out, HBE2.out⟩
        · have z2 : ¬ (l.length : Int) > 1 := by omega
          have z3 : decide ((1 : Int) < (l.length : Int)) = false := by simp; omega
          have HRE := Lib.hid (show (l.map (mvT tq)).reverse = l.map (mvT tq) from by
            rcases l with _ | ⟨t, _ | ⟨u, l⟩⟩
            · rfl
            · rfl
            · simp at h1)
          go_quiet (fail)
          go_wp2_with fail
          refine bodyPost_ret (v := .agg #[.bool false, .slice Ax l.length cx]) (results_c Tryz.results49 _ _ (w.heap.size + 1) 39 _ _ rfl (HRS.out.drewN nq) Tryz.underlying39 rfl info_poly) rfl ?_
          exact ⟨_, rfl, by rw [HE.out, HRE.out]; exact HPB.out, bdrewN HBE.out nq⟩
end Go.Proofs.YtjeklcgfffibpaaGreatDoor

namespace Go.Proofs.YtjeklcgfffibpaaGreatDoor
open Go.RowKit
set_option linter.unusedVariables false

set_option maxHeartbeats 1000000 in
theorem clo_flip (w : World) : CloN 50 (.bool false) (fun e => -e) w where
  eg := enters_of Tryz.func50 (by kernel_rfl) rfl
  ca := fun e W hbw h1 h2 => by
    have hw : IntKind.i64.wrap (-e) = -e := IntWalk.i64_in _ (by omega)
    clear hbw
    go_enter Tryz.func50, Tryz.ntmps50
    go_wp2_with fail
    go_ret
    exact ⟨rfl, rfl⟩
  mono := fun a b h => by omega
  bd := fun e h1 h2 => by omega
set_option maxHeartbeats 1000000 in
set_option maxRecDepth 100000 in
theorem Flip_any (vp : Value) (p : Pol) (w : World) (hp : PolyV w vp p) (okp : okP p) :
    Calls Tryz.prog 22 #[vp] w fun e w' => ∃ v, e = .returned v ∧ PolyV w' v (movN (fun e => -e) p) ∧ Below w.heap.size w w' := by
  have HPV := Lib.hid (fun W (hb : Below w.heap.size w W) => hp.below hb)
  obtain ⟨b1, A, n1, c, rfl, j1, j2⟩ := hp.parts
  clear hp j1 j2
  have hW : ∀ W, W = ((w.alloc (.cells #[.bool b1, .slice A n1 c] 39)).alloc (.cells #[.bool false, .slice none 0 0] 39)) → Arr W w.heap.size 39 [.bool b1, .slice A n1 c] ∧ Arr W (w.heap.size + 1) 39 [.bool false, .slice none 0 0] ∧ Below w.heap.size w W := by
    intro W hW
    subst hW
    exact ⟨(Arr.new _ _ [_, _]).alloc _, Arr.newAt (w.alloc _) _ [_, _] _ (by simp), ((Below.refl _ _).alloc (Nat.le_refl _) _).alloc (by simp) _⟩
  go_enter Tryz.func22, Tryz.ntmps22
  go_upto_region 1 with fail
  generalize ((w.alloc (.cells #[.bool b1, .slice A n1 c] 39)).alloc (.cells #[.bool false, .slice none 0 0] 39)) = w3 at hW ⊢
  obtain ⟨qp, qr, hb3⟩ := hW w3 rfl
  clear hW
  have y0 := qp.cell 0
  have y1 := qp.cell 1
  have HM := Lib.hid (movedN_any 50 (.bool false) (fun e => -e) (.agg #[.bool b1, .slice A n1 c]) p w3 (clo_flip w3) (HPV.out w3 hb3) okp)
  have HQ := Lib.hid qr
  have HB := Lib.hid hb3
  clear hb3 qp qr
  go_wp2_with fail
  refine HM.out.mono ?_
  rintro e w4 ⟨v, rfl, hv, hb4⟩
  have q4 := HQ.out.below hb4 HQ.out.lt
  have HB4 := Lib.hid (HB.out.trans (hb4.mono HB.out.size))
  have HV := Lib.hid (fun u1 u2 => hv.box q4 u1 u2)
  obtain ⟨b5, A5, n5, c5, rfl, j5, j6⟩ := hv.parts
  clear j5 j6
  have x0 := q4.cell 0
  have x1 := q4.cell 1
  have f0 := q4.frozen 0
  have f1 := q4.frozen 1
  have hres := Lib.hid ((q4.set 0 (.bool b5)).set 1 (.slice A5 n5 c5))
  clear hv hb4 HM q4 y0 y1
  go_wp2_with fail
  refine bodyPost_ret (v := .agg #[.bool b5, .slice A5 n5 c5]) (results_c Tryz.results22 _ _ (w.heap.size + 1) 39 _ _ rfl hres.out Tryz.underlying39 rfl info_poly) rfl ?_
  exact ⟨_, rfl, HV.out _ _, (HB4.out.setCell (p := ⟨w.heap.size + 1, 0, none⟩) (by simp) _).setCell (p := ⟨w.heap.size + 1, 1, none⟩) (by simp) _⟩
end Go.Proofs.YtjeklcgfffibpaaGreatDoor
