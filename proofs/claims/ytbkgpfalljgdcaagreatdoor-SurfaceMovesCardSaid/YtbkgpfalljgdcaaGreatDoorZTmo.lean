/- Slices of elements of some cells: a part of a slice reads as the part of the list. -/
/- polymatrix.field.residues: plain functions; the matrix of terms in memory. -/
/- polymatrix.termsOf. -/
import Derived.Test.YtbkgpfalljgdcaaGreatDoorZAps
import Derived.Test.YtbkgpfalljgdcaaGreatDoorZTrw
import Derived.Test.YtbkgpfalljgdcaaGreatDoorZDia
namespace Go.Proofs.YtbkgpfalljgdcaaGreatDoor
open Go.RowKit
set_option linter.unusedVariables false

section
variable {α : Type} {enc : α → List Value} {sz : Nat} {w : World}
theorem flat_len (hl : ∀ x, (enc x).length = sz) (ys : List α) : (ys.flatMap enc).length = ys.length * sz := by
  induction ys with
  | nil => simp
  | cons x xs ih => rw [List.flatMap_cons, List.length_append, ih, hl, List.length_cons, Nat.succ_mul]; omega
theorem flat_get (hl : ∀ x, (enc x).length = sz) : ∀ (ys : List α) (k j : Nat) (h : k < ys.length), j < sz → (ys.flatMap enc)[k * sz + j]? = (enc ys[k])[j]? := by
  intro ys
  induction ys with
  | nil => intro k j h; simp at h
  | cons m l ih =>
    intro k j h hj
    rw [List.flatMap_cons]
    cases k with
    | zero => rw [List.getElem?_append_left (by rw [hl]; omega)]; simp
    | succ k =>
      rw [List.getElem?_append_right (by rw [hl, Nat.succ_mul]; omega)]
      have := ih k j (by simpa using h) hj
      rw [show (k + 1) * sz + j - (enc m).length = k * sz + j from by rw [hl, Nat.succ_mul]; omega, this]
      simp
theorem flat_drop (hl : ∀ x, (enc x).length = sz) : ∀ (k : Nat) (ys : List α), (ys.drop k).flatMap enc = (ys.flatMap enc).drop (k * sz)
  | 0, ys => by simp
  | k + 1, [] => by simp
  | k + 1, y :: ys => by
    have e1 : (enc y).drop ((k + 1) * sz) = [] := List.drop_eq_nil_of_le (by rw [hl, Nat.succ_mul]; omega)
    have e2 : (k + 1) * sz - sz = k * sz := by rw [Nat.succ_mul]; omega
    rw [List.drop_succ_cons, flat_drop hl k ys, List.flatMap_cons, List.drop_append, e1, hl, e2, List.nil_append]
theorem flat_take (hl : ∀ x, (enc x).length = sz) : ∀ (k : Nat) (ys : List α), (ys.take k).flatMap enc = (ys.flatMap enc).take (k * sz)
  | 0, ys => by simp
  | k + 1, [] => by simp
  | k + 1, y :: ys => by
    have e1 : (enc y).take ((k + 1) * sz) = enc y := List.take_of_length_le (by rw [hl, Nat.succ_mul]; omega)
    have e2 : (k + 1) * sz - sz = k * sz := by rw [Nat.succ_mul]; omega
    rw [List.take_succ_cons, List.flatMap_cons, List.flatMap_cons, flat_take hl k ys, List.take_append, e1, hl, e2]
/-- a part of a slice reads as the part of the list -/
theorem SlA.sub (hl : ∀ x, (enc x).length = sz) (hs : 0 < sz) {A : Option Addr} {n c lo hi : Nat} {ys : List α} (h : SlA enc w (.slice A n c) ys) (h1 : lo ≤ hi) (h2 : hi ≤ ys.length) (c' : Nat) (hc : hi - lo ≤ c') (A' : Option Addr) (hA : lo < hi → A' = A.map (·.add (lo * sz))) :
    SlA enc w (.slice A' (hi - lo) c') ((ys.take hi).drop lo) := by
  obtain ⟨A0, c0, hv, hcap, hx⟩ := h
  injection hv with e1 e2 e3
  subst e1
  have hlen : ((ys.take hi).drop lo).length = hi - lo := by simp; omega
  refine ⟨A', c', by rw [hlen], by omega, fun j q hq => ?_⟩
  have hj : j < ((ys.take hi).drop lo).length * sz := by
    have := (List.getElem?_eq_some_iff.1 hq).1
    rwa [flat_len hl] at this
  rw [hlen] at hj
  have hlt : lo < hi := by
    rcases Nat.lt_or_ge lo hi with q | q
    · exact q
    · rw [show hi - lo = 0 by omega, Nat.zero_mul] at hj; omega
  rw [flat_drop hl, List.getElem?_drop, flat_take hl, List.getElem?_take, if_pos (by
    have : lo * sz + (hi - lo) * sz = hi * sz := by rw [← Nat.add_mul]; congr 1; omega
    omega)] at hq
  obtain ⟨b, o, hA0, hcell⟩ := hx _ q hq
  subst hA0
  refine ⟨b, o + lo * sz, ?_, by rw [Nat.add_assoc]; exact hcell⟩
  rw [hA hlt]
  simp only [Option.map_some, Addr.add]
  split <;> simp_all
end
end Go.Proofs.YtbkgpfalljgdcaaGreatDoor

namespace Go.Proofs.YtbkgpfalljgdcaaGreatDoor
open Go.RowKit
set_option linter.unusedVariables false

/-- a term: exponent, coefficient -/
abbrev TE := Nat × Int
def eT1 (t : TE) : List Value := [.int .i64 (t.1 : Int), .int .i64 t.2]
theorem eT1_length (t : TE) : (eT1 t).length = 2 := rfl
theorem SlA.t1 {w : World} {A : Option Addr} {n c k : Nat} {l : List TE} (h : SlA eT1 w (.slice A n c) l) (hk : k < l.length) : ∃ b o, A = some ⟨b, o, none⟩ ∧ n = l.length ∧ w.cell? ⟨b, o + k * 2, none⟩ = some (.int .i64 (l[k].1 : Int)) ∧ w.cell? ⟨b, o + k * 2 + 1, none⟩ = some (.int .i64 l[k].2) := by
  obtain ⟨A0, c0, hv, hc, hx⟩ := h
  injection hv with e1 e2 e3
  subst e1
  have q0 := flat_get eT1_length l k 0 hk (by omega)
  have q1 := flat_get eT1_length l k 1 hk (by omega)
  obtain ⟨b, o, rfl, h0⟩ := hx _ _ (q0.trans rfl)
  obtain ⟨b', o', hA, h1⟩ := hx _ _ (q1.trans rfl)
  injection hA with hA
  injection hA with hb ho
  subst hb; subst ho
  exact ⟨b, o, rfl, e2, h0, by rw [Nat.add_assoc]; exact h1⟩
/-- v is a slice whose elements read as xs by P -/
def SlN {α : Type} (P : World → Value → α → Prop) (w : World) (v : Value) (xs : List α) : Prop :=
  ∃ A c, v = .slice A xs.length c ∧ xs.length ≤ c ∧ ∀ i x, xs[i]? = some x → ∃ b o, A = some ⟨b, o, none⟩ ∧ ∃ u, w.cell? ⟨b, o + i, none⟩ = some u ∧ P w u x
section
variable {α : Type} {P : World → Value → α → Prop} {w w' : World} {v : Value} {xs : List α}
theorem SlN.below (hP : ∀ u x, P w u x → P w' u x) (h : SlN P w v xs) (hb : Below w.heap.size w w') : SlN P w' v xs := by
  obtain ⟨A, c, e, hc, hx⟩ := h
  refine ⟨A, c, e, hc, fun i x hi => ?_⟩
  obtain ⟨b, o, hA, u, hu, hp⟩ := hx i x hi
  exact ⟨b, o, hA, u, (hb.cell (block_lt_of_cell hu)).trans hu, hP u x hp⟩
theorem SlN.at_ {A : Option Addr} {n c i : Nat} (h : SlN P w (.slice A n c) xs) (hi : i < xs.length) : ∃ b o, A = some ⟨b, o, none⟩ ∧ n = xs.length ∧ ∃ u, w.cell? ⟨b, o + i, none⟩ = some u ∧ P w u xs[i] := by
  obtain ⟨A', c', e, hc, hx⟩ := h
  injection e with e1 e2 e3
  subst e1
  obtain ⟨b, o, hA, u, hu, hp⟩ := hx i xs[i] (List.getElem?_eq_getElem hi)
  exact ⟨b, o, hA, e2, u, hu, hp⟩
theorem SlN.form (h : SlN P w v xs) : ∃ A c, v = .slice A xs.length c := by
  obtain ⟨A, c, e, _⟩ := h; exact ⟨A, c, e⟩
end
def RowT (w : World) (v : Value) (r : List (List TE)) : Prop := SlN (fun w u l => SlA eT1 w u l) w v r
def EntT (w : World) (v : Value) (m : List (List (List TE))) : Prop := SlN RowT w v m
theorem RowT.below {w w' : World} {v : Value} {r : List (List TE)} (h : RowT w v r) (hb : Below w.heap.size w w') : RowT w' v r := SlN.below (fun _ _ q => SlA.below q hb) h hb
theorem EntT.below {w w' : World} {v : Value} {m : List (List (List TE))} (h : EntT w v m) (hb : Below w.heap.size w w') : EntT w' v m := SlN.below (fun _ _ q => RowT.below q hb) h hb

/-- the number of bits -/
def lgN (n : Nat) : Nat := if n = 0 then 0 else n.log2 + 1
theorem lgN_gt (n : Nat) : n < 2 ^ lgN n := by
  unfold lgN; split
  · next h => rw [h]; decide
  · exact Nat.lt_log2_self
theorem lgN_le {n j : Nat} (h : j < lgN n) : 2 ^ j ≤ n := by
  unfold lgN at h; split at h
  · omega
  · next h0 => exact Nat.le_trans (Nat.pow_le_pow_right (by omega) (show j ≤ n.log2 by omega)) (Nat.log2_self_le h0)
theorem lgN_bound {n k : Nat} (h : n < 2 ^ k) : lgN n ≤ k := by
  rcases Nat.lt_or_ge k (lgN n) with q | q
  · have := lgN_le q; omega
  · exact q
/-- squared k times -/
def rtF (p r : Nat) : Nat → Nat
  | 0 => r
  | k + 1 => rtF p r k * rtF p r k % p
theorem rtF_lt {p r : Nat} (h : r < p) : ∀ k, rtF p r k < p
  | 0 => h
  | k + 1 => Nat.mod_lt _ (by omega)
/-- the value of a term added -/
def trmA (p : Nat) (pws : List Nat) (at_ size : Nat) (a : Nat) (t : TE) : Nat := addF p a (ofF p t.2 * gn pws (t.1 * at_ % size) % p)
def entA (p : Nat) (pws : List Nat) (at_ size : Nat) (ts : List TE) : Nat := ts.foldl (trmA p pws at_ size) 0
def rowA (p : Nat) (pws : List Nat) (at_ size : Nat) (r : List (List TE)) : List Nat := r.map (entA p pws at_ size)
def matA (p : Nat) (pws : List Nat) (at_ size : Nat) (m : List (List (List TE))) : List (List Nat) := m.map (rowA p pws at_ size)
/-- coefficients are within the field -/
def SmT (p : Nat) (l : List TE) : Prop := ∀ t ∈ l, t.2.natAbs < p ∧ t.1 < 131072
theorem trmA_lt {p a at_ size : Nat} {pws : List Nat} {t : TE} (hp : 0 < p) (ha : a < p) : trmA p pws at_ size a t < p := addF_lt ha (Nat.mod_lt _ hp)
theorem foldA_lt {p at_ size : Nat} {pws : List Nat} (hp : 0 < p) : ∀ (l : List TE) (a : Nat), a < p → l.foldl (trmA p pws at_ size) a < p
  | [], a, h => h
  | t :: l, a, h => foldA_lt hp l _ (trmA_lt hp h)
theorem entA_lt {p at_ size : Nat} {pws : List Nat} (hp : 0 < p) (l : List TE) : entA p pws at_ size l < p := foldA_lt hp l 0 hp
theorem foldA_take {p at_ size : Nat} {pws : List Nat} {l : List TE} {k : Nat} (hk : k < l.length) : (l.take (k + 1)).foldl (trmA p pws at_ size) 0 = trmA p pws at_ size ((l.take k).foldl (trmA p pws at_ size) 0) l[k] := by
  rw [List.take_succ_eq_append_getElem hk, List.foldl_append]; rfl
def pwL (p r size : Nat) : List Nat := (List.range size).map (twF p r)
/-- the values of the determinant -/
def valA (p r size : Nat) (m : List (List (List TE))) : List Nat := (List.range size).map fun at_ => detG p m.length (matA p (pwL p r size) at_ size m) 0 1
/-- what residues returns -/
def resA (p rt : Nat) (m : List (List (List TE))) (deg : Nat) : List Nat :=
  ((trF p (lgN deg) (valA p (rtF p rt (17 - lgN deg)) (2 ^ lgN deg) m) (fInv p (rtF p rt (17 - lgN deg)))).map fun x => x * fInv p (2 ^ lgN deg) % p).take (deg + 1)
theorem gr_matA {p at_ size : Nat} {pws : List Nat} {m : List (List (List TE))} {i : Nat} (h : i < m.length) : gr (matA p pws at_ size m) i = rowA p pws at_ size m[i] := by
  unfold gr matA; rw [List.getElem?_map, List.getElem?_eq_getElem h]; rfl
theorem rowA_eq (p at_ size : Nat) (pws : List Nat) (r : List (List TE)) : rowA p pws at_ size r = (List.range r.length).map fun k => entA p pws at_ size (r[k]?.getD []) := by
  apply List.ext_getElem
  · simp [rowA]
  · intro i h1 h2
    have h3 : i < r.length := by simpa [rowA] using h1
    simp [rowA, h3]
theorem ltm_matA {p : Nat} (hp : 0 < p) (at_ size : Nat) (pws : List Nat) (m : List (List (List TE))) : Ltm p (matA p pws at_ size m) := by
  intro i j
  unfold ge
  by_cases h : i < m.length
  · rw [gr_matA h, rowA_eq]; exact map_range_lt hp (fun k => entA_lt hp _) j
  · rw [gr_out (by simp [matA]; omega), gn_out (by simp)]; exact hp
theorem detG_lt {p : Nat} (hp : 0 < p) : ∀ (f : Nat) (A : List (List Nat)) (k d : Nat), d < p → detG p f A k d < p
  | 0, A, k, d, h => h
  | f + 1, A, k, d, h => by
    rw [detG]
    split
    · exact detG_lt hp f _ _ _ (mdD_lt hp _ _ _ _)
    · exact hp
/-- scaled before i -/
def sclN (p sc : Nat) (T : List Nat) (i : Nat) : List Nat := (List.range T.length).map fun j => if j < i then gn T j * sc % p else gn T j
theorem sclN_length (p sc : Nat) (T : List Nat) (i : Nat) : (sclN p sc T i).length = T.length := by simp [sclN]
theorem sclN_zero (p sc : Nat) (T : List Nat) : sclN p sc T 0 = T := by
  apply gn_ext (sclN_length _ _ _ _)
  intro i hi
  rw [sclN_length] at hi
  unfold sclN; rw [gn_map_range, if_pos hi, if_neg (by omega)]
theorem gn_sclN_at {p sc : Nat} {T : List Nat} {i : Nat} (h : i < T.length) : gn (sclN p sc T i) i = gn T i := by
  unfold sclN; rw [gn_map_range, if_pos h, if_neg (by omega)]
theorem sclN_step {p sc : Nat} {T : List Nat} {i : Nat} (h : i < T.length) : (sclN p sc T i).set i (gn T i * sc % p) = sclN p sc T (i + 1) := by
  apply gn_ext (by simp [sclN])
  intro j hj
  have hj' : j < T.length := by simpa [sclN] using hj
  rw [gn_set _ _ _ _ (by rw [sclN_length]; exact h)]
  unfold sclN
  rw [gn_map_range, gn_map_range, if_pos hj', if_pos hj']
  by_cases e : j = i
  · subst e; rw [if_pos rfl, if_pos (by omega)]
  · rw [if_neg e]
    by_cases q : j < i
    · rw [if_pos q, if_pos (by omega)]
    · rw [if_neg q, if_neg (by omega)]
theorem sclN_all (p sc : Nat) (T : List Nat) : sclN p sc T T.length = T.map fun x => x * sc % p := by
  apply List.ext_getElem (by simp [sclN])
  intro i h1 h2
  have h3 : i < T.length := by simpa [sclN] using h1
  simp [sclN, gn, h3]
theorem info_us : (Tryz.prog.info? 118).map (fun i => (i.zero, i.size, i.bytes)) = some (some (.slice none 0 0), 1, 24) := by kernel_rfl
theorem mk_rows64 (n : Nat) (hn : n ≤ 1000000) (W : World) : (Instr.makeSlice 144 (.int .i64 (n : Int)) (.int .i64 (n : Int))).run Tryz.prog W = .ok (.slice (some ⟨W.heap.size, 0, none⟩) n n) (W.alloc (.cells (rowOf (List.replicate n (.slice none 0 0))) 118)) := by
  obtain ⟨i, hi, hz, hs, hb⟩ : ∃ i, Tryz.prog.info? 118 = some i ∧ i.zero = some (.slice none 0 0) ∧ i.size = 1 ∧ i.bytes = 24 := by
    have h := info_us
    cases hi : Tryz.prog.info? 118 with
    | none => rw [hi] at h; cases h
    | some i =>
      rw [hi] at h
      simp only [Option.map_some, Option.some.injEq, Prod.mk.injEq] at h
      exact ⟨i, rfl, h.1, h.2.1, h.2.2⟩
  exact run_make_one (P := Tryz.prog) 144 118 i (.slice none 0 0) Tryz.underlying144 hi hz hs rfl (by omega) n (by omega) W
/-- first blocks that were there, then new ones -/
theorem Wr.far {L L' : List Nat} {a b c : World} (h : Wr L a b) (k : Wr L' b c) (hf : ∀ x ∈ L', a.heap.size ≤ x) : Wr L a c :=
  ⟨k.os.trans h.os, k.tape.trans h.tape, k.output.trans h.output, Nat.le_trans h.size k.size, fun i h1 h2 => (k.block i (Nat.lt_of_lt_of_le h1 h.size) (fun q => by have := hf i q; omega)).trans (h.block i h1 h2)⟩
/-- the rows before i are made -/
structure Pm (n gm : Nat) (w8 : World) (MA : List (List Nat)) (i : Nat) (bs : List Nat) (w : World) : Prop where
  len : bs.length = i
  inj : ∀ (x y b : Nat), bs[x]? = some b → bs[y]? = some b → x = y
  big : ∀ b ∈ bs, w8.heap.size ≤ b ∧ b < w.heap.size
  outer : Arr w gm 118 (bs.map (hd n) ++ List.replicate (n - i) (.slice none 0 0))
  row : ∀ (j b : Nat), bs[j]? = some b → Arr w b 115 (uc (gr MA j))
  wr : Wr [gm] w8 w
theorem Pm.next {n gm : Nat} {w8 : World} {MA : List (List Nat)} {i : Nat} {bs : List Nat} {w w10 : World} {o : Obj} (h : Pm n gm w8 MA i bs w) (hgm : gm < w8.heap.size) (hi : i < n)
    (h1 : Wr [w.heap.size] ((w.alloc o).setCell ⟨gm, i, none⟩ (.slice (some ⟨w.heap.size, 0, none⟩) n n)) w10) (h2 : Arr w10 w.heap.size 115 (uc (gr MA i))) : Pm n gm w8 MA (i + 1) (bs ++ [w.heap.size]) w10 := by
  have hs := h.wr.size
  have ha := (Below.refl w.heap.size w).alloc (Nat.le_refl _) o
  have e1 : (w.alloc o).heap.size = w.heap.size + 1 := by simp
  have on := (Onl.refl gm (w.alloc o)).setCell i (.slice (some ⟨w.heap.size, 0, none⟩) n n)
  have ho := (h.outer.alloc o).set i (.slice (some ⟨w.heap.size, 0, none⟩) n n)
  have el : (bs.map (hd n) ++ List.replicate (n - i) (Value.slice none 0 0)).set i (.slice (some ⟨w.heap.size, 0, none⟩) n n) = (bs ++ [w.heap.size]).map (hd n) ++ List.replicate (n - (i + 1)) (.slice none 0 0) := by
    rw [List.set_append_right i _ (by simp [h.len]), List.map_append, List.length_map, h.len, Nat.sub_self, show n - i = n - (i + 1) + 1 by omega, List.replicate_succ, List.set_cons_zero]
    simp [hd]
  rw [el] at ho
  have nb : ∀ b ∈ bs, b ∉ [w.heap.size] := fun b hb q => by have := List.mem_singleton.1 q; have := (h.big b hb).2; omega
  have ng : gm ∉ [w.heap.size] := fun q => by have := List.mem_singleton.1 q; omega
  refine ⟨by simp [h.len], ?_, ?_, ho.wr h1 ng, ?_, ?_⟩
  · intro x y b hx hy
    rw [List.getElem?_append] at hx hy
    split at hx
    · split at hy
      · exact h.inj x y b hx hy
      · next q1 q2 =>
        exfalso
        have hb := (h.big b (List.mem_of_getElem? hx)).2
        have := List.mem_singleton.1 (List.mem_of_getElem? hy)
        omega
    · split at hy
      · exfalso
        have hb := (h.big b (List.mem_of_getElem? hy)).2
        have := List.mem_singleton.1 (List.mem_of_getElem? hx)
        omega
      · have l1 := (List.getElem?_eq_some_iff.1 hx).1
        have l2 := (List.getElem?_eq_some_iff.1 hy).1
        simp at l1 l2
        omega
  · intro b hb
    have hz := h1.size
    rw [on.size, e1] at hz
    rcases List.mem_append.1 hb with q | q
    · have := h.big b q; omega
    · have := List.mem_singleton.1 q; omega
  · intro j b hj
    rw [List.getElem?_append] at hj
    split at hj
    · next q =>
      have hm := List.mem_of_getElem? hj
      have hbb := h.big b hm
      exact (((h.row j b hj).alloc o).onl on (by omega)).wr h1 (nb b hm)
    · next q =>
      have l1 := (List.getElem?_eq_some_iff.1 hj).1
      have hb := List.mem_singleton.1 (List.mem_of_getElem? hj)
      simp at l1
      have ej : j = i := by have := h.len; omega
      rw [hb, ej]; exact h2
  · exact ((h.wr.alloc o).setCell (List.mem_singleton.2 rfl) i _).far h1 (fun x hx => by have := List.mem_singleton.1 hx; omega)
theorem Pm.mu {n gm : Nat} {w8 : World} {MA : List (List Nat)} {bs : List Nat} {w : World} (h : Pm n gm w8 MA n bs w) (hgm : gm < w8.heap.size) (hl : MA.length = n) (hc : ∀ i, i < n → (gr MA i).length = n) : MU w gm bs n MA := by
  refine ⟨by rw [h.len, hl], h.inj, fun q => by have := (h.big gm q).1; omega, ?_, h.row, fun i hi => hc i (by omega)⟩
  have := h.outer
  rwa [Nat.sub_self, List.replicate_zero, List.append_nil] at this
end Go.Proofs.YtbkgpfalljgdcaaGreatDoor

namespace Go.Proofs.YtbkgpfalljgdcaaGreatDoor
open Go.RowKit
set_option linter.unusedVariables false

theorem info_pte : (Tryz.prog.info? 111).map (fun i => (i.zero, i.size, i.bytes)) = some (some (.agg #[.int .i64 0, .int .i64 0]), 2, 16) := by kernel_rfl
theorem elT : ElA Tryz.prog 111 2 eT1 where
  ex := by
    obtain ⟨i, hi, hz, hs, hb⟩ := info_parts info_pte
    exact ⟨i, _, 16, hi, hz, hs, hb, rfl, by omega⟩
  pos := by omega
  len := fun x => rfl
  one := fun x q h => by unfold eT1 at h; simp at h; rcases h with rfl | rfl <;> rfl
/-- a list of terms of the call's own -/
abbrev OwnE (base : Nat) (w : World) (v : Value) (l : List TE) : Prop := OwnA 111 2 eT1 base w v l
/-- what termsOf returns -/
def tmO (low : Int) (l : List (Int × Int)) : List TE := l.map fun t => ((t.1 - low).toNat, t.2)
theorem slT_one (w : World) (a : Nat) (c : Int) : SlA eT1 (w.alloc (.cells #[.int .i64 (a : Int), .int .i64 c] 111)) (.slice (some ⟨w.heap.size, 0, none⟩) 1 1) [(a, c)] := (OwnA.lit (w := w) (e := 111) (sz := 2) (enc := eT1) (xs := [(a, c)]) (fun x _ => rfl) (Nat.le_refl _) (by simp) (by simp)).sl
/-- the terms before exponent e -/
def Upto (l : List (Int × Int)) (e : Int) (k : Nat) : Prop := k ≤ l.length ∧ (∀ s ∈ l.take k, s.1 < e) ∧ ∀ s ∈ l.drop k, e ≤ s.1
theorem upto_start {l : List (Int × Int)} (h : Srt l) : Upto l (lowL l) 0 := by
  refine ⟨Nat.zero_le _, fun s hs => by simp at hs, fun s hs => ?_⟩
  rw [List.drop_zero] at hs
  cases l with
  | nil => simp at hs
  | cons t l =>
    rcases List.mem_cons.1 hs with e | e
    · rw [e]; exact Int.le_refl _
    · exact Int.le_of_lt ((List.pairwise_cons.1 h).1 s e)
theorem upto_hit {l : List (Int × Int)} {e : Int} {k : Nat} (h : Srt l) (hu : Upto l e k) (hk : k < l.length) (he : l[k].1 = e) : Upto l (e + 1) (k + 1) ∧ cf l e = l[k].2 := by
  refine ⟨⟨hk, fun s hs => ?_, fun s hs => ?_⟩, by rw [← he]; exact cf_mem h (List.getElem_mem hk)⟩
  · rcases mem_take_succ hk s hs with q | q
    · have := hu.2.1 s q; omega
    · omega
  · have := (srt_drop h hk).2 s hs; omega
theorem upto_miss {l : List (Int × Int)} {e : Int} {k : Nat} (h : Srt l) (hu : Upto l e k) (hk : ∀ hk : k < l.length, l[k].1 ≠ e) : Upto l (e + 1) k ∧ cf l e = 0 := by
  have hne : ∀ s ∈ l.drop k, e < s.1 := fun s hs => by
    have h1 := hu.2.2 s hs
    have hkl : k < l.length := by
      rcases Nat.lt_or_ge k l.length with q | q
      · exact q
      · rw [List.drop_of_length_le q] at hs; simp at hs
    have h2 := srt_ge h hkl s hs
    have h3 := hu.2.2 _ (mem_drop_self hkl)
    have := hk hkl
    omega
  refine ⟨⟨hu.1, fun s hs => by have := hu.2.1 s hs; omega, fun s hs => by have := hne s hs; omega⟩, cf_out fun s hs => ?_⟩
  rw [← List.take_append_drop k l] at hs
  rcases List.mem_append.1 hs with q | q
  · have := hu.2.1 s q; omega
  · have := hne s q; omega
theorem upto_end {l : List (Int × Int)} {e : Int} {k : Nat} (h : Srt l) (hu : Upto l e k) (he : highL l < e) : l.take k = l := by
  rcases Nat.lt_or_ge k l.length with q | q
  · exfalso
    have h1 : l[l.length - 1]'(by omega) ∈ l.drop k := by
      rw [List.mem_drop_iff_getElem]
      exact ⟨l.length - 1 - k, by omega, by congr 1; omega⟩
    have h2 := hu.2.2 _ h1
    rw [highL_0 (by omega)] at he
    omega
  · exact List.take_of_length_le q
theorem lowL_lim {l : List (Int × Int)} (h : Lim l) : -1048576 ≤ lowL l ∧ lowL l ≤ 1048576 := by
  cases l with
  | nil => exact ⟨by decide, by decide⟩
  | cons t l => have := h.ex t (by simp); show -1048576 ≤ t.1 ∧ t.1 ≤ 1048576; omega
theorem highL_lim {l : List (Int × Int)} (h : Lim l) : -1048576 ≤ highL l ∧ highL l ≤ 1048576 := by
  rcases Nat.eq_zero_or_pos l.length with q | q
  · rw [List.eq_nil_of_length_eq_zero q]; exact ⟨by decide, by decide⟩
  · rw [highL_0 q]; have := h.ex _ (List.getElem_mem (show l.length - 1 < l.length by omega)); omega
set_option maxHeartbeats 4000000 in
set_option maxRecDepth 100000 in
theorem termsOf_any (vp : Value) (l : List (Int × Int)) (low : Int) (w : World) (hp : PolyV w vp (some l)) (hc : Can l) (hL : Lim l) (hlo : -4194304 ≤ low ∧ low ≤ 4194304) (hge : ∀ t ∈ l, low ≤ t.1) :
    Calls Tryz.prog 54 #[vp, .int .i64 low] w fun e w' => ∃ v, e = .returned v ∧ OwnE w.heap.size w' v (tmO low l) ∧ Below w.heap.size w w' := by
  have HC := Lib.hid hc
  have HGE := Lib.hid hge
  have hlen := hL.len hc
  have hl1 := lowL_lim hL
  have hl2 := highL_lim hL
  have HLO := Lib.hid (fun W v (h : PolyV W v (some l)) => Low_any v (some l) W h ⟨hc, hL⟩)
  have HHI := Lib.hid (fun W v (h : PolyV W v (some l)) => High_any v (some l) W h ⟨hc, hL⟩)
  have HCO := Lib.hid (fun e W v (h : PolyV W v (some l)) => Coef_any v (some l) e W h ⟨hc, hL⟩)
  have HP := Lib.hid (fun W (hb : Below w.heap.size w W) => hp.below hb)
  have HU := Lib.hid (upto_start hc.srt)
  obtain ⟨b0, A, n, c, rfl, j1, j2⟩ := hp.parts
  clear hp hge hc hL j1 j2
  simp only [Option.getD_some] at HLO HHI HCO
  obtain ⟨lo, hlo'⟩ : ∃ x, x = lowL l := ⟨_, rfl⟩
  obtain ⟨hi, hhi'⟩ : ∃ x, x = highL l := ⟨_, rfl⟩
  rw [← hlo'] at HLO hl1 HU
  rw [← hhi'] at HHI hl2
  have HHI' := Lib.hid hhi'
  clear hlo' hhi'
  have hW : ∀ W, W = w.alloc (.cells #[.bool b0, .slice A n c] 40) → Arr W w.heap.size 40 [.bool b0, .slice A n c] ∧ Below w.heap.size w W := by
    intro W hW
    subst hW
    exact ⟨Arr.new _ _ [_, _], (Below.refl _ _).alloc (Nat.le_refl _) _⟩
  go_enter Tryz.func54, Tryz.ntmps54
  go_upto_region 1 with fail
  generalize w.alloc (.cells #[.bool b0, .slice A n c] 40) = w3 at hW ⊢
  obtain ⟨qp, hb3⟩ := hW w3 rfl
  clear hW
  have y0 := qp.cell 0
  have y1 := qp.cell 1
  have HQ := Lib.hid qp
  have HB3 := Lib.hid hb3
  have HP3 := Lib.hid (HP.out w3 hb3)
  clear qp hb3
  go_upto_region 3 with (go_at_call 46; refine (HLO.out _ _ HP3.out).mono ?_; rintro e w4 ⟨rfl, hb4⟩)
  have HB4 := Lib.hid hb4
  clear hb4 y0 y1 HP3 HLO
  go_loopg [5, 6, 7] ((hi + 1 - lo).toNat) (fun gk s5 s6 s7 wr => ∃ (e : Int) (k : Nat), lo ≤ e ∧ e ≤ 1048577 ∧ gk = (hi + 1 - e).toNat ∧ s6 = .int .i64 e ∧ OwnE w3.heap.size wr s5 (tmO low (l.take k)) ∧ Upto l e k ∧ Below w3.heap.size w3 wr)
  case atStart => exact ⟨lo, 0, Int.le_refl _, by omega, rfl, rfl, OwnA.nil _ _ _ _ _, HU.out, HB4.out⟩
  case round =>
    clear HU HB4
    obtain ⟨e, k, he1, he2, rfl, rfl, hst, hu, hbr⟩ := hrel
    obtain ⟨wo, rfl⟩ : ∃ wo : World, wo = wr := ⟨_, rfl⟩
    have HU := Lib.hid hu
    have HQ4 := Lib.hid (HQ.out.below hbr HQ.out.lt)
    have HP4 := Lib.hid (HP.out wo (HB3.out.trans (hbr.mono HB3.out.size)))
    have HB := Lib.hid hbr
    have y0 := HQ4.out.cell 0
    have y1 := HQ4.out.cell 1
    obtain ⟨As, cs, rfl⟩ := hst.form
    have HST := Lib.hid hst
    clear hu hbr hst
    have hkl : (tmO low (l.take k)).length ≤ 2097153 := by simp [tmO]; omega
    obtain ⟨R, hR⟩ : ∃ R, R = tmO low (l.take k) := ⟨_, rfl⟩
    rw [← hR] at HST hkl ⊢
    have HR := Lib.hid hR
    clear hR
    by_cases hlt : e ≤ hi
    · go_upto_region 5 with (go_at_call 52; refine (HHI.out _ _ HP4.out).mono ?_; rintro en w5 ⟨rfl, hb5⟩)
      have HQ5 := Lib.hid (HQ4.out.below hb5 HQ4.out.lt)
      have HB5 := Lib.hid (HB.out.trans (hb5.mono HB.out.size))
      have HP5 := Lib.hid (HP.out w5 (HB3.out.trans (HB5.out.mono HB3.out.size)))
      have HST5 := Lib.hid (HST.out.below hb5)
      have y0 := HQ5.out.cell 0
      have y1 := HQ5.out.cell 1
      clear hb5 HQ4 HP4 HB HST
      go_upto_region 6 with (go_at_call 45; refine (HCO.out _ _ _ HP5.out).mono ?_; rintro en w6 ⟨rfl, hb6⟩)
      have HB6 := Lib.hid (HB5.out.trans (hb6.mono HB5.out.size))
      have HST6 := Lib.hid (HST5.out.below hb6)
      clear hb6 y0 y1 HQ5 HP5 HST5 HB5
      by_cases hk : ∃ hk : k < l.length, l[k].1 = e
      · obtain ⟨hk, hke⟩ := hk
        obtain ⟨u1, u2⟩ := upto_hit HC.out.srt HU.out hk hke
        have hnz := HC.out.nz _ (List.getElem_mem hk)
        have hge := HGE.out _ (List.getElem_mem hk)
        rw [hke] at hge
        rw [← u2] at hnz
        have HU6 := Lib.hid u1
        have HRN := Lib.hid (show tmO low (l.take (k + 1)) = tmO low (l.take k) ++ [((e - low).toNat, cf l e)] by
          rw [u2, take_snoc' hk]
          unfold tmO
          rw [List.map_append, List.map_singleton, hke])
        rw [← HR.out] at HRN
        obtain ⟨d, hd⟩ : ∃ d : Nat, d = (e - low).toNat := ⟨_, rfl⟩
        rw [← hd] at HRN
        have e1 : e - low = (d : Int) := by omega
        obtain ⟨x, hx⟩ : ∃ x, x = cf l e := ⟨_, rfl⟩
        rw [← hx] at HRN hnz ⊢
        have z1 : (x != 0) = true := by simpa using hnz
        have HSL := Lib.hid (slT_one w6 d x)
        have HS7 := Lib.hid (HST6.out.below ((Below.refl _ _).alloc (Nat.le_refl _) (.cells #[.int .i64 (d : Int), .int .i64 x] 111)))
        have HSZ := Lib.hid (show w3.heap.size ≤ (w6.alloc (.cells #[.int .i64 (d : Int), .int .i64 x] 111)).heap.size by have := HB6.out.size; simp; omega)
        have HB7 := Lib.hid (HB6.out.alloc HB6.out.size (.cells #[.int .i64 (d : Int), .int .i64 x] 111))
        have HRL := Lib.hid (show R.length + [(d, x)].length ≤ 1000000000 by simp; omega)
        clear hd hx hnz hge u1 u2 hke hk HST6 HB6
        go_wp2_with (at_builtin; go_loud (refine wpList_appA rfl elT (.tmp 21) (.tmp 27) 95 95 rfl Tryz.underlying95 Tryz.underlying95 rfl HS7.out rfl HSL.out HRL.out HSZ.out ?_); go_loud (intro v' w8 h1 h2 h3 h4; have HO := Lib.hid h1; have HB8 := Lib.hid (HB7.out.trans h2); obtain ⟨Av, cv2, rfl⟩ := h1.form; clear h1 h2 h3 h4))
        go_roundg ((hi + 1 - (e + 1)).toNat)
        case measure => omega
        case rel =>
          have h1 := HO.out
          rw [show (R ++ [(d, x)]).length = R.length + 1 by simp] at h1
          exact ⟨e + 1, k + 1, by omega, by omega, rfl, by go_num, by rw [HRN.out]; exact h1, HU6.out, HB8.out⟩
      · obtain ⟨u1, u2⟩ := upto_miss HC.out.srt HU.out (fun h1 h2 => hk ⟨h1, h2⟩)
        have HU6 := Lib.hid u1
        rw [u2]
        clear hk u1 u2
        go_wp2_with fail
        go_roundg ((hi + 1 - (e + 1)).toNat)
        case measure => omega
        case rel => exact ⟨e + 1, k, by omega, by omega, rfl, by go_num, by rw [← HR.out]; exact HST6.out, HU6.out, HB6.out⟩
    · have HE := Lib.hid (upto_end HC.out.srt HU.out (by rw [← HHI'.out]; omega))
      go_wp2_with (go_at_call 52; refine (HHI.out _ _ HP4.out).mono ?_; rintro en w5 ⟨rfl, hb5⟩)
      have HST5 := Lib.hid (HST.out.below hb5)
      have HB5 := Lib.hid (HB.out.trans (hb5.mono HB.out.size))
      clear hb5
      go_ret
      exact ⟨_, rfl, by rw [show tmO low l = R by rw [HR.out, HE.out]]; exact HST5.out.low HB3.out.size, HB3.out.trans (HB5.out.mono HB3.out.size)⟩
end Go.Proofs.YtbkgpfalljgdcaaGreatDoor
