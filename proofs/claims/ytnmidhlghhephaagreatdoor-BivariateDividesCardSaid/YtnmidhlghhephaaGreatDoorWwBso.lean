/- bivariate: a map from pairs of exponents to sums. -/
/- bivariate: what the map of sums holds. -/
/- bivariate: the comparisons of terms, and slices.SortFunc in the words of this seat. -/
import Derived.Test.YtnmidhlghhephaaGreatDoorWwBsm
import Derived.Maps.OwnSet
import Derived.Maps.OwnOps
import Derived.DeepKeys4
import Derived.OpenShut
import Derived.Test.YtnmidhlghhephaaGreatDoorWwEnd
import Derived.Test.YtnmidhlghhephaaGreatDoorWwShelf
import Derived.Shelf.SlSortCmp.WholeK
import Derived.Shelf.SlSortCmp.NoneTotal
import Derived.Deep.CutBlock
import Derived.Outline
namespace Go.Proofs.YtnmidhlghhephaaGreatDoor
open Go.RowKit Go.Maps
set_option linter.unusedVariables false
/-- a pair of exponents as a value -/
def mkK (e : K2) : Value := .agg #[.int .i64 e.1, .int .i64 e.2]
def keyB (e : K2) : Lit := .string (keyBytes [.int .i64 e.1, .int .i64 e.2])
/-- both fit into 64 bits -/
def rkB (e : K2) : Prop := (-9223372036854775808 ≤ e.1 ∧ e.1 ≤ 9223372036854775807) ∧ (-9223372036854775808 ≤ e.2 ∧ e.2 ≤ 9223372036854775807)
theorem laidOutB13 : laidOutB Tryz.prog = true := by kernel_rfl
theorem und_pair : Tryz.prog.underlying 72 = some (.array 2 3) := by kernel_rfl
theorem und_int : Tryz.prog.underlying 3 = some (.int .i64) := by kernel_rfl
theorem cellsOf_pair : Tryz.prog.cellsOf 72 = 2 := by kernel_rfl
theorem cellsOf_int : Tryz.prog.cellsOf 3 = 1 := by kernel_rfl
theorem key_law : WideMaps.KeyLaw Tryz.prog 72 := deep_law_laid laidOutB13 (m := 2) (by decide) (of_decide_eq_true (by kernel_rfl)) (by kernel_rfl) (by rw [und_pair])
theorem keyed_pair : Keyed Tryz.prog 72 := Keyed.of_law key_law
theorem keyType_pair : Tryz.prog.keyType 72 = true := by kernel_rfl
theorem keyLits_int (d : Nat) (x : Int) : Tryz.prog.keyLits (d + 1) 3 [.int .i64 x] = if (Lit.int .i64 x).wf = true then some [.int .i64 x] else none := by
  unfold Program.keyLits
  rw [und_int]
  simp
theorem keyLits_pair (d : Nat) (a z : Int) : Tryz.prog.keyLits (d + 2) 72 [.int .i64 a, .int .i64 z] = if (Lit.int .i64 a).wf = true ∧ (Lit.int .i64 z).wf = true then some [.int .i64 a, .int .i64 z] else none := by
  unfold Program.keyLits
  rw [und_pair]
  simp only [cellsOf_pair, cellsOf_int, List.length_cons, List.length_nil, Nat.reduceAdd, if_true]
  have e1 : List.take 1 (List.drop (0 * 1) ([.int .i64 a, .int .i64 z] : List Value)) = [.int .i64 a] := rfl
  have e2 : List.take 1 (List.drop (1 * 1) ([.int .i64 a, .int .i64 z] : List Value)) = [.int .i64 z] := rfl
  rw [show List.range 2 = [0, 1] from rfl]
  simp only [List.mapM_cons, List.mapM_nil, e1, e2, keyLits_int]
  by_cases h1 : (Lit.int .i64 a).wf = true <;> by_cases h2 : (Lit.int .i64 z).wf = true <;> simp [h1, h2]
theorem formed_agg (cs : Array Value) : Value.formed Tryz.prog 72 (.agg cs) = (cs.size == 2) := by
  unfold Value.formed
  rw [und_pair, cellsOf_pair]
theorem size_tys : Tryz.prog.types.size + 1 = (Tryz.prog.types.size - 1) + 2 := by kernel_rfl
theorem keyOf_agg (cs : Array Value) : keyOf Tryz.prog 72 (.agg cs) = if cs.size = 2 then (Tryz.prog.keyLits ((Tryz.prog.types.size - 1) + 2) 72 cs.toList).map fun ls => .string (keyBytes ls) else none := by
  unfold keyOf
  rw [und_pair, keyType_pair, formed_agg, size_tys]
  by_cases h : cs.size = 2
  · rw [if_pos h, if_pos (by simp [h])]
    rfl
  · rw [if_neg h, if_neg (by simp [h])]
theorem key_pair {e : K2} (h : rkB e) : keyOf Tryz.prog 72 (mkK e) = some (keyB e) := by
  have h1 : (Lit.int .i64 e.1).wf = true := WalkArith.wf_i64 h.1
  have h2 : (Lit.int .i64 e.2).wf = true := WalkArith.wf_i64 h.2
  unfold mkK
  rw [keyOf_agg, if_pos (show (#[.int .i64 e.1, .int .i64 e.2] : Array Value).size = 2 from rfl), show (#[.int .i64 e.1, .int .i64 e.2] : Array Value).toList = [.int .i64 e.1, .int .i64 e.2] from rfl, keyLits_pair, if_pos ⟨h1, h2⟩]
  rfl
theorem keyB_inj {a b : K2} (ha : rkB a) (hb : rkB b) (h : keyB a = keyB b) : a = b := by
  have := key_law.inj (key_pair ha) (h ▸ key_pair hb)
  unfold mkK at this
  injection this with this
  injection this with this
  injection this with h1 h2
  injection h2 with h2 _
  injection h1 with _ h1
  injection h2 with _ h2
  exact Prod.ext h1 h2
theorem keyB_ne {a b : K2} (ha : rkB a) (hb : rkB b) (h : a ≠ b) : keyB a ≠ keyB b := fun q => h (keyB_inj ha hb q)
theorem keyLits_int_inv {d : Nat} {x : Value} {l : List Lit} (h : Tryz.prog.keyLits (d + 1) 3 [x] = some l) : ∃ a, x = .int .i64 a ∧ (Lit.int .i64 a).wf = true := by
  unfold Program.keyLits at h
  rw [und_int] at h
  cases x with
  | int q a =>
    by_cases c : q = .i64 ∧ (Lit.int .i64 a).wf = true
    · obtain ⟨rfl, w⟩ := c
      exact ⟨a, rfl, w⟩
    · by_cases hq : q = .i64
      · subst hq
        have c2 : ¬ (Lit.int .i64 a).wf = true := fun q => c ⟨rfl, q⟩
        simp [c2] at h
      · simp [hq] at h
  | _ => simp at h
theorem key_inv {v : Value} {l : Lit} (h : keyOf Tryz.prog 72 v = some l) : ∃ e : K2, rkB e ∧ v = mkK e ∧ l = keyB e := by
  have h0 := h
  have key : ∃ e : K2, rkB e ∧ v = mkK e := by
    by_cases hv : ∃ cs, v = .agg cs
    · obtain ⟨cs, rfl⟩ := hv
      rw [keyOf_agg] at h
      by_cases hs : cs.size = 2
      · rw [if_pos hs] at h
        obtain ⟨x, y, hc⟩ : ∃ x y, cs.toList = [x, y] := by
          have hl : cs.toList.length = 2 := by simpa using hs
          match cs.toList, hl with
          | [x, y], _ => exact ⟨x, y, rfl⟩
        rw [hc] at h
        obtain ⟨ls, hls, _⟩ := Option.map_eq_some_iff.1 h
        unfold Program.keyLits at hls
        rw [und_pair] at hls
        simp only [cellsOf_pair, cellsOf_int, List.length_cons, List.length_nil, Nat.reduceAdd, if_true] at hls
        have e1 : List.take 1 (List.drop (0 * 1) ([x, y] : List Value)) = [x] := rfl
        have e2 : List.take 1 (List.drop (1 * 1) ([x, y] : List Value)) = [y] := rfl
        rw [show List.range 2 = [0, 1] from rfl] at hls
        simp only [List.mapM_cons, List.mapM_nil, e1, e2] at hls
        cases g1 : Tryz.prog.keyLits ((Tryz.prog.types.size - 1) + 1) 3 [x] with
        | none => rw [g1] at hls; simp at hls
        | some l1 =>
          rw [g1] at hls
          cases g2 : Tryz.prog.keyLits ((Tryz.prog.types.size - 1) + 1) 3 [y] with
          | none => rw [g2] at hls; simp at hls
          | some l2 =>
            obtain ⟨a, rfl, w1⟩ := keyLits_int_inv g1
            obtain ⟨z, rfl, w2⟩ := keyLits_int_inv g2
            refine ⟨(a, z), ⟨bounds_i64 w1, bounds_i64 w2⟩, ?_⟩
            unfold mkK
            exact congrArg Value.agg (Array.ext' (by rw [hc]))
      · rw [if_neg hs] at h; cases h
    · exfalso
      unfold keyOf at h
      rw [und_pair] at h
      have : Value.formed Tryz.prog 72 v = false := by
        cases v <;> first | exact absurd ⟨_, rfl⟩ hv | (unfold Value.formed; first | rw [und_pair] | rfl)
      rw [this, Bool.and_false, if_neg (fun q => Bool.noConfusion q)] at h
      cases h
  obtain ⟨e, he, rfl⟩ := key
  refine ⟨e, he, rfl, ?_⟩
  rw [key_pair he] at h0
  exact (Option.some.inj h0).symm
end Go.Proofs.YtnmidhlghhephaaGreatDoor

namespace Go.Proofs.YtnmidhlghhephaaGreatDoor
open Go.RowKit Go.Maps
set_option linter.unusedVariables false
def hiT (t : T2) : T2 := (t.1, t.2 / 33554432)
def loT (t : T2) : T2 := (t.1, t.2 % 33554432)
def hiS (l : List T2) (e : K2) : Int := cg2 (l.map hiT) e
def loS (l : List T2) (e : K2) : Int := cg2 (l.map loT) e
theorem hilo (l : List T2) (e : K2) : hiS l e * 33554432 + loS l e = cg2 l e := by
  unfold hiS loS
  induction l with
  | nil => rfl
  | cons t l ih =>
    rw [List.map_cons, List.map_cons, cg2_cons, cg2_cons, cg2_cons]
    unfold hiT loT at *
    simp only
    by_cases h : t.1 = e
    · rw [if_pos h, if_pos h, if_pos h]; omega
    · rw [if_neg h, if_neg h, if_neg h]; omega
theorem hiS_snoc (l : List T2) (e x : K2) (c : Int) : hiS (l ++ [(e, c)]) x = hiS l x + if e = x then c / 33554432 else 0 := by
  unfold hiS; rw [List.map_append, cg2_append, List.map_cons, List.map_nil, cg2_one]; rfl
theorem loS_snoc (l : List T2) (e x : K2) (c : Int) : loS (l ++ [(e, c)]) x = loS l x + if e = x then c % 33554432 else 0 := by
  unfold loS; rw [List.map_append, cg2_append, List.map_cons, List.map_nil, cg2_one]; rfl
/-- coefficients of at most 62 bits -/
def Cb (l : List T2) : Prop := ∀ t ∈ l, -4611686018427387904 ≤ t.2 ∧ t.2 ≤ 4611686018427387904
theorem Cb.nil : Cb [] := fun t h => by cases h
theorem Cb.tail {t : T2} {l : List T2} (h : Cb (t :: l)) : Cb l := fun s hs => h s (List.mem_cons_of_mem _ hs)
theorem Cb.append {l m : List T2} (h : Cb l) (k : Cb m) : Cb (l ++ m) := fun t ht => by
  rcases List.mem_append.1 ht with ht | ht
  · exact h t ht
  · exact k t ht
theorem hiS_bd {l : List T2} (h : Cb l) (e : K2) : -(137438953472 * (l.length : Int)) ≤ hiS l e ∧ hiS l e ≤ 137438953472 * (l.length : Int) := by
  unfold hiS
  induction l with
  | nil => simp [cg2]
  | cons t l ih =>
    have h1 := ih h.tail
    have h2 := h t (List.mem_cons_self ..)
    rw [List.map_cons, cg2_cons, List.length_cons]
    unfold hiT
    simp only
    by_cases hh : t.1 = e
    · rw [if_pos hh]
      unfold hiT at h1
      omega
    · rw [if_neg hh]
      unfold hiT at h1
      omega
theorem loS_bd (l : List T2) (e : K2) : 0 ≤ loS l e ∧ loS l e ≤ 33554432 * (l.length : Int) := by
  unfold loS
  induction l with
  | nil => simp [cg2]
  | cons t l ih =>
    rw [List.map_cons, cg2_cons, List.length_cons]
    unfold loT
    simp only
    by_cases hh : t.1 = e
    · rw [if_pos hh]
      unfold loT at ih
      omega
    · rw [if_neg hh]
      unfold loT at ih
      omega
def sD (a b : Int) : DataW Unit := .agg [.lit (.int .i64 a), .lit (.int .i64 b)]
/-- a sum as a value -/
def mkS (x : Int × Int) : Value := .agg #[.int .i64 x.1, .int .i64 x.2]
/-- a sum as an element of a map -/
def sElem : Value → Option (DataW Unit × List MemPlace)
  | .agg cs => match cs.toList with
    | [.int .i64 a, .int .i64 b] => some (sD a b, [])
    | _ => none
  | _ => none
theorem sElem_mk (a b : Int) : sElem (.agg #[.int .i64 a, .int .i64 b]) = some (sD a b, []) := rfl
theorem sElem_inv {v : Value} {y : DataW Unit × List MemPlace} (h : sElem v = some y) : ∃ a b, v = .agg #[.int .i64 a, .int .i64 b] ∧ y = (sD a b, []) := by
  unfold sElem at h
  split at h
  · next cs =>
    split at h
    · next a b hc =>
      exact ⟨a, b, by rw [show cs = #[.int .i64 a, .int .i64 b] from Array.ext' (by simpa using hc)], (Option.some.inj h).symm⟩
    · cases h
  · cases h
theorem sD_inj {a b c d : Int} (h : sD a b = sD c d) : a = c ∧ b = d := by
  unfold sD at h
  simp only [DataW.agg.injEq, List.cons.injEq, DataW.lit.injEq, Lit.int.injEq, and_true, true_and] at h
  exact h
/-- all keys fit into 64 bits -/
def Kr (l : List T2) : Prop := ∀ t ∈ l, rkB t.1
/-- what the map holds -/
structure MDB (done : List T2) (D : DataW Unit) : Prop where
  tidy : Tidy D
  val : ∀ e, rkB e → D.atKey (keyB e) (sD 0 0) = sD (hiS done e) (loS done e)
  has : ∀ e, rkB e → (Maps.has D (keyB e) = true ↔ ∃ t ∈ done, t.1 = e)
theorem MDB.start : MDB [] (.map []) := ⟨tidy_empty, fun e _ => rfl, fun e _ => by simp [Maps.has]⟩
theorem MDB.put {done : List T2} {D : DataW Unit} (h : MDB done D) {e : K2} (he : rkB e) (c : Int) : MDB (done ++ [(e, c)]) (D.put (keyB e) (sD (hiS done e + c / 33554432) (loS done e + c % 33554432))) := by
  have hkl : WideAt.IsKeyLit (keyB e) := trivial
  refine ⟨h.tidy.put hkl _, fun x hx0 => ?_, fun x hx0 => ?_⟩
  · rw [hiS_snoc, loS_snoc]
    by_cases hx : x = e
    · subst hx
      rw [atKey_put_same h.tidy.isMap hkl, if_pos rfl, if_pos rfl]
    · rw [atKey_put_other (keyB_ne hx0 he hx), h.val x hx0, if_neg (fun q => hx q.symm), if_neg (fun q => hx q.symm), Int.add_zero, Int.add_zero]
  · by_cases hx : x = e
    · subst hx
      rw [has_put_same h.tidy.isMap hkl]
      exact ⟨fun _ => ⟨(x, c), by simp, rfl⟩, fun _ => rfl⟩
    · rw [has_put_other (keyB_ne hx0 he hx), h.has x hx0]
      constructor
      · rintro ⟨t, ht, he⟩; exact ⟨t, List.mem_append_left _ ht, he⟩
      · rintro ⟨t, ht, he⟩
        rcases List.mem_append.1 ht with ht | ht
        · exact ⟨t, ht, he⟩
        · rw [List.mem_singleton.1 ht] at he; exact absurd he.symm hx
/-- the state of the map in block g -/
def MapB (g : Nat) (done : List T2) (W : World) : Prop := ∃ D : DataW Unit, W.ownsMap Tryz.prog 72 sElem g done.length D ∧ MDB done D
theorem MapB.lt {g : Nat} {done : List T2} {W : World} (h : MapB g done W) : g < W.heap.size := by obtain ⟨D, h1, _⟩ := h; exact h1.lt
theorem MapB.keepB {g : Nat} {done : List T2} {W W' : World} (h : MapB g done W) (hk : W'.heap[g]? = W.heap[g]?) : MapB g done W' := by
  obtain ⟨D, ⟨es, clock, hh, F, hs, hD⟩, h2⟩ := h
  exact ⟨D, ⟨es, clock, hk.trans hh, F, hs, hD⟩, h2⟩
theorem MapB.below {g : Nat} {done : List T2} {W W' : World} (h : MapB g done W) (hb : Below W.heap.size W W') : MapB g done W' := h.keepB (hb.block g h.lt)
theorem MapB.ne {g k : Nat} {done : List T2} {W : World} {t : TypeId} {cs : List Value} (h : MapB g done W) (ha : Arr W k t cs) : k ≠ g := by
  intro e
  subst e
  obtain ⟨D, ⟨es, clock, hh, _⟩, _⟩ := h
  unfold Arr at ha
  rw [ha] at hh
  cases hh
theorem MapB.start (W : World) : MapB W.heap.size [] (W.alloc (.map #[] 0)) := ⟨_, World.ownsMap_made W Tryz.prog 72 sElem, MDB.start⟩
theorem zeroSum (w : World) : (zeroValue 74).run Tryz.prog w = .ok (.agg #[.int .i64 0, .int .i64 0]) w := by kernel_rfl
theorem MapB.look {g : Nat} {done : List T2} {W : World} (h : MapB g done W) {e : K2} (he : rkB e) : (Instr.lookup 71 (.map (some g)) (.agg #[.int .i64 e.1, .int .i64 e.2]) false).run Tryz.prog W = .ok (.agg #[.int .i64 (hiS done e), .int .i64 (loS done e)]) W := by
  obtain ⟨D, h1, h2⟩ := h
  obtain ⟨v, ps, hrun, hv⟩ := h1.lookup keyed_pair Tryz.underlying71 (zeroSum W) (sElem_mk 0 0) (key_pair he)
  obtain ⟨a, b, rfl, hy⟩ := sElem_inv hv
  have hy2 := congrArg Prod.fst hy
  rw [show (D.atKey (keyB e) (sD 0 0), ps).1 = D.atKey (keyB e) (sD 0 0) from rfl, h2.val e he] at hy2
  obtain ⟨q1, q2⟩ := sD_inj hy2
  rw [← q1, ← q2] at hrun
  exact hrun
theorem MapB.store {g : Nat} {done : List T2} {W : World} (h : MapB g done W) {e : K2} {c : Int} (he : rkB e) (hl : done.length ≤ 1000000000000000) : ∃ W', (Instr.mapUpdate 71 (.map (some g)) (.agg #[.int .i64 e.1, .int .i64 e.2]) (.agg #[.int .i64 (hiS done e + c / 33554432), .int .i64 (loS done e + c % 33554432)])).run Tryz.prog W = .ok () W' ∧ MapB g (done ++ [(e, c)]) W' ∧ ∀ base, base ≤ g → base ≤ W.heap.size → Oth base [g] none W W' := by
  obtain ⟨D, h1, h2⟩ := h
  obtain ⟨W', hrun, hown, hgr⟩ := h1.update keyed_pair Tryz.underlying71 (by unfold maxLen; omega) (key_pair he) (sElem_mk (hiS done e + c / 33554432) (loS done e + c % 33554432))
  refine ⟨W', hrun, ⟨_, by rw [List.length_append]; exact hown, h2.put he c⟩, fun base hb hbs => ⟨(Below.refl base W).grown hgr hbs (fun j hj => by cases hj; exact hb), fun k hk h1 _ => hgr.block k hk (fun q => by injection q with q; exact h1 (by simp [q]))⟩⟩
end Go.Proofs.YtnmidhlghhephaaGreatDoor

namespace Go.Proofs.YtnmidhlghhephaaGreatDoor
open Go.RowKit Go.Shelf Go.Lib Go.Sort
set_option linter.unusedVariables false
/-- only new memory has been made and the tape been drawn from -/
def Grw (w w' : World) : Prop := ∃ q os, w' = Sort.grow (w.drewN q) os
theorem Grw.refl (w : World) : Grw w w := ⟨0, #[], by rw [grow_empty]; rfl⟩
theorem Grw.drew (w : World) : Grw w w.drew := ⟨1, #[], by rw [grow_empty]; rfl⟩
theorem Grw.alloc (w : World) (o : Obj) : Grw w (w.alloc o) := ⟨0, #[o], by rw [alloc_eq_grow]; rfl⟩
theorem Grw.trans {a b c : World} (h : Grw a b) (k : Grw b c) : Grw a c := by
  obtain ⟨q, os, rfl⟩ := h
  obtain ⟨q2, os2, rfl⟩ := k
  refine ⟨q + q2, os ++ os2, ?_⟩
  rw [← grow_grow]
  unfold Sort.grow World.drewN
  simp only [Nat.add_assoc]
theorem Grw.below {w w' : World} (h : Grw w w') : Go.RowKit.Below w.heap.size w w' := by
  obtain ⟨q, os, rfl⟩ := h
  refine ⟨rfl, rfl, rfl, ?_, fun k hk => ?_⟩
  · unfold Sort.grow World.drewN
    simp
  · unfold Sort.grow World.drewN
    show (w.heap ++ os)[k]? = w.heap[k]?
    rw [Array.getElem?_append_left hk]
section
variable {P : Program} {Q : Exit → Act → World → Prop}
/-- behind one operation -/
def PhwPost (T : World → World → Prop) (w : World) (Φ : Nat → Value → World → Prop) (i : Nat) (b : Act) (d : Option Tmp) (a' : Act) (w' : World) : Prop := ∃ v, a' = b.put d v ∧ T w w' ∧ Φ i v w'
def PhwI (T : World → World → Prop) (w0 : World) (Φ : Nat → Value → World → Prop) (x0 : Nat → Value) (D : Nat → Bool) (x : Nat → Value) (w : World) : Prop := T w0 w ∧ (∀ i, D i = true → Φ i (x i) w) ∧ ∀ i, D i = false → x i = x0 i
theorem wp_region_phw (T : World → World → Prop) (T1 : ∀ w, T w w) (Tr : ∀ {a b c}, T a b → T b c → T a c) (T0 : ∀ w, T w w.drew) {id : Nat} {l : List Oper} {a : Act} {w0 : World} (hm : P.follows .mixedOrders = true) (hd : apartD (dstOf l.toArray) = true) (hb : backD l.toArray = true) (hg : l.all (fun o => o.guard.isNone) = true) (hn : inD a.tmps.size (dstOf l.toArray) = true)
    (Φ : Nat → Value → World → Prop) (hΦ : ∀ i v w w', Φ i v w → T w w' → Φ i v w')
    (hstep : AllOps (fun i o => ∀ (x : Nat → Value) w (b : Act), T w0 w → (∀ j ∈ deps o, Φ j (x j) w) → (∀ j, i ∈ depsAt l.toArray j → x j = slotV a ((dstOf l.toArray).getD (j - 0) none)) → (∀ t : Nat, b.tmps[t]?.getD undef = look (dstOf l.toArray) x a t) → o.wp P b w (PhwPost T w Φ i b o.dst) NoQ) 0 l)
    (hend : ∀ (x : Nat → Value) w, T w0 w → (∀ i, i < l.length → Φ i (x i) w) → Q .normal (putAll (dstOf l.toArray) 0 x a) w) : (Code.region id l.toArray true).wp P Q a w0 := by
  refine wp_region_facts2U hm hd hb hg hn (PhwI T w0 Φ (fun j => slotV a ((dstOf l.toArray).getD (j - 0) none))) ⟨T0 _, fun i h => Bool.noConfusion h, fun _ _ => rfl⟩ ?_ ?_
  · have key : ∀ k o, l[k]? = some o → ∀ D x W (b : Act), PhwI T w0 Φ (fun j => slotV a ((dstOf l.toArray).getD (j - 0) none)) D x W → D k = false → (∀ j ∈ deps o, D j = true) → (∀ j, D j = true → ∀ q ∈ depsAt l.toArray j, D q = true) → (∀ t : Nat, b.tmps[t]?.getD undef = look (dstOf l.toArray) x a t) → o.wp P b W (StepPost (PhwI T w0 Φ (fun j => slotV a ((dstOf l.toArray).getD (j - 0) none))) D x k b o.dst) NoQ := by
      intro k o ho D x W b hI hD hdep hcl hbt
      have hs := hstep.get _ _ k o ho x W b hI.1 (fun j hj => hI.2.1 j (hdep j hj)) (fun j hj => hI.2.2 j (by
        cases h : D j with
        | false => rfl
        | true =>
          rw [Nat.zero_add] at hj
          have := hcl j h k hj
          rw [hD] at this; cases this)) hbt
      rw [Nat.zero_add] at hs
      refine Oper.wp_mono ?_ hs
      rintro a' w' ⟨v, rfl, hb', hv⟩
      refine ⟨v, rfl, Tr hI.1 hb', fun i hi => ?_, fun i hi => ?_⟩
      · by_cases e : i = k
        · subst e; rw [upd_same]; exact hv
        · rw [upd_ne _ _ e] at hi ⊢
          exact hΦ i (x i) W w' (hI.2.1 i hi) hb'
      · by_cases e : i = k
        · subst e; rw [upd_same] at hi; cases hi
        · rw [upd_ne _ _ e] at hi ⊢
          exact hI.2.2 i hi
    have aux : ∀ (r : List Oper) (s : Nat), (∀ k, r[k]? = l[s + k]?) → AllOps (fun i o => ∀ D x W (b : Act), PhwI T w0 Φ (fun j => slotV a ((dstOf l.toArray).getD (j - 0) none)) D x W → D i = false → (∀ j ∈ deps o, D j = true) → (∀ j, D j = true → ∀ q ∈ depsAt l.toArray j, D q = true) → (∀ t : Nat, b.tmps[t]?.getD undef = look (dstOf l.toArray) x a t) → o.wp P b W (StepPost (PhwI T w0 Φ (fun j => slotV a ((dstOf l.toArray).getD (j - 0) none))) D x i b o.dst) NoQ) s r := by
      intro r
      induction r with
      | nil => intro s _; trivial
      | cons o r ih =>
        intro s hr
        refine ⟨key s o (by have := hr 0; simpa using this.symm), ih (s + 1) (fun k => ?_)⟩
        have := hr (k + 1)
        rw [List.getElem?_cons_succ] at this
        rw [this]; congr 1; omega
    exact aux l 0 (fun k => by rw [Nat.zero_add])
  · intro D x W hI hall
    exact hend x W hI.1 (fun i hi => hI.2.1 i (hall i hi))
variable {w : World} {Φ : Nat → Value → World → Prop} {i : Nat} {b : Act} {o : Oper}
theorem phw_run {T : World → World → Prop} (T1 : ∀ w, T w w) (v : Value) (h : (execOp b.eval o).run P w = .ok (.value v) w) (hv : Φ i v w) : o.wp P b w (PhwPost T w Φ i b o.dst) NoQ := by
  unfold Oper.wp; rw [h]; exact ⟨v, rfl, T1 _, hv⟩
theorem phw_make {T : World → World → Prop} (v : Value) (w' : World) (h : (execOp b.eval o).run P w = .ok (.value v) w') (hb : T w w') (hv : Φ i v w') : o.wp P b w (PhwPost T w Φ i b o.dst) NoQ := by
  unfold Oper.wp; rw [h]; exact ⟨v, rfl, hb, hv⟩
theorem phw_call {T : World → World → Prop} {f : FuncId} {args : Array Value} (h : (execOp b.eval o).run P w = .ok (.enter f args) w) (hc : Calls P f args w fun e w' => ∃ v, e = .returned v ∧ T w w' ∧ Φ i v w') : o.wp P b w (PhwPost T w Φ i b o.dst) NoQ := by
  unfold Oper.wp; rw [h]
  simp only [Oper.upon]
  refine hc.mono ?_
  rintro e w' ⟨v, rfl, hb, hv⟩
  exact ⟨v, rfl, hb, hv⟩
end
set_option maxHeartbeats 1000000 in
theorem cor_any (g : Nat) (a b : Int) (W : World) (hg : Arr W g 3 [.int .i64 a, .int .i64 b]) : Calls Tryz.prog 65 #[.slice (some ⟨g, 0, none⟩) 2 2] W fun e w' => e = .returned (.int .i64 (if a = 0 then b else a)) ∧ w' = W := by
  have c0 := hg.cell 0
  have c1 := hg.cell 1
  clear hg
  by_cases h1 : a = 0
  · subst h1
    rw [if_pos rfl]
    by_cases h2 : b = 0
    · subst h2
      go_enter Tryz.func65, Tryz.ntmps65
      go_wp2_with fail
      refine wp_loop_rounds 3 ?_
      rw [rounds_succ]; go_wp2_with fail
      rw [rounds_succ]; go_wp2_with fail
      rw [rounds_succ]; go_wp2_with fail
      go_ret
      exact ⟨rfl, rfl⟩
    · have n2 : (b == 0) = false := beq_eq_false_iff_ne.2 h2
      go_enter Tryz.func65, Tryz.ntmps65
      go_wp2_with fail
      refine wp_loop_rounds 3 ?_
      rw [rounds_succ]; go_wp2_with fail
      rw [rounds_succ]; go_wp2_with fail
      go_ret
      exact ⟨rfl, rfl⟩
  · have n1 : (a == 0) = false := beq_eq_false_iff_ne.2 h1
    rw [if_neg h1]
    go_enter Tryz.func65, Tryz.ntmps65
    go_wp2_with fail
    refine wp_loop_rounds 3 ?_
    rw [rounds_succ]; go_wp2_with fail
    go_ret
    exact ⟨rfl, rfl⟩
/-- the comparison -/
def cfB (x y : T2) : Int := if Lib.compareInt x.1.1 y.1.1 = 0 then Lib.compareInt x.1.2 y.1.2 else Lib.compareInt x.1.1 y.1.1
theorem cmpIB (a b : Int) : (a < b ∧ Lib.compareInt a b = -1) ∨ (a = b ∧ Lib.compareInt a b = 0) ∨ (b < a ∧ Lib.compareInt a b = 1) := by
  unfold Lib.compareInt
  by_cases h1 : a < b
  · exact .inl ⟨h1, by simp [h1]⟩
  · by_cases h2 : b < a
    · exact .inr (.inr ⟨h2, by simp [h1, h2]⟩)
    · exact .inr (.inl ⟨by omega, by simp [h1, h2]⟩)
theorem cfB_cases (x y : T2) : (kb x.1 y.1 ∧ cfB x y = -1) ∨ (x.1 = y.1 ∧ cfB x y = 0) ∨ (kb y.1 x.1 ∧ cfB x y = 1) := by
  unfold cfB kb
  rcases cmpIB x.1.1 y.1.1 with ⟨h, e⟩ | ⟨h, e⟩ | ⟨h, e⟩
  · rw [e]; exact .inl ⟨.inl h, by simp⟩
  · rw [e, if_pos rfl]
    rcases cmpIB x.1.2 y.1.2 with ⟨h2, e2⟩ | ⟨h2, e2⟩ | ⟨h2, e2⟩
    · exact .inl ⟨.inr ⟨h, h2⟩, e2⟩
    · exact .inr (.inl ⟨Prod.ext h h2, e2⟩)
    · exact .inr (.inr ⟨.inr ⟨h.symm, h2⟩, e2⟩)
  · rw [e]; exact .inr (.inr ⟨.inl h, by simp⟩)
theorem kb_irrefl (a : K2) : ¬ kb a a := fun h => kb_ne h rfl
theorem cfB_lt (x y : T2) : ltOf cfB x y = true ↔ kb x.1 y.1 := by
  unfold ltOf
  rcases cfB_cases x y with ⟨h, e⟩ | ⟨h, e⟩ | ⟨h, e⟩
  · rw [e]; simp [h]
  · rw [e, h]; simp [kb_irrefl]
  · rw [e]
    simp only [show ¬ ((1 : Int) < 0) by decide, decide_false, Bool.false_eq_true, false_iff]
    exact fun k => kb_irrefl _ (kb_trans h k)
theorem cfB_swo : SWO (ltOf cfB) where
  irrefl x := by
    cases h : ltOf cfB x x with
    | false => rfl
    | true => exact absurd ((cfB_lt x x).1 h) (kb_irrefl _)
  trans x y z h1 h2 := (cfB_lt x z).2 (kb_trans ((cfB_lt x y).1 h1) ((cfB_lt y z).1 h2))
  ntrans x y z h1 h2 := by
    cases h : ltOf cfB x z with
    | false => rfl
    | true =>
      have n1 : ¬ kb x.1 y.1 := fun k => by rw [(cfB_lt x y).2 k] at h1; cases h1
      have n2 : ¬ kb y.1 z.1 := fun k => by rw [(cfB_lt y z).2 k] at h2; cases h2
      have k := (cfB_lt x z).1 h
      rcases kb_tri x.1 y.1 with q | q | q
      · exact absurd q n1
      · rw [q] at k; exact absurd k n2
      · exact absurd (kb_trans q k) n2
set_option maxHeartbeats 2000000 in
set_option maxRecDepth 100000 in
theorem bcmp_any (x y : T2) (W : World) : Calls Tryz.prog 64 #[.agg #[.int .i64 x.1.1, .int .i64 x.1.2, .int .i64 x.2], .agg #[.int .i64 y.1.1, .int .i64 y.1.2, .int .i64 y.2]] W fun e w' => e = .returned (.int .i64 (cfB x y)) ∧ ∃ q os', w' = Sort.grow (W.drewN q) os' := by
  have HC1 := Lib.hid (fun W' => Tryz.cmp_Compare_int x.1.1 y.1.1 W')
  have HC2 := Lib.hid (fun W' => Tryz.cmp_Compare_int x.1.2 y.1.2 W')
  unfold cfB
  generalize Lib.compareInt x.1.1 y.1.1 = r1 at *
  generalize Lib.compareInt x.1.2 y.1.2 = r2 at *
  generalize x.1.1 = x1 at *
  generalize x.1.2 = x2 at *
  generalize x.2 = xc at *
  generalize y.1.1 = y1 at *
  generalize y.1.2 = y2 at *
  generalize y.2 = yc at *
  obtain ⟨rr, hrr⟩ : ∃ rr, rr = if r1 = 0 then r2 else r1 := ⟨_, rfl⟩
  rw [← hrr]
  have HRR := Lib.hid hrr
  clear hrr
  have hW : ∀ w, w = (W.alloc (.cells #[.int .i64 x1, .int .i64 x2, .int .i64 xc] 49)).alloc (.cells #[.int .i64 y1, .int .i64 y2, .int .i64 yc] 49) → Arr w W.heap.size 49 [.int .i64 x1, .int .i64 x2, .int .i64 xc] ∧ Arr w (W.heap.size + 1) 49 [.int .i64 y1, .int .i64 y2, .int .i64 yc] ∧ Grw W w := by
    intro w hw
    subst hw
    exact ⟨(Arr.new _ _ [_, _, _]).alloc _, Arr.newAt (W.alloc _) _ [_, _, _] _ (by simp), (Grw.alloc _ _).trans (Grw.alloc _ _)⟩
  go_enter Tryz.func64, Tryz.ntmps64
  go_upto_region 1 with fail
  generalize (W.alloc (.cells #[.int .i64 x1, .int .i64 x2, .int .i64 xc] 49)).alloc (.cells #[.int .i64 y1, .int .i64 y2, .int .i64 yc] 49) = w3 at hW ⊢
  obtain ⟨q1, q2, hg3⟩ := hW w3 rfl
  obtain ⟨B1, hB1⟩ : ∃ B, B = W.heap.size := ⟨_, rfl⟩
  obtain ⟨B2, hB2⟩ : ∃ B, B = W.heap.size + 1 := ⟨_, rfl⟩
  rw [← hB2] at q2
  try rw [← hB2]
  rw [← hB1] at q1 ⊢
  rw [← hB1] at hB2
  try rw [← hB2]
  have Q1 := Lib.hid q1
  have Q2 := Lib.hid q2
  have HG3 := Lib.hid hg3
  clear q1 q2 hg3 hW hB1 hB2
  refine wp_region_phw Grw Grw.refl Grw.trans Grw.drew (by kernel_rfl) (by kernel_rfl) (by kernel_rfl) (by kernel_rfl) (by kernel_rfl) (phiT (fun i => ([some (.pointer (some ⟨B1, 0, none⟩)), some (.int .i64 x1), some (.pointer (some ⟨B2, 0, none⟩)), some (.int .i64 y1), some (.int .i64 r1), some (.pointer (some ⟨B1, 1, none⟩)), some (.int .i64 x2), some (.pointer (some ⟨B2, 1, none⟩)), some (.int .i64 y2), some (.int .i64 r2), none, some (.int .i64 rr), some (.int .i64 rr)] : List (Option Value)).getD i none) (fun i v w => (if i = 10 then (fun v w => ∃ g, v = .slice (some ⟨g, 0, none⟩) 2 2 ∧ Arr w g 3 [.int .i64 r1, .int .i64 r2]) v w else True))) (fun i v w w' h hb => ?_) ⟨?_, ?_, ?_, ?_, ?_, ?_, ?_, ?_, ?_, ?_, ?_, ?_, ?_, trivial⟩ ?_
  · unfold phiT at h ⊢
    split
    · next u hu => rw [hu] at h; exact h
    · next hu =>
      rw [hu] at h
      simp only at h ⊢
      by_cases q10 : i = 10
      · rw [if_pos q10] at h ⊢; exact by obtain ⟨g, h1, h2⟩ := h; exact ⟨g, h1, h2.below hb.below h2.lt⟩
      · rw [if_neg q10] at h ⊢
        trivial
  · intro x w1 bA hbel hdep hold hb
    have e2 : bA.tmps[2]?.getD undef = .pointer (some ⟨B1, 0, none⟩) := hb 2
    refine phw_run Grw.refl (.pointer (some ⟨B1, 0, none⟩)) ?_ rfl
    clear hb hdep hold
    go_simp
  · intro x w1 bA hbel hdep hold hb
    have e5 : bA.tmps[5]?.getD undef = .pointer (some ⟨B1, 0, none⟩) := (hb 5).trans (hdep 0 (by decide))
    have cc := (Q1.out.below hbel.below Q1.out.lt).cell 0
    refine phw_run Grw.refl (.int .i64 x1) ?_ rfl
    clear hb hdep hold
    go_simp
  · intro x w1 bA hbel hdep hold hb
    have e3 : bA.tmps[3]?.getD undef = .pointer (some ⟨B2, 0, none⟩) := hb 3
    refine phw_run Grw.refl (.pointer (some ⟨B2, 0, none⟩)) ?_ rfl
    clear hb hdep hold
    go_simp
  · intro x w1 bA hbel hdep hold hb
    have e7 : bA.tmps[7]?.getD undef = .pointer (some ⟨B2, 0, none⟩) := (hb 7).trans (hdep 2 (by decide))
    have cc := (Q2.out.below hbel.below Q2.out.lt).cell 0
    refine phw_run Grw.refl (.int .i64 y1) ?_ rfl
    clear hb hdep hold
    go_simp
  · intro x w1 bA hbel hdep hold hb
    have e6 : bA.tmps[6]?.getD undef = .int .i64 x1 := (hb 6).trans (hdep 1 (by decide))
    have e8 : bA.tmps[8]?.getD undef = .int .i64 y1 := (hb 8).trans (hdep 3 (by decide))
    refine phw_call ?_ ((HC1.out w1).mono fun e w' h => ⟨_, h.1, by rw [h.2]; exact Grw.refl _, rfl⟩)
    clear hb hdep hold
    go_simp
  · intro x w1 bA hbel hdep hold hb
    have e2 : bA.tmps[2]?.getD undef = .pointer (some ⟨B1, 0, none⟩) := hb 2
    refine phw_run Grw.refl (.pointer (some ⟨B1, 1, none⟩)) ?_ rfl
    clear hb hdep hold
    go_simp
  · intro x w1 bA hbel hdep hold hb
    have e10 : bA.tmps[10]?.getD undef = .pointer (some ⟨B1, 1, none⟩) := (hb 10).trans (hdep 5 (by decide))
    have cc := (Q1.out.below hbel.below Q1.out.lt).cell 1
    refine phw_run Grw.refl (.int .i64 x2) ?_ rfl
    clear hb hdep hold
    go_simp
  · intro x w1 bA hbel hdep hold hb
    have e3 : bA.tmps[3]?.getD undef = .pointer (some ⟨B2, 0, none⟩) := hb 3
    refine phw_run Grw.refl (.pointer (some ⟨B2, 1, none⟩)) ?_ rfl
    clear hb hdep hold
    go_simp
  · intro x w1 bA hbel hdep hold hb
    have e12 : bA.tmps[12]?.getD undef = .pointer (some ⟨B2, 1, none⟩) := (hb 12).trans (hdep 7 (by decide))
    have cc := (Q2.out.below hbel.below Q2.out.lt).cell 1
    refine phw_run Grw.refl (.int .i64 y2) ?_ rfl
    clear hb hdep hold
    go_simp
  · intro x w1 bA hbel hdep hold hb
    have e11 : bA.tmps[11]?.getD undef = .int .i64 x2 := (hb 11).trans (hdep 6 (by decide))
    have e13 : bA.tmps[13]?.getD undef = .int .i64 y2 := (hb 13).trans (hdep 8 (by decide))
    refine phw_call ?_ ((HC2.out w1).mono fun e w' h => ⟨_, h.1, by rw [h.2]; exact Grw.refl _, rfl⟩)
    clear hb hdep hold
    go_simp
  · intro x w1 bA hbel hdep hold hb
    have e9 : bA.tmps[9]?.getD undef = .int .i64 r1 := (hb 9).trans (hdep 4 (by decide))
    have e14 : bA.tmps[14]?.getD undef = .int .i64 r2 := (hb 14).trans (hdep 9 (by decide))
    refine phw_make (.slice (some ⟨w1.heap.size, 0, none⟩) 2 2) (w1.alloc (.cells #[.int .i64 r1, .int .i64 r2] 3)) ?_ (Grw.alloc _ _) (⟨w1.heap.size, rfl, Arr.new w1 3 [.int .i64 r1, .int .i64 r2]⟩)
    clear hb hdep hold
    go_simp
  · intro x w1 bA hbel hdep hold hb
    have p15 := hdep 10 (by decide)
    have e15 : bA.tmps[15]?.getD undef = x 10 := hb 15
    generalize x 10 = x15 at p15 e15
    have P15 := Lib.hid (show (fun v w => ∃ g, v = .slice (some ⟨g, 0, none⟩) 2 2 ∧ Arr w g 3 [.int .i64 r1, .int .i64 r2]) x15 w1 from p15)
    clear p15
    obtain ⟨gq, heq, haq⟩ := P15.out
    subst heq
    have HAQ := Lib.hid haq
    clear haq P15
    refine phw_call ?_ ((cor_any gq r1 r2 w1 HAQ.out).mono fun e w' h => ⟨.int .i64 rr, by rw [h.1, HRR.out], by rw [h.2]; exact Grw.refl _, rfl⟩)
    clear hb hdep hold
    go_simp
  · intro x w1 bA hbel hdep hold hb
    have e16 : bA.tmps[16]?.getD undef = .int .i64 rr := (hb 16).trans (hdep 11 (by decide))
    refine phw_run Grw.refl (.int .i64 rr) ?_ rfl
    clear hb hdep hold
    go_simp
  intro x w1 hbel hall
  have x0e : x 0 = .pointer (some ⟨B1, 0, none⟩) := hall 0 (by decide)
  have x1e : x 1 = .int .i64 x1 := hall 1 (by decide)
  have x2e : x 2 = .pointer (some ⟨B2, 0, none⟩) := hall 2 (by decide)
  have x3e : x 3 = .int .i64 y1 := hall 3 (by decide)
  have x4e : x 4 = .int .i64 r1 := hall 4 (by decide)
  have x5e : x 5 = .pointer (some ⟨B1, 1, none⟩) := hall 5 (by decide)
  have x6e : x 6 = .int .i64 x2 := hall 6 (by decide)
  have x7e : x 7 = .pointer (some ⟨B2, 1, none⟩) := hall 7 (by decide)
  have x8e : x 8 = .int .i64 y2 := hall 8 (by decide)
  have x9e : x 9 = .int .i64 r2 := hall 9 (by decide)
  have p15 := hall 10 (by decide)
  have x11e : x 11 = .int .i64 rr := hall 11 (by decide)
  have x12e : x 12 = .int .i64 rr := hall 12 (by decide)
  simp only [putAll, dstOf, Act.put, List.map_cons, List.map_nil, List.setIfInBounds_toArray, List.set_cons_succ, List.set_cons_zero, Nat.reduceAdd, x0e, x1e, x2e, x3e, x4e, x5e, x6e, x7e, x8e, x9e, x11e, x12e]
  clear x0e x1e x2e x3e x4e x5e x6e x7e x8e x9e x11e x12e hall
  clear p15
  have HG := Lib.hid (HG3.out.trans hbel)
  clear hbel
  go_wp2_with fail
  go_ret
  exact ⟨rfl, HG.out⟩
/-- the cells of a slice of the call's own hold its terms -/
theorem ownB_holds {w : World} {g c base : Nat} {l : List T2} (h : OwnB base w (.slice (some ⟨g, 0, none⟩) l.length c) l) : base ≤ g ∧ g < w.heap.size ∧ HoldsK tB 3 w g 0 l.toArray := by
  rcases h.2 with ⟨hv, _⟩ | ⟨g', cap, cur, hv, hg, hh, hn, _, hc, ht⟩
  · injection hv with hv; cases hv
  · injection hv with hv e2 e3
    injection hv with hv
    injection hv with hv _
    subst hv
    have hlt : g < w.heap.size := by
      rcases Nat.lt_or_ge g w.heap.size with q | q
      · exact q
      · rw [Array.getElem?_eq_none q] at hh; cases hh
    refine ⟨hg, hlt, fun j hj => ⟨?_, frozen_of_row w g _ _ _ hh⟩⟩
    rw [size_flatK] at hj
    have hj2 : j < l.length * 3 := by simpa using hj
    rw [get_flatK _ _ _ _ hj, cell_of_row w g _ cur _ (0, 0) hh, Nat.zero_add]
    have h1 := tBflat_get l (j / 3) (j % 3) (by omega) (by omega)
    rw [show j / 3 * 3 + j % 3 = j by omega, ← ht, List.getElem?_take, if_pos hj2] at h1
    have h2 : (l.toArray)[j / 3]! = l[j / 3]'(by omega) := by
      rw [getElem!_pos l.toArray (j / 3) (by simp; omega)]; simp
    rw [h2]
    have h3 : cur[j]? = cur.toList[j]? := by simp
    rw [h3, h1]
    rcases (by omega : j % 3 = 0 ∨ j % 3 = 1 ∨ j % 3 = 2) with q | q | q <;> rw [q] <;> rfl
theorem sortWB_heap {enc : T2 → List Value} {k : Nat} {w : World} {g n : Nat} {d : Array T2} {os : Array Obj} {q : Nat} (h1 : q ≠ g) (h2 : q < w.heap.size) : (sortWorldK enc k w g 0 n d os).heap[q]? = w.heap[q]? := by
  unfold sortWorldK Sort.grow putRowK putRow mapBlock Sort.ahead
  show ((w.heap.modify g _) ++ os)[q]? = w.heap[q]?
  rw [Array.getElem?_append_left (by simpa using h2), Array.getElem?_modify, if_neg (fun e => h1 e.symm)]
theorem sortWB_below {enc : T2 → List Value} {k : Nat} {w : World} {g n base : Nat} {d : Array T2} {os : Array Obj} (hb : base ≤ g) (hg : g < w.heap.size) : Go.RowKit.Below base w (sortWorldK enc k w g 0 n d os) := by
  refine ⟨rfl, rfl, rfl, ?_, fun q hq => sortWB_heap (by omega) (by omega)⟩
  unfold sortWorldK Sort.grow putRowK putRow mapBlock Sort.ahead
  show w.heap.size ≤ ((w.heap.modify g _) ++ os).size
  simp
theorem sortWB_typ {enc : T2 → List Value} {k : Nat} {w : World} {g n : Nat} {d : Array T2} {os : Array Obj} (hg : TBb w g) : TBb (sortWorldK enc k w g 0 n d os) g := by
  obtain ⟨cs, fr, hh⟩ := hg
  have hlt := heap_ltB hh
  unfold sortWorldK Sort.grow putRowK putRow mapBlock Sort.ahead TBb
  show ∃ cs fr, ((w.heap.modify g _) ++ os)[g]? = some (.cells cs _ fr)
  rw [Array.getElem?_append_left (by simpa using hlt), Array.getElem?_modify, if_pos rfl, hh]
  exact ⟨_, _, rfl⟩
theorem holds_tmB {w : World} {g c : Nat} {d : Array T2} (h : HoldsK tB 3 w g 0 d) (hg : TBb w g) : TmB w (.slice (some ⟨g, 0, none⟩) d.size c) d.toList := by
  have key : ∀ k (hk : k < d.toList.length) j, j < 3 → w.cell? ⟨g, 0 + k * 3 + j, none⟩ = some ((tB d.toList[k])[j]!) := fun k hk j hj => by
    have hk2 : k < d.size := by simpa using hk
    have h1 := (h (k * 3 + j) (by rw [size_flatK]; omega)).1
    rw [get_flatK _ _ _ _ (by omega)] at h1
    rw [show (k * 3 + j) / 3 = k by omega, show (k * 3 + j) % 3 = j by omega] at h1
    have : d[k]! = d.toList[k] := by rw [getElem!_pos d k hk2]; simp
    rw [this] at h1
    rw [Nat.add_assoc]
    exact h1
  exact ⟨_, c, rfl, fun k hk => ⟨g, 0, rfl, key k hk 0 (by omega), key k hk 1 (by omega), key k hk 2 (by omega), hg⟩⟩
theorem sortB_any (g c base : Nat) (ts : List T2) (w : World) (h : OwnB base w (.slice (some ⟨g, 0, none⟩) ts.length c) ts) (hl : ts.length ≤ 1000000) :
    Calls Tryz.prog 63 #[.slice (some ⟨g, 0, none⟩) ts.length c, .func (.func 64) #[] #[]] w fun e w' => e = .returned (.tuple #[]) ∧ ∃ ts' : List T2, ts'.Perm ts ∧ ts'.Pairwise (fun a b => ¬ kb b.1 a.1) ∧ TmB w' (.slice (some ⟨g, 0, none⟩) ts.length c) ts' ∧ Go.RowKit.Below base w w' ∧ ∀ k, k ≠ g → k < w.heap.size → w'.heap[k]? = w.heap[k]? := by
  obtain ⟨hb, hg, hh⟩ := ownB_holds h
  have htyp : TBb w g := OwnA.typB h g rfl
  have eg : ∀ args w, (callFunc 64 args).run Tryz.prog w = .ok (.enter 64 args) w := enters_of Tryz.func64 (by kernel_rfl) rfl
  have hcon := AnyQ.slices_SortFunc Tryz.sortBT 3 Tryz.isAgg49 Tryz.sizeOf49 tB (fun _ => rfl) (fun x v hv => by simp [tB] at hv; rcases hv with rfl | rfl | rfl <;> rfl) cfB cfB_swo 64 #[] g 0 c ts.toArray w eg (fun _ _ _ _ x y => bcmp_any x y _) hh hg (by simp; omega)
  rw [show ts.toArray.size = ts.length by simp] at hcon
  refine Calls.mono hcon ?_
  rintro e w' ⟨rfl, d', n, os, hp, hs, rfl⟩
  have hsz : d'.size = ts.length := by have := hp.1; simpa using this
  have hperm : d'.toList.Perm ts := by
    have h1 := hp.2.2
    rw [← hsz] at h1
    have h2 : (List.take ts.length d'.toList).Perm ts := by simpa [hsz] using h1
    rwa [List.take_of_length_le (by simp; omega)] at h2
  have hd : HoldsK tB 3 (sortWorldK tB 3 w g 0 n d' os) g 0 d' := holdsK_sortWorldK_c tB 3 w g 0 ts.toArray d' n os hh hg (by simpa using hsz)
  have hf := holds_tmB (c := c) hd (sortWB_typ htyp)
  rw [hsz] at hf
  refine ⟨rfl, d'.toList, hperm, ?_, hf, sortWB_below hb hg, fun k h1 h2 => sortWB_heap h1 h2⟩
  rw [List.pairwise_iff_getElem]
  intro i j hi hj hij hk
  have h1 := hs i j (Nat.zero_le _) hij (by simp at hj; omega)
  have hi2 : i < d'.size := by simpa using hi
  have hj2 : j < d'.size := by simpa using hj
  rw [getElem!_pos d' i hi2, getElem!_pos d' j hj2] at h1
  have h2 := (cfB_lt d'[j] d'[i]).2 (by simpa using hk)
  rw [h2] at h1
  cases h1
theorem can_of_sort {l l' : List T2} (hp : l'.Perm l) (hs : l'.Pairwise (fun a b => ¬ kb b.1 a.1)) (hd : l.Pairwise fun a b => a.1 ≠ b.1) : Srt2 l' := by
  have hd2 : l'.Pairwise fun a b => a.1 ≠ b.1 := (hp.pairwise_iff (fun {a b} (h : a.1 ≠ b.1) => h.symm)).2 hd
  exact (hs.and hd2).imp fun {a b} h => by
    rcases kb_tri a.1 b.1 with q | q | q
    · exact q
    · exact absurd q h.2
    · exact absurd q h.1
end Go.Proofs.YtnmidhlghhephaaGreatDoor
