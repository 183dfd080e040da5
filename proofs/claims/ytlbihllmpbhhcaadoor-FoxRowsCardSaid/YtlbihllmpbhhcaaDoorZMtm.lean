/- What fox.Matrix makes. -/
import Derived.Test.YtlbihllmpbhhcaaDoorZCha
import Derived.Test.YtlbihllmpbhhcaaDoorZRwp
import Derived.Test.YtlbihllmpbhhcaaDoorZRpu
namespace Go.Proofs.YtlbihllmpbhhcaaDoor
open Go.RowKit
set_option linter.unusedVariables false

section
variable {α : Type}
/-- zc: the cells of the zero value -/
def OwnZ (e : TypeId) (sz : Nat) (enc : α → List Value) (zc : Array Value) (base : Nat) (w : World) (v : Value) (xs : List α) : Prop :=
  (v = .slice none 0 0 ∧ xs = []) ∨ ∃ g cap zs, v = .slice (some ⟨g, 0, none⟩) xs.length cap ∧ base ≤ g ∧ w.heap[g]? = some (.cells (xs.flatMap enc ++ zs).toArray e (0, 0)) ∧ xs.length ≤ cap ∧ cap ≤ maxLen ∧ (xs.flatMap enc).length = xs.length * sz ∧ zs.length = (cap - xs.length) * sz ∧ ∀ q ∈ zs, q ∈ zc
variable {e : TypeId} {sz : Nat} {enc : α → List Value} {zc : Array Value} {base : Nat} {w w' : World} {v u : Value} {xs ys : List α}
theorem OwnZ.form (h : OwnZ e sz enc zc base w v xs) : ∃ A c, v = .slice A xs.length c := by
  rcases h with ⟨rfl, rfl⟩ | ⟨g, cap, zs, rfl, _⟩
  · exact ⟨none, 0, rfl⟩
  · exact ⟨_, _, rfl⟩
theorem OwnZ.own (h : OwnZ e sz enc zc base w v xs) : OwnA e sz enc base w v xs := by
  rcases h with ⟨rfl, rfl⟩ | ⟨g, cap, zs, rfl, hb, hh, h1, h2, h3, h4, _⟩
  · exact OwnA.nil _ _ _ _ _
  · refine ⟨h3, .inr ⟨g, cap, _, rfl, hb, hh, h1, h2, ?_, ?_⟩⟩
    · simp only [List.size_toArray, List.length_append, h3, h4, ← Nat.add_mul]
      congr 1; omega
    · show ((xs.flatMap enc ++ zs).take (xs.length * sz)) = xs.flatMap enc
      rw [← h3, List.take_left]
theorem OwnZ.nil (e : TypeId) (sz : Nat) (enc : α → List Value) (zc : Array Value) (base : Nat) (w : World) : OwnZ e sz enc zc base w (.slice none 0 0) [] := .inl ⟨rfl, rfl⟩
theorem OwnZ.keepK (h : OwnZ e sz enc zc base w v xs) (hk : ∀ k, v.ownBlock = some k → w'.heap[k]? = w.heap[k]?) : OwnZ e sz enc zc base w' v xs := by
  rcases h with h | ⟨g, cap, zs, rfl, hb, hh, r⟩
  · exact .inl h
  · exact .inr ⟨g, cap, zs, rfl, hb, (hk g rfl).trans hh, r⟩
theorem OwnZ.below (h : OwnZ e sz enc zc base w v xs) (hb : Below w.heap.size w w') : OwnZ e sz enc zc base w' v xs := h.keepK fun k hk => hb.block k (h.own.lt k hk)
/-- what lies in its block: cells of its elements, or zero -/
theorem OwnZ.cells (h : OwnZ e sz enc zc base w v xs) {g o : Nat} {q : Value} (hg : v.ownBlock = some g) (hq : w.cell? ⟨g, o, none⟩ = some q) : (∃ x ∈ xs, q ∈ enc x) ∨ q ∈ zc := by
  rcases h with ⟨rfl, rfl⟩ | ⟨g', cap, zs, rfl, hb, hh, h1, h2, h3, h4, h5⟩
  · cases hg
  · have hg' : g' = g := Option.some.inj hg
    subst hg'
    have : (xs.flatMap enc ++ zs)[o]? = some q := by
      have h6 : Arr w g' e (xs.flatMap enc ++ zs) := hh
      rw [← h6.cell]; exact hq
    have := List.mem_of_getElem? this
    rcases List.mem_append.1 this with m | m
    · obtain ⟨x, hx, hq2⟩ := List.mem_flatMap.1 m
      exact .inl ⟨x, hx, hq2⟩
    · exact .inr (h5 q m)
theorem zero_mem (z : Array Value) (n : Nat) : ∀ q ∈ (Builtin.zeroCells z n).toList, q ∈ z := by
  intro q hq
  unfold Builtin.zeroCells at hq
  simp only [Array.toList_map, List.mem_map, Array.toList_range, List.mem_range] at hq
  obtain ⟨i, hi, rfl⟩ := hq
  have h0 : 0 < z.size := by
    rcases Nat.eq_zero_or_pos z.size with q | q
    · rw [q, Nat.mul_zero] at hi; omega
    · exact q
  rw [getElem!_pos z _ (Nat.mod_lt _ h0)]
  exact Array.getElem_mem _
theorem zero_len (z : Array Value) (n : Nat) : (Builtin.zeroCells z n).toList.length = n * z.size := by simp [Builtin.zeroCells]
/-- append of one element -/
theorem run_appZ {P : Program} {t ty : TypeId} {i : TypeInfo} {z : Value} {bytes : Nat} {m : α} {b : Nat} {e2 : TypeId} (ht : P.underlying t = some (.slice e)) (hi : P.info? e = some i) (hz : i.zero = some z) (hs : i.size = sz) (hby : i.bytes = bytes) (hzs : z.cells.size = sz) (hsz0 : 0 < sz) (hb16 : bytes ≤ 64)
    (hm : (enc m).length = sz) (hone : ∀ q ∈ enc m, q.oneCell' = true)
    (h : OwnZ e sz enc z.cells base w v xs) (hu : Arr w b e2 (enc m)) (hlen : xs.length ≤ 100000000) (hbase : base ≤ w.heap.size) :
    ∃ v' w', (Builtin.append_ #[t, t] ty #[v, .slice (some ⟨b, 0, none⟩) 1 1]).run P w = .ok v' w' ∧ OwnZ e sz enc z.cells base w' v' (xs ++ [m]) ∧ Below base w w' ∧ (∀ k, k < w.heap.size → v.ownBlock ≠ some k → w'.heap[k]? = w.heap[k]?) ∧ (v'.ownBlock = v.ownBlock ∨ v'.ownBlock = some w.heap.size) := by
  have hcells : ∀ j q, (enc m)[j]? = some q → w.cell? ((⟨b, 0, none⟩ : Addr).add j) = some q := by
    intro j q hq
    have : (⟨b, 0, none⟩ : Addr).add j = ⟨b, j, none⟩ := by unfold Addr.add; split <;> simp_all
    rw [this, hu.cell]; exact hq
  subst hs
  have hnl : (enc m).length = 1 * i.size := by rw [hm, Nat.one_mul]
  have hfl : (xs ++ [m]).flatMap enc = xs.flatMap enc ++ enc m := by simp
  rcases h with ⟨rfl, rfl⟩ | ⟨g, cap, zs, rfl, hb, hh, h1, h2, h3, h4, h5⟩
  · have hr := run_append_nil (P := P) w t ty e i z ht hi hz ⟨b, 0, none⟩ 1 1 (enc m) hnl hcells (by omega) (by omega) (by rw [hby]; omega)
    have hge := grownCap_ge w 1 0 e
    have hcm : grownCap w 1 0 e ≤ maxLen := grownCap_le_maxLen w 1 0 e (by unfold maxLen; omega)
    refine ⟨_, _, hr, .inr ⟨w.heap.size, _, (Builtin.zeroCells z.cells (grownCap w 1 0 e - 1)).toList, rfl, hbase, ?_, hge, hcm, by rw [hfl]; simpa using hm, by rw [zero_len, hzs]; rfl, zero_mem _ _⟩, ?_, fun k hk _ => Below.heap_alloc w.drew _ k hk, .inr rfl⟩
    · rw [hfl]
      refine (heap_alloc_new w.drew _).trans ?_
      congr 2
      apply Array.ext'
      simp
    · exact ((Below.refl _ _).drew).alloc hbase _
  · by_cases hroom : xs.length + 1 ≤ cap
    · have hr := run_append_room (P := P) w t ty e i ht hi g xs.length cap _ hh ⟨b, 0, none⟩ 1 1 (enc m) hnl hcells hone hroom (by
        simp only [List.size_toArray, List.length_append, h3, h4, hm]
        have : (cap - xs.length) * i.size = (cap - xs.length - 1) * i.size + i.size := by rw [← Nat.succ_mul]; congr 1; omega
        omega)
      have hgl : g < w.heap.size := by
        obtain ⟨h, _⟩ := Array.getElem?_eq_some_iff.1 hh
        exact h
      refine ⟨_, _, hr, .inr ⟨g, cap, zs.drop i.size, by rw [List.length_append]; rfl, hb, ?_, by rw [List.length_append]; exact hroom, h2, by rw [hfl, List.length_append, List.length_append, h3, hm, Nat.add_mul]; simp, ?_, fun q hq => h5 q (List.mem_of_mem_drop hq)⟩, ?_, fun k hk hne => setRow_other w g k _ (fun e => hne (by simp [Value.ownBlock, e])), .inl rfl⟩
      · refine (setRow_heap w g _ _ e _ hh).trans ?_
        congr 2
        apply Array.ext'
        simp only [hfl, ← h3, hm]
        rw [List.take_left, List.drop_append, List.drop_eq_nil_of_le (by omega), List.nil_append]
        congr 2; omega
      · rw [List.length_drop, h4, List.length_append]
        have : (cap - xs.length) * i.size = (cap - xs.length - 1) * i.size + i.size := by rw [← Nat.succ_mul]; congr 1; omega
        rw [this, show cap - (xs.length + [m].length) = cap - xs.length - 1 by simp; omega]; omega
      · exact (Below.refl _ _).grown (row := some g) ⟨rfl, rfl, rfl, by simp, fun k _ hk => setRow_other w g k _ (fun e => hk (by rw [e]))⟩ hbase (fun k hk => by injection hk with hk; omega)
    · have hgx : ∀ j q, (xs.flatMap enc)[j]? = some q → w.cell? ((⟨g, 0, none⟩ : Addr).add j) = some q := by
        intro j q hq
        have e1 : (⟨g, 0, none⟩ : Addr).add j = ⟨g, j, none⟩ := by unfold Addr.add; split <;> simp_all
        have h6 : Arr w g e (xs.flatMap enc ++ zs) := hh
        rw [e1, h6.cell, List.getElem?_append_left (List.getElem?_eq_some_iff.1 hq).1]; exact hq
      have hr := run_append_grow (P := P) w t ty e i z ht hi hz ⟨g, 0, none⟩ xs.length cap (xs.flatMap enc) h3 hgx ⟨b, 0, none⟩ 1 1 (enc m) hnl hcells (by omega) (by omega) (growslice_fits (by omega) (by rw [hby]; exact Nat.le_trans (Nat.mul_le_mul (show xs.length + 1 ≤ 100000001 by omega) hb16) (by omega)))
      have hge := grownCap_ge w (xs.length + 1) cap e
      have hcm : grownCap w (xs.length + 1) cap e ≤ maxLen := grownCap_le_maxLen w (xs.length + 1) cap e (by unfold maxLen; omega)
      refine ⟨_, _, hr, .inr ⟨w.heap.size, _, (Builtin.zeroCells z.cells (grownCap w (xs.length + 1) cap e - (xs.length + 1))).toList, by rw [List.length_append]; rfl, hbase, ?_, by rw [List.length_append]; exact hge, hcm, by rw [hfl, List.length_append, List.length_append, h3, hm, Nat.add_mul]; simp, by rw [zero_len, hzs, List.length_append]; rfl, zero_mem _ _⟩, ?_, fun k hk _ => Below.heap_alloc w.drew _ k hk, .inr rfl⟩
      · rw [hfl]
        refine (heap_alloc_new w.drew _).trans ?_
        congr 2
        apply Array.ext'
        simp
      · exact ((Below.refl _ _).drew).alloc hbase _
theorem wpList_appZ {P : Program} {ops : Array Oper} {rest : List Oper} {o : Oper} {a : Act} {Q : Exit → Act → World → Prop} {z : Value} {m : α} {b : Nat} {e2 : TypeId} (hgd : o.guard = none) (E : ElA P e sz enc) (hzi : ∃ i, P.info? e = some i ∧ i.zero = some z) (s x : Operand) (t : TypeId) (ho : o.op = .call { callee := .builtin .append, args := #[s, x], argTypes := #[t, t] })
    (ht : P.underlying t = some (.slice e)) (hv : a.eval s = v) (h : OwnZ e sz enc z.cells base w v xs) (hx : a.eval x = .slice (some ⟨b, 0, none⟩) 1 1) (hu : Arr w b e2 (enc m)) (hlen : xs.length ≤ 100000000) (hbase : base ≤ w.heap.size)
    (hK : ∀ v' w', OwnZ e sz enc z.cells base w' v' (xs ++ [m]) → Below base w w' → (∀ k, k < w.heap.size → v.ownBlock ≠ some k → w'.heap[k]? = w.heap[k]?) → (v'.ownBlock = v.ownBlock ∨ v'.ownBlock = some w.heap.size) → wpList P ops Q rest (a.put o.dst v') w') : wpList P ops Q (o :: rest) a w := by
  obtain ⟨i, z', bytes, hi, hz, hs, hby, hzs, hb⟩ := E.ex
  obtain ⟨i2, hi2, hz2⟩ := hzi
  have hii : i2 = i := Option.some.inj (hi2.symm.trans hi)
  subst hii
  have hzz : z = z' := Option.some.inj (hz2.symm.trans hz)
  subst hzz
  obtain ⟨v', w', hrun, h1, h2, h3, h4⟩ := run_appZ (P := P) (t := t) (ty := o.type) ht hi hz hs hby hzs E.pos hb (E.len m) (E.one m) h hu hlen hbase
  refine wpList_plain hgd fun _ hk => ?_
  unfold Oper.wp execOp
  simp only [ho, resolve, invoke, builtin, Sem.run_bind, Sem.run_pure, Result.andThen_ok, List.map_toArray, List.map_cons, List.map_nil, hv, hx, hrun]
  exact hk _ _ (hK v' w' h1 h2 h3 h4)
end


abbrev PVt := Bool × Option Addr × Nat × Nat
abbrev SVt := Option Addr × Nat × Nat
def vP (p : PVt) : Value := .agg #[.bool p.1, .slice p.2.1 p.2.2.1 p.2.2.2]
def eP (p : PVt) : List Value := [.bool p.1, .slice p.2.1 p.2.2.1 p.2.2.2]
def zP : Value := .agg #[.bool false, .slice none 0 0]
def vS (s : SVt) : Value := .slice s.1 s.2.1 s.2.2
def eS (s : SVt) : List Value := [vS s]
theorem info_pol : (Tryd.prog.info? 27).map (fun i => (i.zero, i.size, i.bytes)) = some (some (.agg #[.bool false, .slice none 0 0]), 2, 32) := by kernel_rfl
theorem info_pls : (Tryd.prog.info? 47).map (fun i => (i.zero, i.size, i.bytes)) = some (some (.slice none 0 0), 1, 24) := by kernel_rfl
theorem elP : ElA Tryd.prog 27 2 eP where
  ex := by
    obtain ⟨i, hi, hz, hs, hb⟩ := info_parts info_pol
    exact ⟨i, _, 32, hi, hz, hs, hb, rfl, by omega⟩
  pos := by omega
  len := fun x => rfl
  one := fun x q h => by unfold eP at h; simp at h; rcases h with rfl | rfl <;> rfl
theorem elS : ElA Tryd.prog 47 1 eS where
  ex := by
    obtain ⟨i, hi, hz, hs, hb⟩ := info_parts info_pls
    exact ⟨i, _, 24, hi, hz, hs, hb, rfl, by omega⟩
  pos := by omega
  len := fun x => rfl
  one := fun x q h => by unfold eS at h; simp at h; subst h; rfl
theorem zinfoP : ∃ i, Tryd.prog.info? 27 = some i ∧ i.zero = some zP := by
  obtain ⟨i, hi, hz, _⟩ := info_parts info_pol
  exact ⟨i, hi, hz⟩
theorem zinfoS : ∃ i, Tryd.prog.info? 47 = some i ∧ i.zero = some (.slice none 0 0) := by
  obtain ⟨i, hi, hz, _⟩ := info_parts info_pls
  exact ⟨i, hi, hz⟩
/-- all blocks but those of the type T are kept -/
def KeepE (T : TypeId) (w w' : World) : Prop := ∀ (k : Nat) (cs : Array Value) (t : TypeId) (fr : Nat × Nat), w.heap[k]? = some (Obj.cells cs t fr) → t ≠ T → w'.heap[k]? = w.heap[k]?
theorem heap_lt {w : World} {k : Nat} {o : Obj} (h : w.heap[k]? = some o) : k < w.heap.size := by
  obtain ⟨h, _⟩ := Array.getElem?_eq_some_iff.1 h
  exact h
theorem KeepE.of {T : TypeId} {w w' : World} {v : Value} (hk : ∀ k, k < w.heap.size → v.ownBlock ≠ some k → w'.heap[k]? = w.heap[k]?) (ht : ∀ k, v.ownBlock = some k → ∃ cs fr, w.heap[k]? = some (.cells cs T fr)) : KeepE T w w' := fun k cs t fr h hne => hk k (heap_lt h) fun e => by
  obtain ⟨cs', fr', h'⟩ := ht k e
  rw [h] at h'
  injection h' with h'
  injection h' with _ h2 _
  exact hne h2
theorem KeepE.trans {T : TypeId} {w w1 w2 : World} (h : KeepE T w w1) (h2 : KeepE T w1 w2) : KeepE T w w2 := fun k cs t fr hh hne => by
  have e1 := h k cs t fr hh hne
  exact (h2 k cs t fr (e1.trans hh) hne).trans e1
theorem KeepE.below {T : TypeId} {w w' : World} (hb : Below w.heap.size w w') : KeepE T w w' := fun k cs t fr h _ => hb.block k (heap_lt h)
theorem Arr.keepE {T : TypeId} {w w' : World} {g : Nat} {t : TypeId} {cs : List Value} (h : Arr w g t cs) (hk : KeepE T w w') (hne : t ≠ T) : Arr w' g t cs := (hk g _ t _ h hne).trans h
section
variable {α : Type} {e : TypeId} {sz : Nat} {enc : α → List Value} {zc : Array Value} {base : Nat} {w w' : World} {v : Value} {xs : List α}
theorem OwnA.typ (h : OwnA e sz enc base w v xs) : ∀ k, v.ownBlock = some k → ∃ cs fr, w.heap[k]? = some (.cells cs e fr) := by
  intro k hk
  rcases h.2 with ⟨rfl, h0⟩ | ⟨g, cap, cur, rfl, _, hh, _⟩
  · cases hk
  · have : g = k := Option.some.inj hk
    subst this
    exact ⟨_, _, hh⟩
theorem OwnA.keepE {T : TypeId} (h : OwnA e sz enc base w v xs) (hk : KeepE T w w') (hne : e ≠ T) : OwnA e sz enc base w' v xs := h.keepK fun k hk2 => by
  obtain ⟨cs, fr, hh⟩ := h.typ k hk2
  exact hk k cs e fr hh hne
theorem OwnZ.keepE {T : TypeId} (h : OwnZ e sz enc zc base w v xs) (hk : KeepE T w w') (hne : e ≠ T) : OwnZ e sz enc zc base w' v xs := h.keepK fun k hk2 => by
  obtain ⟨cs, fr, hh⟩ := h.own.typ k hk2
  exact hk k cs e fr hh hne
end
theorem Tms.keepE {T : TypeId} {w w' : World} {v : Value} {l : List (Int × Int)} (h : Tms w v l) (hk : KeepE T w w') (hne : 77 ≠ T) : Tms w' v l := h.keepT fun b ⟨cs, fr, hh⟩ => hk b cs _ fr hh hne
theorem PolyV.keepE {T : TypeId} {w w' : World} {v : Value} {p : Pol} (h : PolyV w v p) (hk : KeepE T w w') (hne : 77 ≠ T) : PolyV w' v p := by
  obtain ⟨A, c, hv, hx⟩ := h
  exact ⟨A, c, hv, hx.keepE hk hne⟩
/-- the derivative of a word with respect to a generator -/
def PolIs (w : World) (p : PVt) (comp : List Int) (j : Nat) (ws : List Int) : Prop := ∃ r, PolyV w (vP p) (some r) ∧ Can r ∧ Lim r ∧ ∀ e, cf r e = dF comp (j : Int) ws e
theorem PolIs.keepE {T : TypeId} {w w' : World} {p : PVt} {comp ws : List Int} {j : Nat} (h : PolIs w p comp j ws) (hk : KeepE T w w') (hne : 77 ≠ T) : PolIs w' p comp j ws := by
  obtain ⟨r, h1, h2⟩ := h
  exact ⟨r, h1.keepE hk hne, h2⟩
theorem PolIs.below {w w' : World} {p : PVt} {comp ws : List Int} {j : Nat} (h : PolIs w p comp j ws) (hb : Below w.heap.size w w') : PolIs w' p comp j ws := by
  obtain ⟨r, h1, h2⟩ := h
  exact ⟨r, h1.below hb, h2⟩
/-- a row of the matrix -/
def RowIs (base : Nat) (w : World) (s : SVt) (n : Nat) (comp ws : List Int) : Prop := ∃ ps : List PVt, ps.length = n ∧ OwnA 27 2 eP base w (vS s) ps ∧ ∀ (j : Nat) p, ps[j]? = some p → PolIs w p comp j ws
theorem RowIs.keepE {T : TypeId} {base : Nat} {w w' : World} {s : SVt} {n : Nat} {comp ws : List Int} (h : RowIs base w s n comp ws) (hk : KeepE T w w') (h1 : 77 ≠ T) (h2 : 27 ≠ T) : RowIs base w' s n comp ws := by
  obtain ⟨ps, e1, e2, e3⟩ := h
  exact ⟨ps, e1, e2.keepE hk h2, fun j p hj => (e3 j p hj).keepE hk h1⟩
theorem RowIs.below {base : Nat} {w w' : World} {s : SVt} {n : Nat} {comp ws : List Int} (h : RowIs base w s n comp ws) (hb : Below w.heap.size w w') : RowIs base w' s n comp ws := by
  obtain ⟨ps, e1, e2, e3⟩ := h
  exact ⟨ps, e1, e2.below hb, fun j p hj => (e3 j p hj).below hb⟩
/-- the matrix so far -/
def MatIs (base : Nat) (w : World) (v : Value) (n : Nat) (comp : List Int) (wss : List (List Int)) : Prop := ∃ ss : List SVt, ss.length = wss.length ∧ OwnZ 47 1 eS #[.slice none 0 0] base w v ss ∧ ∀ (k : Nat) s ws, ss[k]? = some s → wss[k]? = some ws → RowIs base w s n comp ws
theorem MatIs.below {base : Nat} {w w' : World} {v : Value} {n : Nat} {comp : List Int} {wss : List (List Int)} (h : MatIs base w v n comp wss) (hb : Below w.heap.size w w') : MatIs base w' v n comp wss := by
  obtain ⟨ss, e1, e2, e3⟩ := h
  exact ⟨ss, e1, e2.below hb, fun k s ws h1 h2 => (e3 k s ws h1 h2).below hb⟩


theorem info_fts : (Tryd.prog.info? 66).map (fun i => (i.zero, i.size, i.bytes)) = some (some (.slice none 0 0), 1, 24) := by kernel_rfl
theorem info_in9 : (Tryd.prog.info? 3).map (fun i => (i.zero, i.size, i.bytes)) = some (some (.int .i64 0), 1, 8) := by kernel_rfl
theorem mk_lists (n : Nat) (hn : n ≤ 1000000) (W : World) : (Instr.makeSlice 89 (.int .i64 (n : Int)) (.int .i64 (n : Int))).run Tryd.prog W = .ok (.slice (some ⟨W.heap.size, 0, none⟩) n n) (W.alloc (.cells (rowOf (List.replicate n (.slice none 0 0))) 66)) := by
  obtain ⟨i, hi, hz, hs, hb⟩ := info_parts info_fts
  exact run_make_one (P := Tryd.prog) 89 66 i (.slice none 0 0) Tryd.underlying89 hi hz hs rfl (by omega) n hn W
theorem mk_ones (n : Nat) (hn : n ≤ 1000000) (W : World) : (Instr.makeSlice 22 (.int .i64 (n : Int)) (.int .i64 (n : Int))).run Tryd.prog W = .ok (.slice (some ⟨W.heap.size, 0, none⟩) n n) (W.alloc (.cells (rowOf (List.replicate n (.int .i64 0))) 3)) := by
  obtain ⟨i, hi, hz, hs, hb⟩ := info_parts info_in9
  exact run_make_one (P := Tryd.prog) 22 3 i (.int .i64 0) Tryd.underlying22 hi hz hs rfl (by omega) n hn W
theorem zmem (z : Array Value) (h0 : 0 < z.size) (j : Nat) : z[j % z.size]! ∈ z := by
  rw [getElem!_pos z _ (Nat.mod_lt _ h0)]
  exact Array.getElem_mem _
theorem mk_row (n : Nat) (hn : n ≤ 1000000) (W : World) : ∃ zs : List Value, (Instr.makeSlice 47 (.int .i64 0) (.int .i64 (n : Int))).run Tryd.prog W = .ok (.slice (some ⟨W.heap.size, 0, none⟩) 0 n) (W.alloc (.cells zs.toArray 27)) ∧ ∀ base, base ≤ W.heap.size → OwnZ 27 2 eP zP.cells base (W.alloc (.cells zs.toArray 27)) (.slice (some ⟨W.heap.size, 0, none⟩) 0 n) [] := by
  obtain ⟨i, hi, hz, hs, hby⟩ := info_parts info_pol
  have h := run_make (P := Tryd.prog) W 47 27 i _ Tryd.underlying47 hi hz .i64 .i64 0 (n : Int) (Int.le_refl _) (by omega) (by rw [hby]; omega) (by omega)
  obtain ⟨zs, hzs⟩ : ∃ zs, zs = (madeCells (Value.agg #[.bool false, .slice none 0 0]).cells ((n : Int).toNat * i.size)).toList := ⟨_, rfl⟩
  have hze : (madeCells (Value.agg #[.bool false, .slice none 0 0]).cells ((n : Int).toNat * i.size)) = zs.toArray := by rw [hzs]
  rw [hze] at h
  refine ⟨zs, by simpa using h, fun base hb => .inr ⟨W.heap.size, n, zs, rfl, hb, ?_, Nat.zero_le _, by unfold maxLen; omega, rfl, ?_, ?_⟩⟩
  · exact heap_alloc_new W _
  · rw [hzs, Array.length_toList, size_madeCells, hs]; simp
  · intro q hq
    rw [hzs] at hq
    unfold madeCells at hq
    simp only [Array.toList_map, List.mem_map, Array.toList_range, List.mem_range] at hq
    obtain ⟨j, hj, rfl⟩ := hq
    exact zmem _ (by decide) j
theorem MtS.start {base tb rb n : Nat} {comp : List Int} {W : World} (hb : Arr W tb 89 [.slice (some ⟨rb, 0, none⟩) n n]) (hr : Arr W rb 66 (List.replicate n (.slice none 0 0))) : MtS base tb rb n comp [] W := by
  refine ⟨hb, List.replicate n (.slice none 0 0), List.length_replicate, hr, fun j v hj => ?_, fun i j a b hij ha hb k hk => ?_⟩
  · have := List.mem_of_getElem? hj
    rw [List.mem_replicate] at this
    rw [this.2]
    exact OwnF.nil _ _
  · have := List.mem_of_getElem? ha
    rw [List.mem_replicate] at this
    rw [this.2] at hk
    cases hk
/-- the state of the loop over the lists of terms -/
structure L4 (B1 rb n : Nat) (comp ws : List Int) (vs : List Value) (wr : World) (rv : Value) (j : Nat) (W : World) : Prop where
  row : Arr W rb 66 vs
  lst : ∀ (i : Nat) v, j ≤ i → vs[i]? = some v → OwnF B1 W v (drv comp (i : Int) ws 0)
  own : ∃ ps : List PVt, ps.length = j ∧ OwnZ 27 2 eP zP.cells B1 W rv ps ∧ ∀ (i : Nat) p, ps[i]? = some p → PolIs W p comp i ws
  bel : Below B1 wr W
  siz : B1 ≤ W.heap.size
theorem L4.next {B1 rb n : Nat} {comp ws : List Int} {vs : List Value} {wA W W1 : World} {rv v4 : Value} {j : Nat} {p : PVt} {r : List (Int × Int)} (h : L4 B1 rb n comp ws vs wA rv j W)
    (hap : ∀ (i j : Nat) a b, i ≠ j → vs[i]? = some a → vs[j]? = some b → ∀ k, a.ownBlock = some k → b.ownBlock ≠ some k) (hv : vs[j]? = some v4)
    (hkp : ∀ k, k < W.heap.size → v4.ownBlock ≠ some k → W1.heap[k]? = W.heap[k]?) (hb : Below B1 W W1) (hpv : PolyV W1 (vP p) (some r)) (hcan : Can r) (hlim : Lim r) (hcf : ∀ x, cf r x = cf (drv comp (j : Int) ws 0) x) (o : Obj) :
    ∃ ps : List PVt, ps.length = j ∧ OwnZ 27 2 eP zP.cells B1 (W1.alloc o) rv ps ∧ B1 ≤ (W1.alloc o).heap.size ∧
      ∀ v' W3, OwnZ 27 2 eP zP.cells B1 W3 v' (ps ++ [p]) → Below B1 (W1.alloc o) W3 → (∀ k, k < (W1.alloc o).heap.size → rv.ownBlock ≠ some k → W3.heap[k]? = (W1.alloc o).heap[k]?) → L4 B1 rb n comp ws vs wA v' (j + 1) W3 := by
  obtain ⟨ps, hpl, hoz, hpi⟩ := h.own
  have hof : OwnA 69 2 fc B1 W v4 (drv comp (j : Int) ws 0) := h.lst j v4 (Nat.le_refl _) hv
  have kx : KeepE 69 W W1 := KeepE.of hkp hof.typ
  have ka : Below W1.heap.size W1 (W1.alloc o) := (Below.refl _ _).alloc (Nat.le_refl _) _
  have hs := h.siz
  have hs1 := hb.size
  have hoz2 : OwnZ 27 2 eP zP.cells B1 (W1.alloc o) rv ps := (hoz.keepE kx (by decide)).below ka
  refine ⟨ps, hpl, hoz2, by have := ka.size; omega, fun v' W3 h1 h2 h3 => ?_⟩
  have ky : KeepE 27 (W1.alloc o) W3 := KeepE.of h3 hoz2.own.typ
  refine ⟨((h.row.keepE kx (by decide)).below ka (h.row.keepE kx (by decide)).lt).keepE ky (by decide), fun i v hi hv2 => ?_, ⟨ps ++ [p], by rw [List.length_append, hpl]; rfl, h1, fun i p' hp => ?_⟩, (h.bel.trans hb).trans (((Below.refl _ _).alloc (by omega) _).trans h2), Nat.le_trans (by have := ka.size; omega) h2.size⟩
  · have e1 : OwnA 69 2 fc B1 W v (drv comp (i : Int) ws 0) := h.lst i v (by omega) hv2
    have e2 : OwnA 69 2 fc B1 W1 v (drv comp (i : Int) ws 0) := e1.keepK fun k hk => hkp k (e1.lt k hk) (fun e => hap j i _ _ (by omega) hv hv2 k e hk)
    exact (e2.below ka).keepE ky (by decide)
  · rw [List.getElem?_append] at hp
    split at hp
    · exact (((hpi i p' hp).keepE kx (by decide)).below ka).keepE ky (by decide)
    · next hlt =>
      have hi : i = j := by
        have := (List.getElem?_eq_some_iff.1 hp).1
        simp at this; omega
      subst hi
      have hp' : p = p' := by
        rw [hpl, Nat.sub_self] at hp
        simpa using hp
      subst hp'
      exact ⟨r, (hpv.below ka).keepE ky (by decide), hcan, hlim, fun e => hcf e⟩
theorem MatIs.next {N n : Nat} {W : World} {v : Value} {comp ws : List Int} {wss : List (List Int)} {s : SVt} (h : MatIs N W v n comp wss) (hr : RowIs N W s n comp ws) (hN : N ≤ W.heap.size) (o : Obj) :
    ∃ ss : List SVt, ss.length = wss.length ∧ OwnZ 47 1 eS (Value.slice none 0 0).cells N (W.alloc o) v ss ∧ N ≤ (W.alloc o).heap.size ∧
      ∀ v' W3, OwnZ 47 1 eS (Value.slice none 0 0).cells N W3 v' (ss ++ [s]) → Below N (W.alloc o) W3 → (∀ k, k < (W.alloc o).heap.size → v.ownBlock ≠ some k → W3.heap[k]? = (W.alloc o).heap[k]?) → MatIs N W3 v' n comp (wss ++ [ws]) := by
  have ka : Below W.heap.size W (W.alloc o) := (Below.refl _ _).alloc (Nat.le_refl _) _
  obtain ⟨ss, h1, h2, h3⟩ := h.below ka
  have hr2 := hr.below ka
  refine ⟨ss, h1, h2, Nat.le_trans hN ka.size, fun v' W3 k1 k2 k3 => ?_⟩
  have ky : KeepE 47 (W.alloc o) W3 := KeepE.of k3 h2.own.typ
  refine ⟨ss ++ [s], by rw [List.length_append, List.length_append, h1]; rfl, k1, fun k s' ws' e1 e2 => ?_⟩
  rw [List.getElem?_append] at e1
  rw [List.getElem?_append] at e2
  rw [h1] at e1
  split at e1
  · next hlt =>
    rw [if_pos hlt] at e2
    exact (h3 k s' ws' e1 e2).keepE ky (by decide) (by decide)
  · next hlt =>
    rw [if_neg hlt] at e2
    obtain ⟨m, hm⟩ : ∃ m, m = k - wss.length := ⟨_, rfl⟩
    rw [← hm] at e1 e2
    cases m with
    | zero =>
      simp only [List.getElem?_cons_zero, Option.some.injEq] at e1 e2
      subst e1 e2
      exact hr2.keepE ky (by decide) (by decide)
    | succ m => simp at e1
theorem KeepE.set {W : World} {g i : Nat} {T : TypeId} {cs : List Value} (h : Arr W g T cs) (u : Value) : KeepE T W (W.setCell ⟨g, i, none⟩ u) := fun k cs' t fr hh hne => Below.heap_setCell W ⟨g, i, none⟩ u k (fun e => by
  have e' : k = g := e
  subst e'
  unfold Arr at h
  rw [h] at hh
  injection hh with hh
  injection hh with _ h2 _
  exact hne h2.symm)
theorem MatIs.keepE {T : TypeId} {N n : Nat} {W W' : World} {v : Value} {comp : List Int} {wss : List (List Int)} (h : MatIs N W v n comp wss) (hk : KeepE T W W') (h1 : 77 ≠ T) (h2 : 27 ≠ T) (h3 : 47 ≠ T) : MatIs N W' v n comp wss := by
  obtain ⟨ss, e1, e2, e3⟩ := h
  exact ⟨ss, e1, e2.keepE hk h3, fun k s ws a b => (e3 k s ws a b).keepE hk h1 h2⟩
theorem MatIs.at_ {N n m c k : Nat} {W : World} {A : Option Addr} {comp : List Int} {wss : List (List Int)} (h : MatIs N W (.slice A m c) n comp wss) (hk : k < wss.length) : ∃ b o s, A = some ⟨b, o, none⟩ ∧ W.cell? ⟨b, o + k, none⟩ = some (vS s) ∧ RowIs N W s n comp wss[k] := by
  obtain ⟨ss, e1, e2, e3⟩ := h
  obtain ⟨A', c', hv, hc, hx⟩ := e2.own.sl
  injection hv with q1 q2 q3
  subst q1
  have hk2 : k < ss.length := by omega
  have h0 := flat_get (enc := eS) (sz := 1) (fun x => rfl) ss k 0 hk2 (by omega)
  obtain ⟨b, o, hA, hcell⟩ := hx _ _ h0
  rw [Nat.mul_one, Nat.add_zero] at hcell
  exact ⟨b, o, ss[k], hA, hcell, e3 k _ _ (List.getElem?_eq_getElem hk2) (List.getElem?_eq_getElem hk)⟩
theorem RowIs.at_ {N n j : Nat} {W : World} {s : SVt} {comp ws : List Int} (h : RowIs N W s n comp ws) (hj : j < n) : ∃ b o p, s.1 = some ⟨b, o, none⟩ ∧ W.cell? ⟨b, o + j * 2, none⟩ = some (.bool p.1) ∧ W.cell? ⟨b, o + j * 2 + 1, none⟩ = some (.slice p.2.1 p.2.2.1 p.2.2.2) ∧ PolIs W p comp j ws := by
  obtain ⟨ps, e1, e2, e3⟩ := h
  obtain ⟨A', c', hv, hc, hx⟩ := e2.sl
  unfold vS at hv
  injection hv with q1 q2 q3
  have hk2 : j < ps.length := by omega
  have h0 := flat_get (enc := eP) (sz := 2) (fun x => rfl) ps j 0 hk2 (by omega)
  have h1 := flat_get (enc := eP) (sz := 2) (fun x => rfl) ps j 1 hk2 (by omega)
  obtain ⟨b, o, hA, hcell⟩ := hx _ _ h0
  obtain ⟨b', o', hA', hcell'⟩ := hx _ _ h1
  rw [hA] at hA'
  injection hA' with hA'
  injection hA' with r1 r2
  subst r1 r2
  exact ⟨b, o, ps[j], by rw [q1]; exact hA, hcell, by rw [Nat.add_assoc]; exact hcell', e3 j _ (List.getElem?_eq_getElem hk2)⟩
theorem RowIs.len {N n : Nat} {W : World} {s : SVt} {comp ws : List Int} (h : RowIs N W s n comp ws) : s.2.1 = n := by
  obtain ⟨ps, e1, e2, e3⟩ := h
  obtain ⟨A', c', hv, _⟩ := e2.sl
  unfold vS at hv
  injection hv with q1 q2 q3
  omega
end Go.Proofs.YtlbihllmpbhhcaaDoor
