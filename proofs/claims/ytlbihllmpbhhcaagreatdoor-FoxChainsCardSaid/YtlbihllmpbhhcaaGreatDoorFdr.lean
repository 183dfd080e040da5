/- fox.Derivative's closure: terms of one generator are appended. -/
import Derived.Test.YtlbihllmpbhhcaaGreatDoorFsu
namespace Go.Proofs.YtlbihllmpbhhcaaGreatDoor
open Go.RowKit
set_option linter.unusedVariables false

theorem OwnF.keep {base : Nat} {w w' : World} {v : Value} {l : List (Int × Int)} (h : OwnF base w v l) (hk : ∀ k, v.ownBlock = some k → w'.heap[k]? = w.heap[k]?) : OwnF base w' v l := by
  refine ⟨h.1, ?_⟩
  rcases h.2 with h0 | ⟨b, cap, cur, rfl, hg, hh, r⟩
  · exact .inl h0
  · exact .inr ⟨b, cap, cur, rfl, hg, (hk b rfl).trans hh, r⟩
theorem OwnF.far {base : Nat} {w : World} {v : Value} {l : List (Int × Int)} {p : Addr} (h : OwnF base w v l) (hg : v.ownBlock ≠ some p.block) (u : Value) : OwnF base (w.setCell p u) v l := h.keep fun k hk => Below.heap_setCell w p u k (fun e => hg (by rw [← e]; exact hk))
theorem OwnF.apart {base g : Nat} {w : World} {v : Value} {l : List (Int × Int)} {t : TypeId} {cs : List Value} (h : OwnF base w v l) (hg : Arr w g t cs) (hne : 47 ≠ t) : v.ownBlock ≠ some g := by
  intro hk
  rcases h.2 with ⟨rfl, h0⟩ | ⟨k, cap, cur, rfl, _, hh, r⟩
  · simp [Value.ownBlock] at hk
  · simp [Value.ownBlock] at hk
    subst hk
    unfold Arr at hg
    rw [hg] at hh
    injection hh with hh
    injection hh with _ h2 _
    exact hne h2.symm
theorem OwnF.form3 {base : Nat} {w : World} {v : Value} {l : List (Int × Int)} (h : OwnF base w v l) : ∃ A n c, v = .slice A n c := by
  obtain ⟨A, c, e⟩ := h.form
  exact ⟨A, _, c, e⟩
theorem OwnF.nil (base : Nat) (w : World) : OwnF base w (.slice none 0 0) [] := ⟨rfl, .inl ⟨rfl, rfl⟩⟩
theorem info_fterm : (Tryz.prog.info? 47).map (fun i => (i.zero, i.size, i.bytes)) = some (some (.agg #[.int .i64 0, .int .i64 0]), 2, 16) := by kernel_rfl
theorem wpList_appF {w : World} {base : Nat} {v : Value} {l : List (Int × Int)} {ops : Array Oper} {rest : List Oper} {o : Oper} {a : Act} {Q : Exit → Act → World → Prop} (hgd : o.guard = none) (s x : Operand) (ho : o.op = .call { callee := .builtin .append, args := #[s, x], argTypes := #[44, 44] })
    (hv : a.eval s = v) (h : OwnF base w v l) {b : Nat} {m : Int × Int} (hx : a.eval x = .slice (some ⟨b, 0, none⟩) 1 1) (hu : Arr w b 47 (fc m)) (hlen : l.length ≤ 100000000) (hbase : base ≤ w.heap.size)
    (hK : ∀ v' w', OwnF base w' v' (l ++ [m]) → Gr base w w' v.ownBlock → wpList Tryz.prog ops Q rest (a.put o.dst v') w') : wpList Tryz.prog ops Q (o :: rest) a w := by
  obtain ⟨i, hi, hz, hs, hby⟩ := info_parts info_fterm
  have hcells : ∀ j q, (fc m)[j]? = some q → w.cell? ((⟨b, 0, none⟩ : Addr).add j) = some q := by
    intro j q hq
    have : (⟨b, 0, none⟩ : Addr).add j = ⟨b, j, none⟩ := by unfold Addr.add; split <;> simp_all
    rw [this, hu.cell]; exact hq
  obtain ⟨v', w', hrun, h2, h3, _, h5⟩ := run_append_own_at (P := Tryz.prog) w base 44 o.type 47 i _ 2 16 Tryz.underlying44 hi hz hs hby rfl (by decide) v l.length (l.flatMap fc) h ⟨b, 0, none⟩ 1 1 (fc m) rfl hcells
    (by intro q hq; simp [fc] at hq; rcases hq with rfl | rfl <;> rfl) (by unfold maxLen; omega) (by omega) hbase
  refine wpList_plain hgd fun _ hk => ?_
  unfold Oper.wp execOp
  simp only [ho, resolve, invoke, builtin, Sem.run_bind, Sem.run_pure, Result.andThen_ok, List.map_toArray, List.map_cons, List.map_nil, hv, hx, hrun]
  have hblk : ∀ k, v.ownBlock = some k → base ≤ k := fun k hk => (OwnF.lt h k hk).1
  refine hk _ _ (hK v' w' ?_ ⟨(Below.refl _ _).grown h3 hbase hblk, fun k hk hne => h3.block k hk (fun e => hne e.symm)⟩)
  unfold OwnF
  rw [List.length_append, List.flatMap_append]
  simpa using h2
/-- a term is appended if its generator is the one -/
def addR (R : List (Int × Int)) (g gen : Int) (t : Int × Int) : List (Int × Int) := R ++ if g = gen then [t] else []
/-- what the closure add has kept -/
structure AddK (base tmb : Nat) (s : Option Nat) (w w' : World) : Prop where
  below : Below base w w'
  keep : ∀ k, k < w.heap.size → k ≠ tmb → s ≠ some k → w'.heap[k]? = w.heap[k]?
set_option maxHeartbeats 2000000 in
set_option maxRecDepth 100000 in
theorem addD_any (g gen co ex : Int) (gb tmb base : Nat) (s : Value) (R : List (Int × Int)) (w : World) (qg : Arr w gb 3 [.int .i64 gen]) (qt : Arr w tmb 44 [s]) (hs : OwnF base w s R) (hR : R.length ≤ 10000000) (hbt : base ≤ tmb) (hbs : base ≤ w.heap.size) :
    Calls Tryz.prog 19 #[.int .i64 g, .agg #[.int .i64 co, .int .i64 ex], .pointer (some ⟨gb, 0, none⟩), .pointer (some ⟨tmb, 0, none⟩)] w fun e w' => e = .returned (.tuple #[]) ∧ ∃ s', OwnF base w' s' (addR R g gen (ex, co)) ∧ Arr w' tmb 44 [s'] ∧ AddK base tmb s.ownBlock w w' := by
  have hB0 : Below w.heap.size w (w.alloc (.cells #[.int .i64 co, .int .i64 ex] 47)) := (Below.refl _ _).alloc (Nat.le_refl _) _
  have hW : Arr (w.alloc (.cells #[.int .i64 co, .int .i64 ex] 47)) w.heap.size 47 (fc (ex, co)) ∧ (w.alloc (.cells #[.int .i64 co, .int .i64 ex] 47)).heap.size = w.heap.size + 1 := ⟨Arr.new _ _ [_, _], by simp⟩
  by_cases e : g = gen
  · have z1 : (g == gen) = true := by simp [e]
    rw [show addR R g gen (ex, co) = R ++ [(ex, co)] by unfold addR; rw [if_pos e]]
    clear e
    go_enter Tryz.func19, Tryz.ntmps19
    go_upto_region 1 with fail
    generalize (w.alloc (.cells #[.int .i64 co, .int .i64 ex] 47)) = w3 at *
    obtain ⟨qb3, hs3⟩ := hW
    have qg3 := qg.below hB0 qg.lt
    have qt3 := qt.below hB0 qt.lt
    have O3 := hs.below hB0
    have y0 : w3.cell? ⟨w.heap.size, 0, none⟩ = some (.int .i64 co) := qb3.cell 0
    have y1 : w3.cell? ⟨w.heap.size, 1, none⟩ = some (.int .i64 ex) := qb3.cell 1
    have y2 := qg3.cell 0
    have y3 := qt3.cell 0
    have O4 := Lib.hid (O3.below ((Below.refl _ _).alloc (Nat.le_refl _) (.cells #[.int .i64 co, .int .i64 ex] 47)))
    have U4 := Lib.hid (show Arr (w3.alloc (.cells #[.int .i64 co, .int .i64 ex] 47)) w3.heap.size 47 (fc (ex, co)) from Arr.new _ _ [_, _])
    have HT4 := Lib.hid (qt3.alloc (.cells #[.int .i64 co, .int .i64 ex] 47))
    have HAP := Lib.hid (O3.apart qt3 (by decide))
    have HB3 := Lib.hid hB0
    have hbs3 : base ≤ w3.heap.size := by omega
    have HS3 := Lib.hid hs3
    clear hs qg qt O3 qg3 qt3 qb3 hB0 hs3
    go_wp2_with (at_builtin; go_loud (refine wpList_appF (m := (ex, co)) rfl _ _ rfl rfl O4.out rfl U4.out (by omega) (Nat.le_trans hbs3 (by simp)) ?_; intro s' w5 hown hg; have q5 := (hg.keep tmb HT4.out.lt HAP.out).trans HT4.out; have x0 := Arr.cell q5 0; have x1 := Arr.frozen q5 0; have HO := Lib.hid hown; have HG := Lib.hid hg; have HQ := Lib.hid q5; obtain ⟨A5, n5, c5, rfl⟩ := hown.form3; clear hown hg q5))
    go_end0
    refine ⟨rfl, _, HO.out.far (p := ⟨tmb, 0, none⟩) (HO.out.apart (show Arr _ tmb 44 _ from HQ.out) (by decide)) _, Arr.set (show Arr _ tmb 44 _ from HQ.out) 0 _, ?_, fun k hk h1 h2 => ?_⟩
    · exact (((HB3.out.mono hbs).alloc hbs3 _).trans HG.out.below).setCell (p := ⟨tmb, 0, none⟩) hbt _
    · rw [Below.heap_setCell _ ⟨tmb, 0, none⟩ _ k h1, HG.out.keep k (by have := HS3.out; simp; omega) h2, Below.heap_alloc _ _ _ (by have := HS3.out; omega), HB3.out.block k hk]
  · have z1 : (g == gen) = false := by simp [e]
    rw [show addR R g gen (ex, co) = R by unfold addR; rw [if_neg e, List.append_nil]]
    clear e
    go_enter Tryz.func19, Tryz.ntmps19
    go_upto_region 1 with fail
    generalize (w.alloc (.cells #[.int .i64 co, .int .i64 ex] 47)) = w3 at *
    obtain ⟨qb3, hs3⟩ := hW
    have qg3 := qg.below hB0 qg.lt
    have y2 := qg3.cell 0
    have AA := Lib.hid (show ∃ s', OwnF base w3 s' R ∧ Arr w3 tmb 44 [s'] ∧ AddK base tmb s.ownBlock w w3 from ⟨s, hs.below hB0, qt.below hB0 qt.lt, hB0.mono hbs, fun k hk _ _ => hB0.block k hk⟩)
    clear hs qt hB0 qb3 hs3
    go_wp2_with fail
    go_end0
    exact ⟨rfl, AA.out⟩
end Go.Proofs.YtlbihllmpbhhcaaGreatDoor
