/- unravelref01.Faces: the first half-edges of the faces. -/
import Derived.Test.YtcjaloddgilnpaaZFce
import Derived.Test.YtcjaloddgilnpaaZOwv
namespace Go.Proofs.Ytcjaloddgilnpaa
open Go.RowKit
set_option linter.unusedVariables false

/-- is h the least of its cycle? -/
def isH (f : Nat → Nat) (n h : Nat) : Bool := (List.range h).all fun j => !rB f n j h
def hdU (f : Nat → Nat) (n k : Nat) : List Nat := (List.range k).filter (isH f n)
theorem hdU_succ (f : Nat → Nat) (n k : Nat) : hdU f n (k + 1) = hdU f n k ++ (if isH f n k then [k] else []) := by
  unfold hdU; rw [List.range_succ, List.filter_append]; simp [List.filter_cons]
theorem hdU_len (f : Nat → Nat) (n k : Nat) : (hdU f n k).length ≤ k := by
  have := List.length_filter_le (isH f n) (List.range k); simpa [hdU] using this
/-- the first i elements are at least h -/
def lsB (h : Nat) (xs : List Int) (i : Nat) : Bool := (xs.take i).all fun x => decide ((h : Int) ≤ x)
theorem lsB_succ (h : Nat) (xs : List Int) (i : Nat) (hi : i < xs.length) : lsB h xs (i + 1) = (lsB h xs i && decide ((h : Int) ≤ xs[i])) := by
  unfold lsB; rw [List.take_add_one, List.getElem?_eq_getElem hi]; simp only [List.all_append, Option.toList_some, List.all_cons, List.all_nil, Bool.and_true]
theorem lsB_isH {n : Nat} {f : Nat → Nat} (hf : PermF n f) {h p : Nat} (hh : h < n) (hp : 0 < p) (he : itr f p h = h) : lsB h (cyL f h p) p = isH f n h := by
  rw [Bool.eq_iff_iff]
  unfold lsB isH
  have hl : (cyL f h p).take p = cyL f h p := List.take_of_length_le (by rw [cyL_length]; exact Nat.le_refl _)
  rw [hl, cyL]
  simp only [List.all_eq_true, List.mem_map, List.mem_range, decide_eq_true_eq, forall_exists_index, and_imp, Bool.not_eq_true', ]
  constructor
  · intro H j hj
    rw [Bool.eq_false_iff]
    intro hr
    have hr' := (rB_iff hf (by omega)).1 hr
    have hs := hf.symm (by omega) hr'
    obtain ⟨k, hk⟩ := hs
    -- k modulo p
    have key : ∀ k, itr f k h = itr f (k % p) h := by
      intro k
      induction k using Nat.strongRecOn with
      | ind k ih =>
        rcases Nat.lt_or_ge k p with q | q
        · rw [Nat.mod_eq_of_lt q]
        · have e1 : k = (k - p) + p := by omega
          have e2 := ih (k - p) (by omega)
          have e3 : itr f k h = itr f (k - p) h := by
            have e4 := itr_add f (k - p) p h
            rw [he, ← e1] at e4
            exact e4
          have e5 : k % p = (k - p) % p := Nat.mod_eq_sub_mod q
          rw [e3, e2, e5]
    have := H ((itr f (k % p) h : Nat) : Int) (k % p) (Nat.mod_lt _ hp) rfl
    rw [← key, hk] at this
    omega
  · intro H x i hi hx
    subst hx
    rcases Nat.lt_or_ge (itr f i h) h with q | q
    · exfalso
      have := H _ q
      have h2 : rB f n (itr f i h) h = true := (rB_iff hf (hf.itr_lt hh i)).2 (hf.symm hh ⟨i, rfl⟩)
      rw [h2] at this
      cases this
    · omega

/-- the slices fs begin with the numbers hs, none of them in block g -/
def Firsts (w : World) (g : Option Nat) (fs : List Value) (hs : List Nat) : Prop :=
  fs.length = hs.length ∧ ∀ (i : Nat) (f : Value) (h : Nat), fs[i]? = some f → hs[i]? = some h → ∃ b l c, f = .slice (some ⟨b, 0, none⟩) l c ∧ 0 < l ∧ w.cell? ⟨b, 0, none⟩ = some (.int .i64 (h : Nat)) ∧ g ≠ some b
theorem Firsts.nil (w : World) : Firsts w none [] [] := ⟨rfl, fun i f h hf => by simp at hf⟩
theorem Firsts.keep {w w' : World} {g g' : Option Nat} {fs : List Value} {hs : List Nat} (h : Firsts w g fs hs) (hk : ∀ k, k < w.heap.size → g ≠ some k → w'.heap[k]? = w.heap[k]?) (hg : ∀ k, k < w.heap.size → g ≠ some k → g' ≠ some k) : Firsts w' g' fs hs := by
  refine ⟨h.1, fun i f h' h1 h2 => ?_⟩
  obtain ⟨b, l, c, e, hl, hc, hne⟩ := h.2 i f h' h1 h2
  have hlt := block_lt_of_cell hc
  refine ⟨b, l, c, e, hl, ?_, hg b hlt hne⟩
  rw [← hc]; unfold World.cell?; simp only; rw [hk b hlt hne]
theorem Firsts.snoc {w : World} {g : Option Nat} {fs : List Value} {hs : List Nat} (h : Firsts w g fs hs) {b l c k : Nat} (hl : 0 < l) (hc : w.cell? ⟨b, 0, none⟩ = some (.int .i64 (k : Nat))) (hne : g ≠ some b) :
    Firsts w g (fs ++ [Value.slice (some ⟨b, 0, none⟩) l c]) (hs ++ [k]) := by
  refine ⟨by simp [h.1], fun i f h' h1 h2 => ?_⟩
  rcases Nat.lt_or_ge i fs.length with q | q
  · rw [List.getElem?_append_left q] at h1
    rw [List.getElem?_append_left (by rw [← h.1]; exact q)] at h2
    exact h.2 i f h' h1 h2
  · rw [List.getElem?_append_right q] at h1
    rw [List.getElem?_append_right (by rw [← h.1]; exact q)] at h2
    have hi : i - fs.length = 0 := by
      have := (List.getElem?_eq_some_iff.1 h1).1; simp at this; omega
    rw [hi] at h1
    rw [← h.1, hi] at h2
    simp at h1 h2
    subst h1 h2
    exact ⟨b, l, c, rfl, hl, hc, hne⟩
theorem OwnI.form1 {e : TypeId} {base : Nat} {w : World} {v : Value} {xs : List Int} (h : OwnI e base w v xs) (hx : 0 < xs.length) : ∃ g c, v = .slice (some ⟨g, 0, none⟩) xs.length c ∧ base ≤ g ∧ g < w.heap.size := by
  have hi := h.ints
  rcases h.2 with ⟨rfl, h0⟩ | ⟨g, cap, cur, rfl, hg, _⟩
  · omega
  · obtain ⟨b, o, hA, hl, _⟩ := hi.at_ hx
    injection hA with hA
    injection hA with hA
    subst hA
    exact ⟨g, cap, rfl, hg, hl⟩
theorem info_ints : (Try.prog.info? 22).map (fun i => (i.zero, i.size, i.bytes)) = some (some (Value.slice none 0 0), 1, 24) := by kernel_rfl

set_option maxHeartbeats 2000000 in
set_option maxRecDepth 20000 in
theorem faces_ref (vm : Value) (M : List Int) (w : World) (hM : Ints w vm M) (hn : M.length ≤ 256) (hp : PermF M.length (phi M)) (hm : ∀ h, h < M.length → mt M h < M.length) (h0 : ∀ h (hh : h < M.length), 0 ≤ M[h]) :
    Calls Try.prog 36 #[vm] w fun e w' => ∃ v fs, e = .returned v ∧ Vals w' v fs ∧ Firsts w' v.ownBlock fs (hdU (phi M) M.length M.length) ∧ Below w.heap.size w w' := by
  obtain ⟨i0, hi0, hz0, hz1, hz2⟩ := info_parts info_ints
  have HP := Lib.hid hp
  have H0 := Lib.hid h0
  have HM := Lib.hid hm
  clear h0 hp hm
  have hM0 := hM
  obtain ⟨A, c, rfl, hc, hx⟩ := hM
  clear hx
  go_enter Try.func36, Try.ntmps36
  go_wp2_with fail
  go_loopg [3, 4, 5, 6, 7] M.length (fun gk s3 s4 s5 s6 s7 wr => ∃ (h : Nat) (fs : List Value), h ≤ M.length ∧ gk = M.length - h ∧ s4 = .int .i64 (h : Int) ∧ OwnV 22 w.heap.size wr s3 fs ∧ Firsts wr s3.ownBlock fs (hdU (phi M) M.length h) ∧ Below w.heap.size w wr)
  case atStart => exact ⟨0, [], Nat.zero_le _, rfl, rfl, OwnV.nil _ _ _, Firsts.nil _, Below.refl _ _⟩
  case round =>
    obtain ⟨h, fs, hh, rfl, rfl, hown, hfi, hbel⟩ := hrel
    by_cases hlt : h < M.length
    · have z1 : (h : Int) < (M.length : Int) := by omega
      obtain ⟨A1, c1, rfl⟩ := hown.form
      go_wp2_with (go_at_call 61; refine (face_ref _ M h _ (hM0.below hbel) hn HP.out HM.out H0.out hlt).mono ?_; rintro e w1 ⟨v, p, rfl, hp0, hp1, hp2, hf1, hb1⟩; obtain ⟨g, c2, rfl, hg1, hg2⟩ := hf1.form1 (by rw [cyL_length]; exact hp0))
      have HLS := Lib.hid (lsB_isH HP.out hlt hp0 hp2)
      have HSU := Lib.hid (hdU_succ (phi M) M.length h)
      have hhd : fs.length ≤ h := by rw [hfi.1]; exact hdU_len _ _ _
      obtain ⟨xs, hxs⟩ : ∃ xs, xs = cyL (phi M) h p := ⟨_, rfl⟩
      have hlp : xs.length = p := by rw [hxs]; exact cyL_length _ _ _
      have hx0 : xs[0]? = some ((h : Nat) : Int) := by
        rw [hxs, cyL, List.getElem?_map, List.getElem?_range hp0]; rfl
      rw [← hxs] at hf1 HLS ⊢
      clear hxs
      subst hlp
      generalize isH (phi M) M.length h = B at *
      have hfi1 : Firsts w1 (Value.slice A1 fs.length c1).ownBlock fs (hdU (phi M) M.length h) := hfi.keep (fun k hk _ => hb1.block k hk) (fun _ _ hh => hh)
      have hown1 := hown.below hb1 (Nat.le_refl _)
      have hbel1 := hbel.trans (hb1.mono hbel.size)
      have hin := hf1.ints
      have hne : (Value.slice A1 fs.length c1).ownBlock ≠ some g := by
        intro e; have := hown.lt g e; omega
      have HNE := Lib.hid hne
      have HFI := Lib.hid hfi1
      clear hfi hown hbel hp2 hb1 hf1 hne hfi1
      go_loopg [6, 7] xs.length (fun gk s6 s7 wi => ∃ i : Nat, i ≤ xs.length ∧ gk = xs.length - i ∧ s7 = .int .i64 (i : Int) ∧ s6 = .bool (lsB h xs i) ∧ OwnV 22 w.heap.size wi (Value.slice A1 fs.length c1) fs ∧ Below w.heap.size w wi ∧ Ints wi (Value.slice (some ⟨g, 0, none⟩) xs.length c2) xs ∧ Hid (Firsts wi (Value.slice A1 fs.length c1).ownBlock fs (hdU (phi M) M.length h)))
      case atStart => exact ⟨0, Nat.zero_le _, rfl, rfl, rfl, hown1, hbel1, hin, HFI⟩
      case round =>
        clear hown1 hbel1 hin HFI hg2
        obtain ⟨i, hi, rfl, rfl, rfl, hown1, hbel1, hin, HFI⟩ := hrel
        by_cases hil : i < xs.length
        · have z2 : (i : Int) < (xs.length : Int) := by omega
          obtain ⟨b', o', hA, hbl', hcell⟩ := hin.at_ hil
          injection hA with hA
          injection hA with hA1 hA2
          subst hA1 hA2
          rw [Nat.zero_add] at hcell
          have HLN := Lib.hid (lsB_succ h xs i hil)
          generalize lsB h xs i = b1 at *
          generalize xs[i] = x at *
          cases b1
          · go_wp2_with fail
            go_roundg (xs.length - (i + 1))
            case measure => omega
            case rel => exact ⟨i + 1, by omega, rfl, by go_num, by rw [HLN.out]; rfl, hown1, hbel1, hin, HFI⟩
          · go_wp2_with fail
            go_roundg (xs.length - (i + 1))
            case measure => omega
            case rel => exact ⟨i + 1, by omega, rfl, by go_num, by rw [HLN.out]; simp, hown1, hbel1, hin, HFI⟩
        · have z2 : ¬ ((i : Int) < (xs.length : Int)) := by omega
          have hie : i = xs.length := by omega
          rw [hie, HLS.out]
          clear hie
          cases B
          · go_wp2_with fail
            go_roundg (M.length - (h + 1))
            case measure => omega
            case rel => exact ⟨h + 1, fs, by omega, rfl, by go_num, hown1, by rw [HSU.out]; simpa using HFI.out, hbel1⟩
          · go_wp2_with (at_builtin; refine wpList_appV rfl _ _ 26 rfl Try.underlying26 hi0 hz0 hz1 (by omega) rfl rfl (hown1.alloc _) rfl (Vals.one _ _ _) (by simp [Value.oneCell']) (by simp; omega) (Nat.le_trans hbel1.size (by simp)) ?_; intro v' w2 hown2 hb2 hk2 hv2)
            go_roundg (M.length - (h + 1))
            case measure => omega
            case rel =>
              refine ⟨h + 1, _, by omega, rfl, by go_num, hown2, ?_, (hbel1.alloc hbel1.size _).trans hb2⟩
              have hc0 : wr.cell? ⟨g, 0, none⟩ = some (.int .i64 ((h : Nat) : Int)) := by
                obtain ⟨b', o', hA, hbl', hcell⟩ := hin.at_ hp0
                injection hA with hA
                injection hA with hA1 hA2
                subst hA1 hA2
                rw [List.getElem?_eq_getElem hp0] at hx0
                injection hx0 with hx0
                rw [hx0] at hcell; exact hcell
              have h1 := HFI.out.snoc (c := c2) hp0 hc0 HNE.out
              have h2 := h1.keep (w' := wr.alloc (.cells #[Value.slice (some ⟨g, 0, none⟩) xs.length c2] 22)) (fun k hk _ => Below.heap_alloc _ _ k hk) (fun _ _ hh => hh)
              rw [HSU.out, if_pos trivial]
              refine h2.keep hk2 ?_
              intro k hk hne e
              rcases hv2 with hv2 | hv2
              · rw [hv2] at e; exact hne e
              · rw [hv2] at e; injection e with e; omega
    · have z1 : ¬ ((h : Int) < (M.length : Int)) := by omega
      have hkn : h = M.length := by omega
      have HF := Lib.hid (show Firsts wr u3.ownBlock fs (hdU (phi M) M.length M.length) by rw [hkn] at hfi; exact hfi)
      clear hfi hkn
      go_wp2_with fail
      go_ret
      exact ⟨_, rfl, fs, hown.vals, HF.out, hbel⟩
end Go.Proofs.Ytcjaloddgilnpaa
