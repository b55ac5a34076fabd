/-
  hook's statements are awake; is a tensor small. No condition.
-/
import Derived.Test.YtegofhmkebbinaaSh11
namespace Go.Proofs.Ytegofhmkebbinaa
open Go.RowKit

theorem feq_two : (FloatKind.f64.format.order 4611686018427387904 4611686018427387904 == some .eq) = true := by decide +kernel
theorem res_awake : resC [(1, 4611686018427387904)] [1] [some 4607182418800017408] = (0, [1], [some 4611686018427387904]) := by decide +kernel

theorem step_len {h : Int × Nat} {cs r : List (Option Nat)} (e : stepC h cs = some r) : r.length = cs.length := by
  unfold stepC at e
  split at e
  · cases e; simp
  · split at e
    · cases e; simp
    · split at e
      · cases e; simp
      · split at e
        · cases e
        · cases e; rfl
theorem do_len {hs : List (Int × Nat)} : ∀ {cs r : List (Option Nat)}, doC hs cs = some r → r.length = cs.length := by
  induction hs with
  | nil => intro cs r e; cases e; rfl
  | cons h hs ih =>
    intro cs r e
    unfold doC at e
    cases hstep : stepC h cs with
    | none => rw [hstep] at e; cases e
    | some r1 => rw [hstep] at e; exact (ih e).trans (step_len hstep)
theorem res_len {hs : List (Int × Nat)} {S : List Int} {cs : List (Option Nat)} {E : Int} {S' : List Int} {C' : List (Option Nat)} (h : resC hs S cs = (E, S', C')) (_m : True := trivial) : C'.length ≤ cs.length := by
  unfold resC at h
  split at h
  · cases h; simp
  · split at h
    · cases h; simp
    · split at h
      · cases h; simp
      · rename_i r hr
        cases h
        exact Nat.le_of_eq (do_len hr)

theorem res_slen {hs : List (Int × Nat)} {S : List Int} {cs : List (Option Nat)} {E : Int} {S' : List Int} {C' : List (Option Nat)} (h : resC hs S cs = (E, S', C')) : S'.length ≤ S.length := by
  unfold resC at h
  split at h
  · cases h; simp
  · split at h
    · cases h; simp
    · split at h <;> cases h <;> simp

theorem small_any (a : Option Addr) (n c : Nat) (b : Option Addr) (m d : Nat) (w : World) :
    Calls Try.prog 8 #[.agg #[.slice a n c, .slice b m d]] w fun e w' => e = .returned (.bool (decide (n ≤ 40) && decide (m ≤ 8192))) ∧ Below w.heap.size w w' := by
  have hb : Below w.heap.size w (w.alloc (.cells #[.slice a n c, .slice b m d] 26)) := (Below.refl _ _).alloc (Nat.le_refl _) _
  have HB := hide hb
  clear hb
  by_cases h1 : n ≤ 40
  · by_cases h2 : m ≤ 8192
    · have e1 : decide ((n : Int) ≤ 40) = true := by simp; omega
      have e2 : decide ((m : Int) ≤ 8192) = true := by simp; omega
      have HE := hide (show (decide (n ≤ 40) && decide (m ≤ 8192)) = true by simp [h1, h2])
      clear h1 h2
      go_enter Try.func8, Try.ntmps8
      go_wp2_with fail
      go_ret
      exact ⟨by rw [HE.out]; rfl, HB.out⟩
    · have e1 : decide ((n : Int) ≤ 40) = true := by simp; omega
      have e2 : decide ((m : Int) ≤ 8192) = false := by simp; omega
      have HE := hide (show (decide (n ≤ 40) && decide (m ≤ 8192)) = false by simp [h1, h2])
      clear h1 h2
      go_enter Try.func8, Try.ntmps8
      go_wp2_with fail
      go_ret
      exact ⟨by rw [HE.out]; rfl, HB.out⟩
  · have e1 : decide ((n : Int) ≤ 40) = false := by simp; omega
    have HE := hide (show (decide (n ≤ 40) && decide (m ≤ 8192)) = false by simp [h1])
    clear h1
    go_enter Try.func8, Try.ntmps8
    go_wp2_with fail
    go_ret
    exact ⟨by rw [HE.out]; rfl, HB.out⟩

theorem heap_alloc_old {w : World} {g : Nat} (o : Obj) (h : g < w.heap.size) : (w.alloc o).heap[g]? = w.heap[g]? := ((Below.refl _ _).alloc (Nat.le_refl _) o).block g h
theorem lt_of_cell {w : World} {g k : Nat} {v : Value} (h : w.cell? ⟨g, k, none⟩ = some v) : g < w.heap.size := by
  rcases Nat.lt_or_ge g w.heap.size with h' | h'
  · exact h'
  · unfold World.cell? at h
    rw [Array.getElem?_eq_none h'] at h; cases h
theorem heap3 (w : World) (x y z : Obj) : (((w.alloc x).alloc y).alloc z).heap[w.heap.size]? = some x ∧ (((w.alloc x).alloc y).alloc z).heap[w.heap.size + 1]? = some y ∧ (((w.alloc x).alloc y).alloc z).heap[w.heap.size + 2]? = some z := by
  refine ⟨?_, ?_, ?_⟩
  · rw [heap_alloc_old _ (by simp; omega), heap_alloc_old _ (by simp), heap_alloc_new]
  · have e : w.heap.size + 1 = (w.alloc x).heap.size := by simp
    rw [heap_alloc_old _ (by simp), e, heap_alloc_new]
  · have e : w.heap.size + 2 = ((w.alloc x).alloc y).heap.size := by simp
    rw [e, heap_alloc_new]
theorem hks_one (w : World) (g : Nat) (h : Int × Nat) (hg : w.heap[g]? = some (.cells #[.int .i64 h.1, .float .f64 h.2] 48 (0, 0))) : Hks w (some ⟨g, 0, none⟩) 1 1 [h] := by
  obtain ⟨c0, c1, -, -⟩ := two_cells hg
  refine ⟨rfl, Nat.le_refl _, fun i hi => ?_⟩
  obtain rfl : i = 0 := by omega
  exact ⟨g, 0, rfl, c0, c1⟩
theorem isl_one (w : World) (g : Nat) (z : Int) (t : TypeId) (hg : w.heap[g]? = some (.cells #[.int .i64 z] t (0, 0))) : Isl w .i64 (some ⟨g, 0, none⟩) 1 1 [z] := by
  refine ⟨rfl, Nat.le_refl _, fun i hi => ?_⟩
  obtain rfl : i = 0 := by omega
  exact ⟨g, 0, rfl, cell_of_row w g 0 _ _ _ hg⟩
theorem sl_one (w : World) (g : Nat) (z : Nat) (t : TypeId) (hg : w.heap[g]? = some (.cells #[.float .f64 z] t (0, 0))) : Fl.Sl w (some ⟨g, 0, none⟩) 1 1 [z] := by
  refine ⟨rfl, Nat.le_refl _, .inr ⟨g, 0, rfl, fun i hi => ?_⟩⟩
  obtain rfl : i = 0 := by simpa using hi
  exact cell_of_row w g 0 _ _ _ hg

set_option maxHeartbeats 8000000 in
theorem awake_any (w : World) : Calls Try.prog 7 #[] w fun e w' => e = .returned (.bool true) ∧ Below w.heap.size w w' := by
  have hb : Below w.heap.size w (((w.alloc (.cells #[.int .i64 1, .float .f64 4611686018427387904] 48)).alloc (.cells #[.int .i64 1] 3)).alloc (.cells #[.float .f64 4607182418800017408] 43)) := (((Below.refl _ _).alloc (Nat.le_refl _) _).alloc (by simp) _).alloc (by simp; omega) _
  have hg := heap3 w (.cells #[.int .i64 1, .float .f64 4611686018427387904] 48) (.cells #[.int .i64 1] 3) (.cells #[.float .f64 4607182418800017408] 43)
  have HB := hide hb
  have HG := hide hg
  clear hb hg
  go_enter Try.func7, Try.ntmps7
  go_wp2_with fail
  generalize (((w.alloc (.cells #[.int .i64 1, .float .f64 4611686018427387904] 48)).alloc (.cells #[.int .i64 1] 3)).alloc (.cells #[.float .f64 4607182418800017408] 43)) = W at HB HG ⊢
  refine (do_any _ 1 1 [(1, 4611686018427387904)] _ 1 1 _ 1 1 [1] [4607182418800017408] W (hks_one _ _ (1, 4611686018427387904) HG.out.1) (isl_one _ _ _ _ HG.out.2.1) (sl_one _ _ _ _ HG.out.2.2) (by omega) (by omega) (by omega)).mono ?_
  rintro e w1 ⟨⟨a, n, c, b, m, d, D, he, ht, hD⟩, hb1⟩
  have hc1 : ([4607182418800017408] : List Nat).map Fl.can = [some 4607182418800017408] := by decide +kernel
  rw [hc1, res_awake] at he ht hD
  obtain rfl : D = [4611686018427387904] := by
    clear ht he
    match D, hD with
    | [x], hD =>
      simp only [List.map_cons, List.map_nil, List.cons.injEq, and_true] at hD
      rw [(Fl.of_can hD).1]
    | x :: y :: l, hD => simp at hD
  obtain rfl : m = 1 := ht.sl.1.symm
  obtain ⟨g, off, rfl, q0⟩ := ht.sl.at (k := 0) (by omega)
  subst he
  have hsz : w.heap.size ≤ w1.heap.size := by have := HB.out.size; have := hb1.size; omega
  have HB1 := hide (HB.out.trans (hb1.mono HB.out.size))
  have hgl : g < w1.heap.size := lt_of_cell q0
  have hgn : g ≠ w1.heap.size := by omega
  have fe := feq_two
  simp only [Nat.add_zero, List.getD_cons_zero] at q0
  clear ht hb1 hD hc1
  go_wp2_with fail
  refine (mays_any none 0 0 [] _ ⟨rfl, Nat.le_refl _, fun i hi => by omega⟩ (by omega)).mono ?_
  rintro e w2 ⟨rfl, hb2⟩
  have HB2 := hide (HB1.out.trans ((((Below.refl _ _).alloc (Nat.le_refl _) _).trans (hb2.mono (by simp))).mono HB1.out.size))
  have em : maysB [] = true := rfl
  have hb3 : Below w2.heap.size w2 (w2.alloc (.cells #[.int .i64 5, .float .f64 0] 48)) := (Below.refl _ _).alloc (Nat.le_refl _) _
  have C := hide (mays_any (some ⟨w2.heap.size, 0, none⟩) 1 1 [(5, 0)] _ (hks_one _ _ (5, 0) (heap_alloc_new w2 (.cells #[.int .i64 5, .float .f64 0] 48))) (by omega))
  have HB3 := hide (HB2.out.trans (hb3.mono HB2.out.size))
  rw [em]
  clear hb2 hb3 q0 hgl hgn
  go_wp2_with (go_at_call 12; refine C.out.mono ?_; rintro e w4 ⟨rfl, hb4⟩; have HB4 := hide (HB3.out.trans (hb4.mono HB3.out.size)); clear hb4)
  go_ret
  exact ⟨rfl, HB4.out⟩
end Go.Proofs.Ytegofhmkebbinaa
