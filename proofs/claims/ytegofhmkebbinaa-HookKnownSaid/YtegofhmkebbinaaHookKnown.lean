/-
  HookKnown: hooks by hand: clips at noughts, infinities; what may not be. No condition.
-/
import Derived.Test.YtegofhmkebbinaaSh12
import Derived.Test.YtegofhmkebbinaaHookScales
import Derived.Deep.RegionHeld3
import Derived.Deep.DeepCutAuto
namespace Go.Proofs.Ytegofhmkebbinaa.HookKnown
open Go.RowKit
attribute [local go_sem] run_store_float Fl.run_neg

theorem inf_any (w : World) : Calls Try.prog 18 #[.int .i64 1] w fun e w' => e = .returned (.float .f64 9218868437227405312) ∧ w = w' := by
  have hb := frombits_run
  go_enter Try.func18, Try.ntmps18
  go_wp2_with fail
  go_ret
  exact ⟨rfl, rfl⟩
theorem copysign_any (w : World) : Calls Try.prog 17 #[.float .f64 0, .float .f64 13830554455654793216] w fun e w' => e = .returned (.float .f64 9223372036854775808) ∧ w = w' := by
  have hb := frombits_run
  have hc := bits_run
  go_enter Try.func17, Try.ntmps17
  go_wp2_with fail
  go_ret
  exact ⟨by kernel_rfl, rfl⟩
theorem nan_any (w : World) : Calls Try.prog 19 #[] w fun e w' => e = .returned (.float .f64 9221120237041090561) ∧ w = w' := by
  have hb := frombits_run
  go_enter Try.func19, Try.ntmps19
  go_wp2_with fail
  go_ret
  exact ⟨rfl, rfl⟩
theorem of_any (p : Option Addr) (n c : Nat) (w : World) : Calls Try.prog 16 #[.slice p n c] w fun e w' => ∃ a, e = .returned (.agg #[.slice a 1 1, .slice p n c]) ∧ Isl w' .i64 a 1 1 [(n : Int)] ∧ Below w.heap.size w w' := by
  go_enter Try.func16, Try.ntmps16
  go_wp2_with fail
  (try simp only [Exit.inBlock, Exit.then])
  have h0 : ((w.alloc (.cells #[.slice (some ⟨w.heap.size + 1, 0, none⟩) 1 1, .slice p n c] 26)).alloc (.cells #[.int .i64 n] 3)).heap[w.heap.size]? = some (.cells #[.slice (some ⟨w.heap.size + 1, 0, none⟩) 1 1, .slice p n c] 26 (0, 0)) := by
    rw [heap_alloc_old _ (by simp), heap_alloc_new]
  have h1 : ((w.alloc (.cells #[.slice (some ⟨w.heap.size + 1, 0, none⟩) 1 1, .slice p n c] 26)).alloc (.cells #[.int .i64 n] 3)).heap[w.heap.size + 1]? = some (.cells #[.int .i64 n] 3 (0, 0)) := by
    have := heap_alloc_new (w.alloc (.cells #[.slice (some ⟨w.heap.size + 1, 0, none⟩) 1 1, .slice p n c] 26)) (.cells #[.int .i64 n] 3)
    simpa using this
  obtain ⟨c0, c1, -, -⟩ := two_cells h0
  exact bodyPost_ret (v := .agg #[.slice (some ⟨w.heap.size + 1, 0, none⟩) 1 1, .slice p n c]) (by simp [results, Try.results16, go_sem]) rfl ⟨_, rfl, isl_one _ _ _ _ h1, ((Below.refl _ _).alloc (Nat.le_refl _) _).alloc (by simp) _⟩

theorem cell_at {w : World} {g k : Nat} {cur : Array Value} {t : TypeId} {v : Value} (hg : w.heap[g]? = some (.cells cur t (0, 0))) (h : cur.toList[k]? = some v) : w.cell? ⟨g, k, none⟩ = some v := by
  unfold World.cell?
  simp only [hg]
  simpa using h
theorem hks_lit {w : World} {g n : Nat} {cur : Array Value} {t : TypeId} (hs : List (Int × Nat)) (hg : w.heap[g]? = some (.cells cur t (0, 0))) (hc : cur.toList = HookScales.flat hs) (hl : hs.length = n) : Hks w (some ⟨g, 0, none⟩) n n hs := by
  refine ⟨hl, Nat.le_refl _, fun i hi => ?_⟩
  obtain ⟨f0, f1⟩ := HookScales.flat_at hs i (by omega)
  exact ⟨g, 0, rfl, by rw [Nat.zero_add]; exact cell_at hg (by rw [hc]; exact f0), by rw [Nat.zero_add]; exact cell_at hg (by rw [hc]; exact f1)⟩
theorem sl_lit {w : World} {g n : Nat} {cur : Array Value} {t : TypeId} (xs : List Nat) (hg : w.heap[g]? = some (.cells cur t (0, 0))) (hc : cur.toList = fvs xs) (hl : xs.length = n) : Fl.Sl w (some ⟨g, 0, none⟩) n n xs := by
  refine ⟨hl, Nat.le_refl _, .inr ⟨g, 0, rfl, fun i hi => ?_⟩⟩
  rw [Nat.zero_add]
  exact cell_at hg (by rw [hc]; simp [fvs, List.getD, hi])
theorem two_new (w : World) (x y : Obj) : Below w.heap.size w ((w.alloc x).alloc y) ∧ ((w.alloc x).alloc y).heap[w.heap.size]? = some x ∧ ((w.alloc x).alloc y).heap[w.heap.size + 1]? = some y := by
  refine ⟨((Below.refl _ _).alloc (Nat.le_refl _) _).alloc (by simp) _, ?_, ?_⟩
  · rw [heap_alloc_old _ (by simp), heap_alloc_new]
  · have e : w.heap.size + 1 = (w.alloc x).heap.size := by simp
    rw [e, heap_alloc_new]

theorem make1 (w : World) : (Instr.makeSlice 22 (.int .i64 1) (.int .i64 1)).run Try.prog w = .ok (.slice (some ⟨w.heap.size, 0, none⟩) 1 1) (w.alloc (.cells #[.int .i64 0, .float .f64 0] 48)) := by kernel_rfl
theorem make5 (w : World) : (Instr.makeSlice 22 (.int .i64 5) (.int .i64 5)).run Try.prog w = .ok (.slice (some ⟨w.heap.size, 0, none⟩) 5 5) (w.alloc (.cells #[.int .i64 0, .float .f64 0, .int .i64 0, .float .f64 0, .int .i64 0, .float .f64 0, .int .i64 0, .float .f64 0, .int .i64 0, .float .f64 0] 48)) := by kernel_rfl

theorem bcell {W w1 : World} (hb : Below W.heap.size W w1) : (∀ b o, b < W.heap.size → w1.cell? ⟨b, o, none⟩ = W.cell? ⟨b, o, none⟩) ∧ (∀ b o, b < W.heap.size → w1.frozen? ⟨b, o, none⟩ = W.frozen? ⟨b, o, none⟩) :=
  ⟨fun b o h => hb.cell (p := ⟨b, o, none⟩) h, fun b o h => hb.frozen (p := ⟨b, o, none⟩) h⟩
theorem hks1 {w : World} {g : Nat} {d : Int} {x : Nat} (h0 : w.cell? ⟨g, 0, none⟩ = some (.int .i64 d)) (h1 : w.cell? ⟨g, 1, none⟩ = some (.float .f64 x)) : Hks w (some ⟨g, 0, none⟩) 1 1 [(d, x)] := by
  refine ⟨rfl, Nat.le_refl _, fun i hi => ?_⟩
  obtain rfl : i = 0 := by omega
  exact ⟨g, 0, rfl, h0, h1⟩
theorem sl1 {w : World} {g : Nat} {x : Nat} (h0 : w.cell? ⟨g, 0, none⟩ = some (.float .f64 x)) : Fl.Sl w (some ⟨g, 0, none⟩) 1 1 [x] := by
  refine ⟨rfl, Nat.le_refl _, .inr ⟨g, 0, rfl, fun i hi => ?_⟩⟩
  obtain rfl : i = 0 := by simpa using hi
  exact h0
theorem size_alloc (w : World) (o : Obj) : (w.alloc o).heap.size = w.heap.size + 1 := by simp
theorem seven_new (w : World) (a b c d e f g : Obj) (X : World) (hX : X = ((((((w.alloc a).alloc b).alloc c).alloc d).alloc e).alloc f).alloc g) : Below w.heap.size w X ∧ X.heap[w.heap.size]? = some a ∧ X.heap[w.heap.size + 1]? = some b ∧ X.heap[w.heap.size + 1 + 1]? = some c ∧ X.heap[w.heap.size + 1 + 1 + 1]? = some d ∧ X.heap[w.heap.size + 1 + 1 + 1 + 1]? = some e ∧ X.heap[w.heap.size + 1 + 1 + 1 + 1 + 1]? = some f ∧ X.heap[w.heap.size + 1 + 1 + 1 + 1 + 1 + 1]? = some g := by
  subst hX
  refine ⟨?_, ?_, ?_, ?_, ?_, ?_, ?_, ?_⟩
  · exact (((((((Below.refl _ _).alloc (Nat.le_refl _) _).alloc (by simp) _).alloc (by simp; omega) _).alloc (by simp; omega) _).alloc (by simp; omega) _).alloc (by simp; omega) _).alloc (by simp; omega) _
  all_goals (
    repeat (rw [heap_alloc_old _ (by simp only [size_alloc]; omega)])
    first
      | exact heap_alloc_new w a
      | (rw [← size_alloc w a]; exact heap_alloc_new _ _)
      | (rw [← size_alloc w a, ← size_alloc _ b]; exact heap_alloc_new _ _)
      | (rw [← size_alloc w a, ← size_alloc _ b, ← size_alloc _ c]; exact heap_alloc_new _ _)
      | (rw [← size_alloc w a, ← size_alloc _ b, ← size_alloc _ c, ← size_alloc _ d]; exact heap_alloc_new _ _)
      | (rw [← size_alloc w a, ← size_alloc _ b, ← size_alloc _ c, ← size_alloc _ d, ← size_alloc _ e]; exact heap_alloc_new _ _)
      | (rw [← size_alloc w a, ← size_alloc _ b, ← size_alloc _ c, ← size_alloc _ d, ← size_alloc _ e, ← size_alloc _ f]; exact heap_alloc_new _ _))
theorem bad0 : maysB [(2, 13830554455654793216)] = false := by decide +kernel
theorem bad1 : maysB [(2, 9221120237041090561)] = false := by decide +kernel
theorem bad2 : maysB [(3, 4607182418800017408)] = false := by decide +kernel
theorem bad3 : maysB [(4, 9221120237041090561)] = false := by decide +kernel
theorem bad4 : maysB [(0, 0)] = false := by decide +kernel
theorem bad5 : maysB [(0, 0), (0, 0), (0, 0), (0, 0), (0, 0)] = false := by decide +kernel
theorem four_may : maysB [(1, 9221120237041090561), (1, 18442240474082181120), (2, 9218868437227405312), (3, 9223372036854775808)] = true := by decide +kernel
theorem res10 : resC [] [] (([] : List Nat).map Fl.can) = (2, [], []) := by decide +kernel
theorem res9 : resC [(0, 0)] [1] ([4607182418800017408].map Fl.can) = (8, [], []) := by decide +kernel

/-- A tensor that lies in a block: its shape, its numbers. -/
def Kept (w : World) (g : Nat) (S : List Int) (C : List (Option Nat)) : Prop :=
  ∃ a n c b m d D, w.heap[g]? = some (.cells #[.slice a n c, .slice b m d] 26 (0, 0)) ∧ Isl w .i64 a n c S ∧ Fl.Sl w b m d D ∧ D.map Fl.can = C
theorem Kept.later {w w' : World} {g : Nat} {S : List Int} {C : List (Option Nat)} (h : Kept w g S C) (hb : Below w.heap.size w w') : Kept w' g S C := by
  obtain ⟨a, n, c, b, m, d, D, hg, hS, hD, hC⟩ := h
  exact ⟨a, n, c, b, m, d, D, (hb.block g (lt_of_row hg)).trans hg, hS.later hb, hD.later hb, hC⟩

theorem res5 : resC [(2, 4611686018427387904)] [7] ([13840687554816376832, 13835058055282163712, 4607182418800017408, 4611686018427387904, 4617315517961601024, 9218868437227405312, 9221120237041090561].map Fl.can) = (0, [7], [some 13835058055282163712, some 13835058055282163712, some 4607182418800017408, some 4611686018427387904, some 4611686018427387904, some 4611686018427387904, none]) := by decide +kernel
theorem res6 : resC [(2, 0)] [4] ([13840687554816376832, 9223372036854775808, 0, 4617315517961601024].map Fl.can) = (0, [4], [some 9223372036854775808, some 9223372036854775808, some 0, some 0]) := by decide +kernel
theorem res7 : resC [(3, 0), (4, 0)] [2] ([9221120237041090561, 9218868437227405312].map Fl.can) = (0, [2], [some 0, some 0]) := by decide +kernel
theorem res8 : resC [(4, 0), (3, 0)] [2] ([9221120237041090561, 9218868437227405312].map Fl.can) = (8, [], []) := by decide +kernel

theorem bel_alloc {W X : World} {o : Obj} (h : Below W.heap.size W X) : Below W.heap.size W (X.alloc o) := h.alloc h.size _
theorem bel_drew {W X : World} (h : Below W.heap.size W X) : Below W.heap.size W X.drew := h.drew
theorem of_lit (W X Y : World) (g n : Nat) (cur : Array Value) (xs : List Nat) (hX : Below W.heap.size W X) (hY : Below X.heap.size X Y) (hg : Y.heap[g]? = some (.cells cur 43 (0, 0))) (hc : cur.toList = fvs xs) (hl : xs.length = n) :
    Calls Try.prog 16 #[.slice (some ⟨g, 0, none⟩) n n] Y fun e w' => ∃ a, e = .returned (.agg #[.slice a 1 1, .slice (some ⟨g, 0, none⟩) n n]) ∧ Hid (Isl w' .i64 a 1 1 [(n : Int)] ∧ Fl.Sl w' (some ⟨g, 0, none⟩) n n xs) ∧ Below W.heap.size W w' := by
  refine (of_any _ n n Y).mono ?_
  rintro e w' ⟨a, rfl, hS, hb⟩
  exact ⟨a, rfl, hide ⟨hS, (sl_lit xs hg hc hl).later hb⟩, (hX.trans (hY.mono hX.size)).trans (hb.mono (Nat.le_trans hX.size hY.size))⟩
theorem of_drew (W X : World) (n : Nat) (cur : Array Value) (xs : List Nat) (hX : Below W.heap.size W X) (hc : cur.toList = fvs xs) (hl : xs.length = n) :
    Calls Try.prog 16 #[.slice (some ⟨X.heap.size, 0, none⟩) n n] (X.alloc (.cells cur 43)).drew fun e w' => ∃ a, e = .returned (.agg #[.slice a 1 1, .slice (some ⟨X.heap.size, 0, none⟩) n n]) ∧ Hid (Isl w' .i64 a 1 1 [(n : Int)] ∧ Fl.Sl w' (some ⟨X.heap.size, 0, none⟩) n n xs) ∧ Below W.heap.size W w' :=
  of_lit W X _ X.heap.size n cur xs hX (((Below.refl _ _).alloc (Nat.le_refl _) _).drew) (heap_alloc_new _ _) hc hl
theorem of_plain (W X : World) (n : Nat) (cur : Array Value) (xs : List Nat) (hX : Below W.heap.size W X) (hc : cur.toList = fvs xs) (hl : xs.length = n) :
    Calls Try.prog 16 #[.slice (some ⟨X.heap.size, 0, none⟩) n n] (X.alloc (.cells cur 43)) fun e w' => ∃ a, e = .returned (.agg #[.slice a 1 1, .slice (some ⟨X.heap.size, 0, none⟩) n n]) ∧ Hid (Isl w' .i64 a 1 1 [(n : Int)] ∧ Fl.Sl w' (some ⟨X.heap.size, 0, none⟩) n n xs) ∧ Below W.heap.size W w' :=
  of_lit W X _ X.heap.size n cur xs hX ((Below.refl _ _).alloc (Nat.le_refl _) _) (heap_alloc_new _ _) hc hl
theorem fv5 : #[Value.float FloatKind.f64 13835058055282163712, Value.float FloatKind.f64 13835058055282163712, Value.float FloatKind.f64 4607182418800017408, Value.float FloatKind.f64 4611686018427387904, Value.float FloatKind.f64 4611686018427387904, Value.float FloatKind.f64 4611686018427387904, Value.float FloatKind.f64 9221120237041090561].toList = fvs [13835058055282163712, 13835058055282163712, 4607182418800017408, 4611686018427387904, 4611686018427387904, 4611686018427387904, 9221120237041090561] := rfl
theorem ln5 : ([13835058055282163712, 13835058055282163712, 4607182418800017408, 4611686018427387904, 4611686018427387904, 4611686018427387904, 9221120237041090561] : List Nat).length = 7 := rfl
theorem fv6 : #[Value.float FloatKind.f64 9223372036854775808, Value.float FloatKind.f64 9223372036854775808, Value.float FloatKind.f64 0, Value.float FloatKind.f64 0].toList = fvs [9223372036854775808, 9223372036854775808, 0, 0] := rfl
theorem ln6 : ([9223372036854775808, 9223372036854775808, 0, 0] : List Nat).length = 4 := rfl
theorem fv7 : #[Value.float FloatKind.f64 0, Value.float FloatKind.f64 0].toList = fvs [0, 0] := rfl
theorem ln7 : ([0, 0] : List Nat).length = 2 := rfl
theorem small1 : 1 ≤ 1099511627776 := by decide
theorem small2 : 2 ≤ 1099511627776 := by decide
theorem small4 : 4 ≤ 1099511627776 := by decide
theorem small7 : 7 ≤ 1099511627776 := by decide
theorem same_lit (a : Option Addr) (n c : Nat) (b : Option Addr) (m d : Nat) (a' : Option Addr) (c' : Nat) (b' : Option Addr) (d' : Nat) (S : List Int) (D D' : List Nat) (W w : World) (hS : Isl W .i64 a n c S) (hD : Fl.Sl W b m d D) (hW : Below W.heap.size W w) (hD' : Isl w .i64 a' n c' S ∧ Fl.Sl w b' m d' D') (hn : n ≤ 1099511627776) (hm : m ≤ 1099511627776) (he : D.map Fl.can = D'.map Fl.can) :
    Calls Try.prog 11 #[.agg #[.slice a n c, .slice b m d], .agg #[.slice a' n c', .slice b' m d']] w fun e w' => e = .returned (.bool true) ∧ Below W.heap.size W w' := by
  refine (same_tensor a n c b m d a' c' b' d' S D D' w (hS.later hW) (hD.later hW) hD'.1 hD'.2 hn hm he).mono ?_
  rintro e w' ⟨rfl, hb⟩
  exact ⟨rfl, hW.trans (hb.mono hW.size)⟩
theorem mays_lit (a : Option Addr) (len cap : Nat) (hs : List (Int × Nat)) (W w : World) (h : Hks W a len cap hs) (hW : Below W.heap.size W w) (hl : len ≤ 1099511627776) (hm : maysB hs = true) :
    Calls Try.prog 12 #[.slice a len cap] w fun e w' => e = .returned (.bool true) ∧ Below W.heap.size W w' := by
  refine (mays_any a len cap hs w (h.later hW) hl).mono ?_
  rintro e w' ⟨rfl, hb⟩
  exact ⟨by rw [hm], hW.trans (hb.mono hW.size)⟩
theorem can5 : [some 13835058055282163712, some 13835058055282163712, some 4607182418800017408, some 4611686018427387904, some 4611686018427387904, some 4611686018427387904, none] = [13835058055282163712, 13835058055282163712, 4607182418800017408, 4611686018427387904, 4611686018427387904, 4611686018427387904, 9221120237041090561].map Fl.can := by decide +kernel
theorem can6 : [some 9223372036854775808, some 9223372036854775808, some 0, some 0] = [9223372036854775808, 9223372036854775808, 0, 0].map Fl.can := by decide +kernel
theorem can7 : [some 0, some 0] = [0, 0].map Fl.can := by decide +kernel
theorem map_len {α β : Type} {f : α → β} {l : List α} {l' : List β} {n k : Nat} (h : l.map f = l') (hn : l.length = n) (hk : l'.length = k) : n = k := by
  rw [← hn, ← hk, ← h, List.length_map]

theorem bset2 {B : Nat} {W X : World} {g : Nat} (h : Below B W X) (hg : B ≤ g) (v u : Value) : Below B W ((X.setCell ⟨g, 0, none⟩ v).setCell ⟨g, 1, none⟩ u) := (h.setCell hg v).setCell hg u
theorem bend {B C : Nat} {W Y Z : World} (h : Below C Y Z) (hB : B ≤ C) (hY : Below B W Y) : Below B W Z := hY.trans (h.mono hB)

set_option maxRecDepth 100000 in
set_option maxHeartbeats 16000000 in
theorem walk (w : World) : Calls Try.prog 6 #[] w fun e w' => e = .returned (.bool true) ∧ Below w.heap.size w w' := by
  go_enter Try.func6, Try.ntmps6
  go_wp2_with fail
  refine (awake_any w).mono ?_
  rintro e w1 ⟨rfl, hb1⟩
  have HB1 := hide hb1
  clear hb1
  go_wp2_with (first | (go_at_call 17; refine (copysign_any _).mono ?_; rintro e w' ⟨rfl, rfl⟩) | (go_at_call 18; refine (inf_any _).mono ?_; rintro e w' ⟨rfl, rfl⟩) | (go_at_call 19; refine (nan_any _).mono ?_; rintro e w' ⟨rfl, rfl⟩))
  -- region 5
  obtain ⟨hbA, hgH, hgF⟩ := two_new w1 (.cells #[.int .i64 2, .float .f64 4611686018427387904] 48) (.cells #[.float .f64 13840687554816376832, .float .f64 13835058055282163712, .float .f64 4607182418800017408, .float .f64 4611686018427387904, .float .f64 4617315517961601024, .float .f64 9218868437227405312, .float .f64 9221120237041090561] 43)
  generalize (w1.alloc (.cells #[.int .i64 2, .float .f64 4611686018427387904] 48)).alloc (.cells #[.float .f64 13840687554816376832, .float .f64 13835058055282163712, .float .f64 4607182418800017408, .float .f64 4611686018427387904, .float .f64 4617315517961601024, .float .f64 9218868437227405312, .float .f64 9221120237041090561] 43) = WA at hbA hgH hgF ⊢
  refine (of_any _ 7 7 WA).mono ?_
  rintro e WB ⟨a5, rfl, hS, hbB⟩
  have hK := (hks_lit [(2, 4611686018427387904)] hgH rfl rfl).later hbB
  have hF := (sl_lit [13840687554816376832, 13835058055282163712, 4607182418800017408, 4611686018427387904, 4617315517961601024, 9218868437227405312, 9221120237041090561] hgF rfl rfl).later hbB
  have HP := hide (And.intro hK (And.intro hF (And.intro hS (hbA.trans (hbB.mono hbA.size)))))
  clear hbA hgH hgF hbB hS hK hF
  go_wp2_with fail
  refine (do_any _ _ _ [(2, 4611686018427387904)] _ 1 1 _ 7 7 [7] [13840687554816376832, 13835058055282163712, 4607182418800017408, 4611686018427387904, 4617315517961601024, 9218868437227405312, 9221120237041090561] WB HP.out.1 HP.out.2.2.1 HP.out.2.1 (by decide) (by decide) (by decide)).mono ?_
  rintro e WC ⟨⟨a, n, c, b, m, d, D, he, ht, hD⟩, hbC⟩
  rw [res5] at he ht hD
  subst he
  have hall5 : Below w1.heap.size w1 (WC.alloc (.cells #[.slice a n c, .slice b m d] 26)) := (HP.out.2.2.2.trans (hbC.mono HP.out.2.2.2.size)).alloc (Nat.le_trans HP.out.2.2.2.size hbC.size) _
  have hk5 : Kept (WC.alloc (.cells #[.slice a n c, .slice b m d] 26)) WC.heap.size _ _ := ⟨a, n, c, b, m, d, D, heap_alloc_new _ _, ht.isl.later ((Below.refl _ _).alloc (Nat.le_refl _) _), ht.sl.later ((Below.refl _ _).alloc (Nat.le_refl _) _), hD⟩

  have HB5 := hide (HB1.out.trans (hall5.mono HB1.out.size))
  have K5 := hide hk5
  clear ht hD hbC HP hall5 hk5
  simp only
  go_upto_region 6 with fail
  generalize WC.alloc (.cells #[.slice a n c, .slice b m d] 26) = W5 at HB5 K5  ⊢
  generalize WC.heap.size = g5 at K5 ⊢
  clear WC WB WA
  go_wp2_with fail
  -- region 6
  obtain ⟨hbA, hgH, hgF⟩ := two_new W5 (.cells #[.int .i64 2, .float .f64 0] 48) (.cells #[.float .f64 13840687554816376832, .float .f64 9223372036854775808, .float .f64 0, .float .f64 4617315517961601024] 43)
  generalize (W5.alloc (.cells #[.int .i64 2, .float .f64 0] 48)).alloc (.cells #[.float .f64 13840687554816376832, .float .f64 9223372036854775808, .float .f64 0, .float .f64 4617315517961601024] 43) = WA at hbA hgH hgF ⊢
  refine (of_any _ 4 4 WA).mono ?_
  rintro e WB ⟨a6, rfl, hS, hbB⟩
  have hK := (hks_lit [(2, 0)] hgH rfl rfl).later hbB
  have hF := (sl_lit [13840687554816376832, 9223372036854775808, 0, 4617315517961601024] hgF rfl rfl).later hbB
  have HP := hide (And.intro hK (And.intro hF (And.intro hS (hbA.trans (hbB.mono hbA.size)))))
  clear hbA hgH hgF hbB hS hK hF
  go_wp2_with fail
  refine (do_any _ _ _ [(2, 0)] _ 1 1 _ 4 4 [4] [13840687554816376832, 9223372036854775808, 0, 4617315517961601024] WB HP.out.1 HP.out.2.2.1 HP.out.2.1 (by decide) (by decide) (by decide)).mono ?_
  rintro e WC ⟨⟨a, n, c, b, m, d, D, he, ht, hD⟩, hbC⟩
  rw [res6] at he ht hD
  subst he
  have hall6 : Below W5.heap.size W5 (WC.alloc (.cells #[.slice a n c, .slice b m d] 26)) := (HP.out.2.2.2.trans (hbC.mono HP.out.2.2.2.size)).alloc (Nat.le_trans HP.out.2.2.2.size hbC.size) _
  have hk6 : Kept (WC.alloc (.cells #[.slice a n c, .slice b m d] 26)) WC.heap.size _ _ := ⟨a, n, c, b, m, d, D, heap_alloc_new _ _, ht.isl.later ((Below.refl _ _).alloc (Nat.le_refl _) _), ht.sl.later ((Below.refl _ _).alloc (Nat.le_refl _) _), hD⟩
  have K5_6 := hide (K5.out.later hall6)
  have HB6 := hide (HB5.out.trans (hall6.mono HB5.out.size))
  have K6 := hide hk6
  clear ht hD hbC HP hall6 hk6
  simp only
  go_upto_region 7 with fail
  generalize WC.alloc (.cells #[.slice a n c, .slice b m d] 26) = W6 at HB6 K6 K5_6 ⊢
  generalize WC.heap.size = g6 at K6 ⊢
  clear WC WB WA
  go_wp2_with fail
  -- region 7
  obtain ⟨hbA, hgH, hgF⟩ := two_new W6 (.cells #[.int .i64 3, .float .f64 0, .int .i64 4, .float .f64 0] 48) (.cells #[.float .f64 9221120237041090561, .float .f64 9218868437227405312] 43)
  generalize (W6.alloc (.cells #[.int .i64 3, .float .f64 0, .int .i64 4, .float .f64 0] 48)).alloc (.cells #[.float .f64 9221120237041090561, .float .f64 9218868437227405312] 43) = WA at hbA hgH hgF ⊢
  refine (of_any _ 2 2 WA).mono ?_
  rintro e WB ⟨a7, rfl, hS, hbB⟩
  have hK := (hks_lit [(3, 0), (4, 0)] hgH rfl rfl).later hbB
  have hF := (sl_lit [9221120237041090561, 9218868437227405312] hgF rfl rfl).later hbB
  have HP := hide (And.intro hK (And.intro hF (And.intro hS (hbA.trans (hbB.mono hbA.size)))))
  clear hbA hgH hgF hbB hS hK hF
  go_wp2_with fail
  refine (do_any _ _ _ [(3, 0), (4, 0)] _ 1 1 _ 2 2 [2] [9221120237041090561, 9218868437227405312] WB HP.out.1 HP.out.2.2.1 HP.out.2.1 (by decide) (by decide) (by decide)).mono ?_
  rintro e WC ⟨⟨a, n, c, b, m, d, D, he, ht, hD⟩, hbC⟩
  rw [res7] at he ht hD
  subst he
  have hall7 : Below W6.heap.size W6 (WC.alloc (.cells #[.slice a n c, .slice b m d] 26)) := (HP.out.2.2.2.trans (hbC.mono HP.out.2.2.2.size)).alloc (Nat.le_trans HP.out.2.2.2.size hbC.size) _
  have hk7 : Kept (WC.alloc (.cells #[.slice a n c, .slice b m d] 26)) WC.heap.size _ _ := ⟨a, n, c, b, m, d, D, heap_alloc_new _ _, ht.isl.later ((Below.refl _ _).alloc (Nat.le_refl _) _), ht.sl.later ((Below.refl _ _).alloc (Nat.le_refl _) _), hD⟩
  have K5_7 := hide (K5_6.out.later hall7)
  have K6_7 := hide (K6.out.later hall7)
  have HB7 := hide (HB6.out.trans (hall7.mono HB6.out.size))
  have K7 := hide hk7
  clear ht hD hbC HP hall7 hk7
  simp only
  go_upto_region 8 with fail
  generalize WC.alloc (.cells #[.slice a n c, .slice b m d] 26) = W7 at HB7 K7 K5_7 K6_7 ⊢
  generalize WC.heap.size = g7 at K7 ⊢
  clear WC WB WA
  go_wp2_with fail
  -- region 8
  obtain ⟨hbA, hgH, hgF⟩ := two_new W7 (.cells #[.int .i64 4, .float .f64 0, .int .i64 3, .float .f64 0] 48) (.cells #[.float .f64 9221120237041090561, .float .f64 9218868437227405312] 43)
  generalize (W7.alloc (.cells #[.int .i64 4, .float .f64 0, .int .i64 3, .float .f64 0] 48)).alloc (.cells #[.float .f64 9221120237041090561, .float .f64 9218868437227405312] 43) = WA at hbA hgH hgF ⊢
  refine (of_any _ 2 2 WA).mono ?_
  rintro e WB ⟨a8, rfl, hS, hbB⟩
  have hK := (hks_lit [(4, 0), (3, 0)] hgH rfl rfl).later hbB
  have hF := (sl_lit [9221120237041090561, 9218868437227405312] hgF rfl rfl).later hbB
  have HP := hide (And.intro hK (And.intro hF (And.intro hS (hbA.trans (hbB.mono hbA.size)))))
  clear hbA hgH hgF hbB hS hK hF
  go_wp2_with fail
  refine (do_any _ _ _ [(4, 0), (3, 0)] _ 1 1 _ 2 2 [2] [9221120237041090561, 9218868437227405312] WB HP.out.1 HP.out.2.2.1 HP.out.2.1 (by decide) (by decide) (by decide)).mono ?_
  rintro e WC ⟨⟨a, n, c, b, m, d, D, he, ht, hD⟩, hbC⟩
  rw [res8] at he ht hD
  subst he
  have hall8 : Below W7.heap.size W7 (WC.alloc (.cells #[.slice a n c, .slice b m d] 26)) := (HP.out.2.2.2.trans (hbC.mono HP.out.2.2.2.size)).alloc (Nat.le_trans HP.out.2.2.2.size hbC.size) _
  have hk8 : Kept (WC.alloc (.cells #[.slice a n c, .slice b m d] 26)) WC.heap.size _ _ := ⟨a, n, c, b, m, d, D, heap_alloc_new _ _, ht.isl.later ((Below.refl _ _).alloc (Nat.le_refl _) _), ht.sl.later ((Below.refl _ _).alloc (Nat.le_refl _) _), hD⟩
  have K5_8 := hide (K5_7.out.later hall8)
  have K6_8 := hide (K6_7.out.later hall8)
  have K7_8 := hide (K7.out.later hall8)
  have HB8 := hide (HB7.out.trans (hall8.mono HB7.out.size))
  have K8 := hide hk8
  clear ht hD hbC HP hall8 hk8
  simp only
  go_upto_region 9 with fail
  generalize WC.alloc (.cells #[.slice a n c, .slice b m d] 26) = W8 at HB8 K8 K5_8 K6_8 K7_8 ⊢
  generalize WC.heap.size = g8 at K8 ⊢
  clear WC WB WA
  go_wp2_with fail
  go_cut [14] (fun s14 wx => s14 = .int .i64 8 ∧ Below W8.heap.size W8 wx)
  case first =>
    have hmk := make1
    go_region_with (first
      | (go_at_call 16; refine (of_any _ 1 1 _).mono ?_; rintro e wA ⟨a9, rfl, hS9, hbA⟩; have hsA := hbA.size; (try simp at hsA); have l0 : W8.heap.size < wA.heap.size := (by omega); have n0 : W8.heap.size ≠ wA.heap.size := (by omega); (try have l1 : W8.heap.size + 1 < wA.heap.size := (by omega)); (try have n1 : W8.heap.size + 1 ≠ wA.heap.size := (by omega)); (try have l2 : W8.heap.size + 1 + 1 < wA.heap.size := (by omega)); (try have n2 : W8.heap.size + 1 + 1 ≠ wA.heap.size := (by omega)); obtain ⟨hcA, hfA⟩ := bcell hbA; (try simp at hcA); (try simp at hfA); have HBA := hide hbA; have HS9 : Hid (Isl wA .i64 a9 1 1 [1]) := hS9; clear hbA hS9)
      | (go_at_call 9; (refine (do_any _ 1 1 [(0, 0)] _ 1 1 _ 1 1 [1] [4607182418800017408] _ ?_ ?_ ?_ (by decide) (by decide) (by decide)).mono ?_; (refine hks1 ?_ ?_); (go_simp); (go_simp); (first | with_reducible exact HS9.out | with_reducible exact HS9.out.later ((Below.refl _ _).alloc (Nat.le_refl _) _) | exact HS9.out.later (((Below.refl _ _).alloc (Nat.le_refl _) _).alloc (by simp) _)); (refine sl1 ?_); (go_simp); rintro e wB ⟨⟨a, n, c, b, m, d, D, he, ht, hD⟩, hbB⟩; rw [res9] at he; subst he; simp only; have hsB := hbB.size; (try simp at hsB); obtain ⟨hcB, hfB⟩ := bcell hbB; (try simp at hcB); (try simp at hfB); have HBB := hide hbB; clear ht hD hbB)))
    all_goals (
      go_wp2_with fail
      go_meet
      refine ⟨rfl, ?_⟩
      first | (with_reducible refine bset2 ?_ ?_ _ _; rotate_left 1; focus omega) | (with_reducible refine Below.alloc ?_ ?_ _; rotate_left 1; focus omega)
      refine bend HBB.out (by (try simp); (try omega)) ?_
      repeat' (first | with_reducible exact Below.refl _ _ | with_reducible refine Below.drew ?_ | (with_reducible refine Below.alloc ?_ ?_ _; rotate_left 1; focus ((try simp); (try omega); done)) | (with_reducible refine bend HBA.out ?_ ?_; focus ((try simp); (try omega); done))))
  case rest =>
    obtain ⟨rfl, hb9⟩ := hcut
    have K5_9 := hide (K5_8.out.later hb9)
    have K6_9 := hide (K6_8.out.later hb9)
    have K7_9 := hide (K7_8.out.later hb9)
    have HB9 := hide (HB8.out.trans (hb9.mono HB8.out.size))
    clear hb9
    go_wp2_with fail
    refine (do_any none 0 0 [] none 0 0 none 0 0 [] [] wc ⟨rfl, Nat.le_refl _, fun i hi => by omega⟩ ⟨rfl, Nat.le_refl _, fun i hi => by omega⟩ ⟨rfl, Nat.le_refl _, .inl rfl⟩ (by decide) (by decide) (by decide)).mono ?_
    rintro e WC ⟨⟨a, n, c, b, m, d, D, he, ht, hD⟩, hbC⟩
    rw [res10] at he
    subst he
    have hall : Below wc.heap.size wc (WC.alloc (.cells #[.slice a n c, .slice b m d] 26)) := hbC.alloc hbC.size _
    have K5_10 := hide (K5_9.out.later hall)
    have K6_10 := hide (K6_9.out.later hall)
    have K7_10 := hide (K7_9.out.later hall)
    have HB10 := hide (HB9.out.trans (hall.mono HB9.out.size))
    clear hall hbC ht hD
    simp only
    go_upto_region 11 with fail
    generalize WC.alloc (.cells #[.slice a n c, .slice b m d] 26) = W10 at HB10 K5_10 K6_10 K7_10 ⊢
    have hmk := make5
    go_upto_region 12 with fail
    obtain ⟨W11, hW11⟩ : ∃ W : World, W = ((((((W10.alloc (.cells #[.int .i64 2, .float .f64 13830554455654793216] 48)).alloc (.cells #[.int .i64 2, .float .f64 9221120237041090561] 48)).alloc (.cells #[.int .i64 3, .float .f64 4607182418800017408] 48)).alloc (.cells #[.int .i64 4, .float .f64 9221120237041090561] 48)).alloc (.cells #[.int .i64 0, .float .f64 0] 48)).alloc (.cells #[.int .i64 0, .float .f64 0, .int .i64 0, .float .f64 0, .int .i64 0, .float .f64 0, .int .i64 0, .float .f64 0, .int .i64 0, .float .f64 0] 48)).alloc (.cells #[.slice (some ⟨W10.heap.size, 0, none⟩) 1 1, .slice (some ⟨W10.heap.size + 1, 0, none⟩) 1 1, .slice (some ⟨W10.heap.size + 1 + 1, 0, none⟩) 1 1, .slice (some ⟨W10.heap.size + 1 + 1 + 1, 0, none⟩) 1 1, .slice (some ⟨W10.heap.size + 1 + 1 + 1 + 1, 0, none⟩) 1 1, .slice (some ⟨W10.heap.size + 1 + 1 + 1 + 1 + 1, 0, none⟩) 5 5] 22) := ⟨_, rfl⟩
    rw [← hW11]
    obtain ⟨hb11, k0, k1, k2, k3, k4, k5, k6⟩ := seven_new W10 _ _ _ _ _ _ _ W11 hW11
    have HBD := hide (And.intro (hks_lit [(2, 13830554455654793216)] k0 rfl rfl) (And.intro (hks_lit [(2, 9221120237041090561)] k1 rfl rfl) (And.intro (hks_lit [(3, 4607182418800017408)] k2 rfl rfl) (And.intro (hks_lit [(4, 9221120237041090561)] k3 rfl rfl) (And.intro (hks_lit [(0, 0)] k4 rfl rfl) (hks_lit [(0, 0), (0, 0), (0, 0), (0, 0), (0, 0)] k5 rfl rfl))))))
    have HG := hide (And.intro (cell_at (k := 0) k6 rfl) (And.intro (cell_at (k := 1) k6 rfl) (And.intro (cell_at (k := 2) k6 rfl) (And.intro (cell_at (k := 3) k6 rfl) (And.intro (cell_at (k := 4) k6 rfl) (cell_at (k := 5) k6 rfl))))))
    have K5_11 := hide (K5_10.out.later hb11)
    have K6_11 := hide (K6_10.out.later hb11)
    have K7_11 := hide (K7_10.out.later hb11)
    have HB11 := hide (HB10.out.trans (hb11.mono HB10.out.size))
    clear hW11 hb11 k0 k1 k2 k3 k4 k5 k6 hmk
    go_wp2_with fail
    go_loopw [18] (fun i wr => ∃ k : Nat, k ≤ 6 ∧ i = .int .i64 k ∧ Below W11.heap.size W11 wr) (fun i _ => 6 - (intOf i).toNat)
    case atStart => exact ⟨0, Nat.zero_le _, rfl, Below.refl _ _⟩
    case round =>
      obtain ⟨k, hk, rfl, hbel⟩ := hrel
      by_cases hlt : k < 6
      · rcases (by omega : k = 0 ∨ k = 1 ∨ k = 2 ∨ k = 3 ∨ k = 4 ∨ k = 5) with rfl | rfl | rfl | rfl | rfl | rfl
        · have hck := cell_later hbel HG.out.1
          have C := hide (mays_any _ 1 1 [(2, 13830554455654793216)] wr (HBD.out.1.later hbel) (by decide))
          rw [bad0] at C
          have HBE := hide hbel
          clear hbel
          go_wp2_with (go_at_call 12; refine C.out.mono ?_; rintro e w9 ⟨rfl, hb9⟩; have HB9' := hide (HBE.out.trans (hb9.mono HBE.out.size)); clear hb9)
          go_roundw
          case rel => exact ⟨0 + 1, by omega, rfl, HB9'.out⟩
          case measure => simp [intOf]
        · have hck := cell_later hbel HG.out.2.1
          have C := hide (mays_any _ 1 1 [(2, 9221120237041090561)] wr (HBD.out.2.1.later hbel) (by decide))
          rw [bad1] at C
          have HBE := hide hbel
          clear hbel
          go_wp2_with (go_at_call 12; refine C.out.mono ?_; rintro e w9 ⟨rfl, hb9⟩; have HB9' := hide (HBE.out.trans (hb9.mono HBE.out.size)); clear hb9)
          go_roundw
          case rel => exact ⟨1 + 1, by omega, rfl, HB9'.out⟩
          case measure => simp [intOf]
        · have hck := cell_later hbel HG.out.2.2.1
          have C := hide (mays_any _ 1 1 [(3, 4607182418800017408)] wr (HBD.out.2.2.1.later hbel) (by decide))
          rw [bad2] at C
          have HBE := hide hbel
          clear hbel
          go_wp2_with (go_at_call 12; refine C.out.mono ?_; rintro e w9 ⟨rfl, hb9⟩; have HB9' := hide (HBE.out.trans (hb9.mono HBE.out.size)); clear hb9)
          go_roundw
          case rel => exact ⟨2 + 1, by omega, rfl, HB9'.out⟩
          case measure => simp [intOf]
        · have hck := cell_later hbel HG.out.2.2.2.1
          have C := hide (mays_any _ 1 1 [(4, 9221120237041090561)] wr (HBD.out.2.2.2.1.later hbel) (by decide))
          rw [bad3] at C
          have HBE := hide hbel
          clear hbel
          go_wp2_with (go_at_call 12; refine C.out.mono ?_; rintro e w9 ⟨rfl, hb9⟩; have HB9' := hide (HBE.out.trans (hb9.mono HBE.out.size)); clear hb9)
          go_roundw
          case rel => exact ⟨3 + 1, by omega, rfl, HB9'.out⟩
          case measure => simp [intOf]
        · have hck := cell_later hbel HG.out.2.2.2.2.1
          have C := hide (mays_any _ 1 1 [(0, 0)] wr (HBD.out.2.2.2.2.1.later hbel) (by decide))
          rw [bad4] at C
          have HBE := hide hbel
          clear hbel
          go_wp2_with (go_at_call 12; refine C.out.mono ?_; rintro e w9 ⟨rfl, hb9⟩; have HB9' := hide (HBE.out.trans (hb9.mono HBE.out.size)); clear hb9)
          go_roundw
          case rel => exact ⟨4 + 1, by omega, rfl, HB9'.out⟩
          case measure => simp [intOf]
        · have hck := cell_later hbel HG.out.2.2.2.2.2
          have C := hide (mays_any _ 5 5 [(0, 0), (0, 0), (0, 0), (0, 0), (0, 0)] wr (HBD.out.2.2.2.2.2.later hbel) (by decide))
          rw [bad5] at C
          have HBE := hide hbel
          clear hbel
          go_wp2_with (go_at_call 12; refine C.out.mono ?_; rintro e w9 ⟨rfl, hb9⟩; have HB9' := hide (HBE.out.trans (hb9.mono HBE.out.size)); clear hb9)
          go_roundw
          case rel => exact ⟨5 + 1, by omega, rfl, HB9'.out⟩
          case measure => simp [intOf]

      · obtain rfl : k = 6 := by omega
        have K5_12 := hide (K5_11.out.later hbel)
        have K6_12 := hide (K6_11.out.later hbel)
        have K7_12 := hide (K7_11.out.later hbel)
        have HB12 := hide (HB11.out.trans (hbel.mono HB11.out.size))
        clear hbel
        go_upto_region 18 with fail
        have hneg : Op.negFloat FloatKind.f64 9218868437227405312 = 18442240474082181120 := by kernel_rfl
        rw [hneg]
        have k4 := heap_alloc_new wr (.cells #[.int .i64 1, .float .f64 9221120237041090561, .int .i64 1, .float .f64 18442240474082181120, .int .i64 2, .float .f64 9218868437227405312, .int .i64 3, .float .f64 9223372036854775808] 48)
        have H4 := hide (hks_lit [(1, 9221120237041090561), (1, 18442240474082181120), (2, 9218868437227405312), (3, 9223372036854775808)] k4 rfl rfl)
        clear k4
        have hbn : Below wr.heap.size wr (wr.alloc (.cells #[.int .i64 1, .float .f64 9221120237041090561, .int .i64 1, .float .f64 18442240474082181120, .int .i64 2, .float .f64 9218868437227405312, .int .i64 3, .float .f64 9223372036854775808] 48)) := (Below.refl _ _).alloc (Nat.le_refl _) _
        have K5_13 := K5_12.out.later hbn
        have K6_13 := K6_12.out.later hbn
        have K7_13 := K7_12.out.later hbn
        have HB13 := hide (HB12.out.trans (hbn.mono HB12.out.size))
        clear hbn
        generalize wr.heap.size = g4 at H4 ⊢
        generalize wr.alloc (.cells #[.int .i64 1, .float .f64 9221120237041090561, .int .i64 1, .float .f64 18442240474082181120, .int .i64 2, .float .f64 9218868437227405312, .int .i64 3, .float .f64 9223372036854775808] 48) = W13 at H4 K5_13 K6_13 K7_13 HB13 ⊢
        obtain ⟨a5, n5, c5, b5, m5, d5, D5, hg5, hS5, hD5, hC5⟩ := K5_13
        obtain rfl : n5 = 1 := hS5.1.symm
        obtain rfl : m5 = 7 := map_len hC5 hD5.1 rfl
        obtain ⟨a6, n6, c6, b6, m6, d6, D6, hg6, hS6, hD6, hC6⟩ := K6_13
        obtain rfl : n6 = 1 := hS6.1.symm
        obtain rfl : m6 = 4 := map_len hC6 hD6.1 rfl
        obtain ⟨a7, n7, c7, b7, m7, d7, D7, hg7, hS7, hD7, hC7⟩ := K7_13
        obtain rfl : n7 = 1 := hS7.1.symm
        obtain rfl : m7 = 2 := map_len hC7 hD7.1 rfl
        obtain ⟨x5, y5, -, -⟩ := two_cells hg5
        obtain ⟨x6, y6, -, -⟩ := two_cells hg6
        obtain ⟨x7, y7, -, -⟩ := two_cells hg7
        have l5 := lt_of_row hg5
        have l6 := lt_of_row hg6
        have l7 := lt_of_row hg7
        have hkeep : ∀ w' : World, Below W13.heap.size W13 w' → w'.cell? ⟨g5, 0, none⟩ = some (.slice a5 1 c5) ∧ w'.cell? ⟨g5, 1, none⟩ = some (.slice b5 7 d5) ∧ w'.cell? ⟨g6, 0, none⟩ = some (.slice a6 1 c6) ∧ w'.cell? ⟨g6, 1, none⟩ = some (.slice b6 4 d6) ∧ w'.cell? ⟨g7, 0, none⟩ = some (.slice a7 1 c7) ∧ w'.cell? ⟨g7, 1, none⟩ = some (.slice b7 2 d7) ∧ Below W13.heap.size W13 w' := fun w' hb => ⟨(hb.cell (p := ⟨g5, 0, none⟩) l5).trans x5, (hb.cell (p := ⟨g5, 1, none⟩) l5).trans y5, (hb.cell (p := ⟨g6, 0, none⟩) l6).trans x6, (hb.cell (p := ⟨g6, 1, none⟩) l6).trans y6, (hb.cell (p := ⟨g7, 0, none⟩) l7).trans x7, (hb.cell (p := ⟨g7, 1, none⟩) l7).trans y7, hb⟩
        have HK5 := hide (And.intro hS5 (And.intro hD5 hC5))
        have HK6 := hide (And.intro hS6 (And.intro hD6 hC6))
        have HK7 := hide (And.intro hS7 (And.intro hD7 hC7))
        clear hg5 hg6 hg7 hS5 hD5 hC5 hS6 hD6 hC6 hS7 hD7 hC7
        have hb13 := Below.refl W13.heap.size W13
        go_region_held3 (fun w' => w'.cell? ⟨g5, 0, none⟩ = some (.slice a5 1 c5) ∧ w'.cell? ⟨g5, 1, none⟩ = some (.slice b5 7 d5) ∧ w'.cell? ⟨g6, 0, none⟩ = some (.slice a6 1 c6) ∧ w'.cell? ⟨g6, 1, none⟩ = some (.slice b6 4 d6) ∧ w'.cell? ⟨g7, 0, none⟩ = some (.slice a7 1 c7) ∧ w'.cell? ⟨g7, 1, none⟩ = some (.slice b7 2 d7) ∧ Below W13.heap.size W13 w')
          ((refine hkeep _ ?_; repeat' (first | with_reducible assumption | with_reducible exact Below.refl _ _ | with_reducible apply bel_drew | with_reducible apply bel_alloc)))
          (first
            | (go_at_call 16; (first
              | (with_reducible refine (of_drew W13 _ 7 _ [13835058055282163712, 13835058055282163712, 4607182418800017408, 4611686018427387904, 4611686018427387904, 4611686018427387904, 9221120237041090561] ?_ ?_ ?_).mono ?_; with_reducible assumption; (exact fv5); (exact ln5); rintro e wA ⟨a5', rfl, HF5, hbA5⟩)
              | (with_reducible refine (of_plain W13 _ 7 _ [13835058055282163712, 13835058055282163712, 4607182418800017408, 4611686018427387904, 4611686018427387904, 4611686018427387904, 9221120237041090561] ?_ ?_ ?_).mono ?_; with_reducible assumption; (exact fv5); (exact ln5); rintro e wA ⟨a5', rfl, HF5, hbA5⟩)
              | (with_reducible refine (of_drew W13 _ 4 _ [9223372036854775808, 9223372036854775808, 0, 0] ?_ ?_ ?_).mono ?_; with_reducible assumption; (exact fv6); (exact ln6); rintro e wA ⟨a6', rfl, HF6, hbA6⟩)
              | (with_reducible refine (of_plain W13 _ 4 _ [9223372036854775808, 9223372036854775808, 0, 0] ?_ ?_ ?_).mono ?_; with_reducible assumption; (exact fv6); (exact ln6); rintro e wA ⟨a6', rfl, HF6, hbA6⟩)
              | (with_reducible refine (of_drew W13 _ 2 _ [0, 0] ?_ ?_ ?_).mono ?_; with_reducible assumption; (exact fv7); (exact ln7); rintro e wA ⟨a7', rfl, HF7, hbA7⟩)
              | (with_reducible refine (of_plain W13 _ 2 _ [0, 0] ?_ ?_ ?_).mono ?_; with_reducible assumption; (exact fv7); (exact ln7); rintro e wA ⟨a7', rfl, HF7, hbA7⟩)))
            | (go_at_call 11; (first
              | (with_reducible refine (same_lit _ _ _ _ _ _ _ _ _ _ [7] D5 [13835058055282163712, 13835058055282163712, 4607182418800017408, 4611686018427387904, 4611686018427387904, 4611686018427387904, 9221120237041090561] W13 _ HK5.out.1 HK5.out.2.1 ?_ HF5.out ?_ ?_ (HK5.out.2.2.trans can5)).mono ?_; with_reducible assumption; (exact small1); (exact small7); rintro e wB ⟨rfl, hbB5⟩)
              | (with_reducible refine (same_lit _ _ _ _ _ _ _ _ _ _ [4] D6 [9223372036854775808, 9223372036854775808, 0, 0] W13 _ HK6.out.1 HK6.out.2.1 ?_ HF6.out ?_ ?_ (HK6.out.2.2.trans can6)).mono ?_; with_reducible assumption; (exact small1); (exact small4); rintro e wB ⟨rfl, hbB6⟩)
              | (with_reducible refine (same_lit _ _ _ _ _ _ _ _ _ _ [2] D7 [0, 0] W13 _ HK7.out.1 HK7.out.2.1 ?_ HF7.out ?_ ?_ (HK7.out.2.2.trans can7)).mono ?_; with_reducible assumption; (exact small1); (exact small2); rintro e wB ⟨rfl, hbB7⟩)))
            | (go_at_call 12; with_reducible refine (mays_lit _ 4 4 _ W13 _ H4.out ?_ ?_ four_may).mono ?_; with_reducible assumption; (exact small4); rintro e wB ⟨rfl, hbM⟩))
        all_goals (go_wp2_with fail)
        go_ret
        exact ⟨rfl, HB13.out.trans (hbM.mono HB13.out.size)⟩
end Go.Proofs.Ytegofhmkebbinaa.HookKnown
