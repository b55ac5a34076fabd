/-
  Floats: bits, the same, odd; rows that are copied. No condition.
-/
import Derived.Test.YtegofhmkebbinaaSh2
import Derived.Test.YtegofhmkebbinaaApp
import Derived.Laws.Externs
import Derived.KernelRfl
import Derived.Lib.SliceRun
namespace Go.Proofs.Ytegofhmkebbinaa
open Go.RowKit
attribute [local go_sem] Fl.run_add Fl.run_mul

namespace Fl
/-- The bits of a float, all NaNs taken as one. -/
def bitsI (c : Option Nat) : Int := match c with | none => 9221120237041090561 | some b => b
theorem ne_self (x : Nat) : (Ieee.double.order x x != some .eq) = nanB x := by
  have h := order_self x
  cases hn : nanB x <;> simp [bne, h, hn]
/-- The absolute value's bits. -/
def absB (x : Nat) : Nat := (bits .andNot .u64 (x : Int) 9223372036854775808).toNat
def infB (x : Nat) : Bool := Ieee.double.order (absB x) 9218868437227405311 == some .gt
/-- Is a number odd (a NaN, or without end), but for a NaN's bits? -/
def oddC (c : Option Nat) : Bool := match c with | none => true | some b => infB b
/-- Is any of a row odd? -/
def oddAny (D : List Nat) : Bool := (D.map can).any oddC
end Fl
theorem frombits_run (n : Int) (w : World) : (callFunc 34 #[.int .u64 n]).run Try.prog w = .ok (.value (.float .f64 n.toNat)) w := by
  rw [run_callFunc_extern Try.func34 (by kernel_rfl) (by kernel_rfl) (by kernel_rfl) (e := Extern.MathFloatBits.float64frombits) (by kernel_rfl)]
  rfl
theorem bits_run (b : Nat) (w : World) : (callFunc 35 #[.float .f64 b]).run Try.prog w = .ok (.value (.int .u64 b)) w := by
  rw [run_callFunc_extern Try.func35 (by kernel_rfl) (by kernel_rfl) (by kernel_rfl) (e := Extern.MathFloatBits.float64bits) (by kernel_rfl)]
  rfl
theorem times_any (a b : Nat) (w : World) :
    Calls Try.prog 39 #[.float .f64 a, .float .f64 b] w fun e w' => e = .returned (.float .f64 (Fl.opV .mul w a b)) ∧ w.drewN (Fl.opN .mul a b) = w' := by
  go_enter Try.func39, Try.ntmps39
  go_wp2
  go_ret
  exact ⟨rfl, rfl⟩
theorem refbits_any (a : Nat) (w : World) :
    Calls Try.prog 43 #[.float .f64 a] w fun e w' => e = .returned (.int .u64 (Fl.bitsI (Fl.can a))) ∧ w = w' := by
  have hb := bits_run
  have hne : (FloatKind.f64.format.order a a != some .eq) = Fl.nanB a := Fl.ne_self a
  cases hn : Fl.nanB a with
  | true =>
    rw [Fl.can_none hn]
    rw [hn] at hne
    go_enter Try.func43, Try.ntmps43
    go_wp2
    go_ret
    exact ⟨rfl, rfl⟩
  | false =>
    rw [Fl.can_some hn]
    rw [hn] at hne
    go_enter Try.func43, Try.ntmps43
    go_wp2
    go_ret
    exact ⟨rfl, rfl⟩
theorem refsame_eq (a b : Nat) (w : World) (h : Fl.can a = Fl.can b) :
    Calls Try.prog 29 #[.float .f64 a, .float .f64 b] w fun e w' => e = .returned (.bool true) ∧ w = w' := by
  have C1 := hide (fun W => refbits_any a W)
  have C2 : Hid (∀ W, Calls Try.prog 43 #[.float .f64 b] W fun e w' => e = .returned (.int .u64 (Fl.bitsI (Fl.can a))) ∧ W = w') := by rw [h]; exact fun W => refbits_any b W
  clear h
  go_enter Try.func29, Try.ntmps29
  go_wp2_with (go_at_call 43; first | ((with_reducible refine (C1.out _).mono ?_); rintro e w' ⟨rfl, rfl⟩) | ((with_reducible refine (C2.out _).mono ?_); rintro e w' ⟨rfl, rfl⟩))
  go_ret
  exact ⟨by simp, rfl⟩

theorem isnan_any (a : Nat) (w : World) :
    Calls Try.prog 48 #[.float .f64 a] w fun e w' => e = .returned (.bool (Fl.nanB a)) ∧ w = w' := by
  have hne : (FloatKind.f64.format.order a a != some .eq) = Fl.nanB a := Fl.ne_self a
  go_enter Try.func48, Try.ntmps48
  go_wp2
  go_ret
  exact ⟨rfl, rfl⟩
theorem abs_any (a : Nat) (w : World) :
    Calls Try.prog 49 #[.float .f64 a] w fun e w' => e = .returned (.float .f64 (Fl.absB a)) ∧ w = w' := by
  have hb := bits_run
  have hf := frombits_run
  go_enter Try.func49, Try.ntmps49
  go_wp2
  go_ret
  exact ⟨rfl, rfl⟩
theorem isinf_any (a : Nat) (w : World) :
    Calls Try.prog 42 #[.float .f64 a, .int .i64 0] w fun e w' => e = .returned (.bool (Fl.infB a)) ∧ w = w' := by
  have C := hide (abs_any a w)
  go_enter Try.func42, Try.ntmps42
  go_wp2_with (go_at_call 49; (with_reducible refine C.out.mono ?_); rintro e w' ⟨rfl, rfl⟩)
  go_ret
  exact ⟨rfl, rfl⟩
theorem odd_any (a : Nat) (w : World) :
    Calls Try.prog 41 #[.float .f64 a] w fun e w' => e = .returned (.bool (Fl.oddC (Fl.can a))) ∧ w = w' := by
  have C1 := hide (isnan_any a w)
  have C2 := hide (isinf_any a w)
  cases hn : Fl.nanB a with
  | true =>
    rw [Fl.can_none hn]
    rw [hn] at C1
    go_enter Try.func41, Try.ntmps41
    go_wp2_with (first | (go_at_call 48; (with_reducible refine C1.out.mono ?_); rintro e w' ⟨rfl, rfl⟩) | (go_at_call 42; (with_reducible refine C2.out.mono ?_); rintro e w' ⟨rfl, rfl⟩))
    go_ret
    exact ⟨rfl, rfl⟩
  | false =>
    rw [Fl.can_some hn]
    rw [hn] at C1
    go_enter Try.func41, Try.ntmps41
    go_wp2_with (first | (go_at_call 48; (with_reducible refine C1.out.mono ?_); rintro e w' ⟨rfl, rfl⟩) | (go_at_call 42; (with_reducible refine C2.out.mono ?_); rintro e w' ⟨rfl, rfl⟩))
    go_ret
    exact ⟨rfl, rfl⟩
theorem odd_b (a : Nat) (w : World) (b : Bool) (h : Fl.oddC (Fl.can a) = b) : Calls Try.prog 41 #[.float .f64 a] w fun e w' => e = .returned (.bool b) ∧ w = w' := by
  subst h; exact odd_any a w

/-! ### Rows that are copied -/
theorem float_info : (Try.prog.info? 43).map (fun i => (i.zero, i.size, i.bytes)) = some (some (.float .f64 0), 1, 8) := by kernel_rfl
theorem int_info : (Try.prog.info? 3).map (fun i => (i.zero, i.size, i.bytes)) = some (some (.int .i64 0), 1, 8) := by kernel_rfl
theorem parts_of {t : TypeId} {z : Value} {a b : Nat} (h : (Try.prog.info? t).map (fun i => (i.zero, i.size, i.bytes)) = some (some z, a, b)) : ∃ i, Try.prog.info? t = some i ∧ i.zero = some z ∧ i.size = a ∧ i.bytes = b := by
  obtain ⟨i, hi, he⟩ := Option.map_eq_some_iff.1 h
  simp at he
  exact ⟨i, hi, he.1, he.2.1, he.2.2⟩
def ivs (zs : List Int) : List Value := zs.map (Value.int .i64)
def fvs (xs : List Nat) : List Value := xs.map (Value.float .f64)
theorem ivs_one (zs : List Int) : ∀ u ∈ ivs zs, u.oneCell' = true := by
  intro u hu; obtain ⟨z, _, rfl⟩ := List.mem_map.1 hu; rfl
theorem fvs_one (xs : List Nat) : ∀ u ∈ fvs xs, u.oneCell' = true := by
  intro u hu; obtain ⟨z, _, rfl⟩ := List.mem_map.1 hu; rfl
theorem src_ints {w : World} {ad : Addr} {len cap : Nat} {zs : List Int} (h : Isl w .i64 (some ad) len cap zs) : Src w (some ad) len cap 1 (ivs zs) := by
  refine ⟨by simp [ivs, h.1], .inr ⟨ad, rfl, fun j u hj => ?_⟩⟩
  obtain ⟨z, hz, rfl⟩ := List.getElem?_map (f := Value.int .i64) ▸ hj |> fun h => Option.map_eq_some_iff.1 h
  have hjl : j < zs.length := (List.getElem?_eq_some_iff.1 hz).1
  obtain ⟨b, off, e, hc⟩ := h.at (i := j) (by rw [h.1] at hjl; exact hjl)
  cases e
  rw [Go.WideShapes.add_plain, hc]
  simp [hz]
theorem src_floats {w : World} {ad : Addr} {len cap : Nat} {xs : List Nat} (h : Fl.Sl w (some ad) len cap xs) : Src w (some ad) len cap 1 (fvs xs) := by
  refine ⟨by simp [fvs, h.1], .inr ⟨ad, rfl, fun j u hj => ?_⟩⟩
  obtain ⟨z, hz, rfl⟩ := List.getElem?_map (f := Value.float .f64) ▸ hj |> fun h => Option.map_eq_some_iff.1 h
  have hjl : j < xs.length := (List.getElem?_eq_some_iff.1 hz).1
  obtain ⟨b, off, e, hc⟩ := h.at (k := j) (by rw [h.1] at hjl; exact hjl)
  cases e
  rw [Go.WideShapes.add_plain, hc]
  simp [hz]
theorem Isl_of_own {w : World} {base : Nat} {e : TypeId} {v : Value} {n : Nat} {zs : List Int} (h : w.ownsRow base e 1 v n (ivs zs)) : ∃ a cap, v = .slice a n cap ∧ Isl w .i64 a n cap zs := by
  have hl : zs.length = n := by simpa [ivs] using h.1
  rcases h.2 with ⟨rfl, rfl⟩ | ⟨g, cap, cur, rfl, _, hg, hn, _, hs, ht⟩
  · exact ⟨none, 0, rfl, hl, Nat.le_refl _, fun i hi => by omega⟩
  · refine ⟨_, cap, rfl, hl, hn, fun i hi => ⟨g, 0, rfl, ?_⟩⟩
    rw [Nat.zero_add]
    have hc := h.cells (g := g) rfl i (.int .i64 (zs.getD i 0)) (by simp [ivs, hl, hi])
    rwa [Go.WideShapes.add_plain, Nat.zero_add] at hc

/-- A row of ints, and one of floats, of the call's own. -/
def OwnI (B : Nat) (w : World) (a : Option Addr) (n c : Nat) (zs : List Int) : Prop := w.ownsRow B 3 1 (.slice a n c) n (ivs zs)
def OwnF (B : Nat) (w : World) (a : Option Addr) (n c : Nat) (xs : List Nat) : Prop := w.ownsRow B 43 1 (.slice a n c) n (fvs xs)

set_option maxHeartbeats 2000000 in
theorem clone_ints (a : Option Addr) (len cap : Nat) (zs : List Int) (w : World) (h : Isl w .i64 a len cap zs) (hl : len ≤ 1099511627776) :
    Calls Try.prog 37 #[.slice a len cap] w fun e w' => ∃ a' c', e = .returned (.slice a' len c') ∧ OwnI w.heap.size w' a' len c' zs ∧ Below w.heap.size w w' := by
  obtain ⟨i0, hi, hz0, hz1, hz2⟩ := parts_of int_info
  have hq := fun (w : World) (a : Option Addr) (n c n' c' : Nat) => Lib.run_eql_slice_nil w 23 3 a n c n' c' Try.underlying23
  cases a with
  | none =>
    have h0 : len = 0 := by
      rcases Nat.eq_zero_or_pos len with h0 | h0
      · exact h0
      · obtain ⟨b, off, e, _⟩ := h.at h0; cases e
    have hz : zs = [] := List.eq_nil_of_length_eq_zero (by rw [h.1, h0])
    subst h0 hz
    clear h
    go_enter Try.func37, Try.ntmps37
    go_wp2_with fail
    go_ret
    exact ⟨none, 0, rfl, World.ownsRow_nil _ _ _ 1, Below.refl _ _⟩
  | some ad =>
    have H := hide h
    clear h
    go_enter Try.func37, Try.ntmps37
    go_wp2_with (at_builtin; refine wpl_append rfl _ _ 23 rfl w.heap.size 3 i0 (.int .i64 0) 1 8 Try.underlying23 hi hz0 hz1 hz2 rfl (by decide) (.slice (some ⟨w.heap.size, 0, none⟩) 0 0) 0 [] rfl (World.ownsRow_made w #[] 0 (Nat.le_refl _) (Nat.zero_le _) rfl) _ _ _ (ivs zs) rfl ?a2 (ivs_one zs) ?a3 ?a4 ?a5 ?_)
    case a2 => exact src_ints (H.out.later ((Below.refl _ _).alloc (Nat.le_refl _) _))
    case a3 => unfold maxLen; omega
    case a4 => omega
    case a5 => simp
    intro v1 w2 hown1 hgrow1
    have hb2 : Below w.heap.size w w2 := Below.own ((Below.refl _ _).alloc (Nat.le_refl _) _) (World.ownsRow_made (e := 3) (size := 1) w #[] 0 (Nat.le_refl _) (Nat.zero_le _) rfl) hgrow1 (by simp)
    obtain ⟨a', c', rfl, -⟩ := Isl_of_own hown1
    have HB := hide hb2
    have HO := hide hown1
    clear hown1 hgrow1 hb2
    go_wp2_with fail
    go_ret
    exact ⟨a', c', rfl, HO.out, HB.out⟩
set_option maxHeartbeats 2000000 in
theorem clone_floats (a : Option Addr) (len cap : Nat) (xs : List Nat) (w : World) (h : Fl.Sl w a len cap xs) (hl : len ≤ 1099511627776) :
    Calls Try.prog 38 #[.slice a len cap] w fun e w' => ∃ a' c', e = .returned (.slice a' len c') ∧ OwnF w.heap.size w' a' len c' xs ∧ Below w.heap.size w w' := by
  obtain ⟨i0, hi, hz0, hz1, hz2⟩ := parts_of float_info
  have hq := fun (w : World) (a : Option Addr) (n c n' c' : Nat) => Lib.run_eql_slice_nil w 24 43 a n c n' c' Try.underlying24
  cases a with
  | none =>
    have h0 : len = 0 := by
      rcases Nat.eq_zero_or_pos len with h0 | h0
      · exact h0
      · obtain ⟨b, off, e, _⟩ := h.at h0; cases e
    have hz : xs = [] := List.eq_nil_of_length_eq_zero (by rw [h.1, h0])
    subst h0 hz
    clear h
    go_enter Try.func38, Try.ntmps38
    go_wp2_with fail
    go_ret
    exact ⟨none, 0, rfl, World.ownsRow_nil _ _ _ 1, Below.refl _ _⟩
  | some ad =>
    have H := hide h
    clear h
    go_enter Try.func38, Try.ntmps38
    go_wp2_with (at_builtin; refine wpl_append rfl _ _ 24 rfl w.heap.size 43 i0 (.float .f64 0) 1 8 Try.underlying24 hi hz0 hz1 hz2 rfl (by decide) (.slice (some ⟨w.heap.size, 0, none⟩) 0 0) 0 [] rfl (World.ownsRow_made w #[] 0 (Nat.le_refl _) (Nat.zero_le _) rfl) _ _ _ (fvs xs) rfl ?a2 (fvs_one xs) ?a3 ?a4 ?a5 ?_)
    case a2 => exact src_floats (H.out.later ((Below.refl _ _).alloc (Nat.le_refl _) _))
    case a3 => unfold maxLen; omega
    case a4 => omega
    case a5 => simp
    intro v1 w2 hown1 hgrow1
    have hb2 : Below w.heap.size w w2 := Below.own ((Below.refl _ _).alloc (Nat.le_refl _) _) (World.ownsRow_made (e := 43) (size := 1) w #[] 0 (Nat.le_refl _) (Nat.zero_le _) rfl) hgrow1 (by simp)
    obtain ⟨a', c', rfl, -⟩ := Fl.Sl_of_own hown1
    have HB := hide hb2
    have HO := hide hown1
    clear hown1 hgrow1 hb2
    go_wp2_with fail
    go_ret
    exact ⟨a', c', rfl, HO.out, HB.out⟩
end Go.Proofs.Ytegofhmkebbinaa
