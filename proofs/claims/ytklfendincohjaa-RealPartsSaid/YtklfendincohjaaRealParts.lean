/-
  RealParts: a fold of twice as many is the fold of both halves, added; a row goes on from where it was. No condition.
-/
import Derived.Test.YtklfendincohjaaReal5
import Derived.Test.YtklfendincohjaaApp
namespace Go.Proofs.Ytklfendincohjaa.RealParts
open Go.RowKit
attribute [local go_sem] Fl.run_add Fl.run_mul

theorem info23 : (Try.prog.info? 23).map (fun i => (i.zero, i.size, i.bytes)) = some (some (.float .f64 0), 1, 8) := by kernel_rfl

theorem fold_twice (l : List (Option Nat)) (h : l ≠ []) : Fl.foldC (l ++ l) = Fl.opC .add (Fl.foldC l) (Fl.foldC l) := by
  have hl : l.length ≠ 0 := fun e => h (List.length_eq_zero_iff.1 e)
  rw [Fl.foldC_step _ (by simp; omega)]
  have e : ((l ++ l).length + 1) / 2 = l.length := by simp; omega
  rw [e, List.take_left, List.drop_left]

theorem src_of {w : World} {a : Option Addr} {len cap : Nat} {xs : List Nat} (h : Fl.Sl w a len cap xs) (hn : a = none → cap = 0) : Src w a len cap 1 (xs.map (Value.float .f64)) := by
  obtain ⟨hl, hc, h⟩ := h
  refine ⟨by simp [hl], ?_⟩
  cases a with
  | none => exact .inl ⟨rfl, by have := hn rfl; omega, hn rfl⟩
  | some ad =>
    refine .inr ⟨ad, rfl, fun j u hj => ?_⟩
    rcases h with rfl | ⟨b, off, ha, hr⟩
    · have : xs = [] := List.eq_nil_of_length_eq_zero hl
      subst this
      simp at hj
    · injection ha with ha
      subst ha
      rw [Go.WideShapes.add_plain]
      rw [List.getElem?_map, Option.map_eq_some_iff] at hj
      obtain ⟨x, hx, rfl⟩ := hj
      have hjl : j < xs.length := (List.getElem?_eq_some_iff.1 hx).1
      rw [hr j hjl, List.getD_eq_getElem?_getD, hx]; rfl
theorem floats_one (xs : List Nat) : ∀ u ∈ xs.map (Value.float .f64), u.oneCell' = true := by
  intro u hu
  obtain ⟨x, _, rfl⟩ := List.mem_map.1 hu
  rfl

set_option maxHeartbeats 2000000 in
theorem walk (a : Option Addr) (len cap : Nat) (xs : List Nat) (x : Nat) (w : World) (h : Fl.Sl w a len cap xs) (hn : a = none → cap = 0) :
    Calls Try.prog 5 #[.slice a len cap, .float .f64 x] w fun e w' => e = .returned (.bool true) ∧ Below w.heap.size w w' := by
  have hk : len ≤ cap := h.2.1
  have HL := hide h.1
  have H := hide h
  have HN := hide hn
  clear h hn
  obtain ⟨i0, hi, hz0, hz1, hz2⟩ := info_parts info23
  go_enter Try.func5, Try.ntmps5
  go_wp2_with fail
  refine (awake_any w).mono ?_
  rintro e w1 ⟨rfl, hb⟩
  have H1 := hide (H.out.later hb)
  have HB := hide hb
  clear H hb
  by_cases h5 : len ≤ 300
  · have hrefl : ∀ c, Fl.sameB c c = true := fun c => beq_self_eq_true _
    have HM : ∀ W, Below w1.heap.size w1 W → Src W a len cap 1 (xs.map (Value.float .f64)) := fun W hW => src_of (H1.out.later hW) HN.out
    have HMM := hide HM
    clear HM
    go_wp2_with (at_builtin; refine wpl_append rfl _ _ 22 rfl w1.heap.size 23 i0 (.float .f64 0) 1 8 Try.underlying22 hi hz0 hz1 hz2 rfl (by decide) (.slice (some ⟨w1.heap.size, 0, none⟩) 0 0) 0 [] rfl (World.ownsRow_made w1 #[] 0 (Nat.le_refl _) (Nat.zero_le _) rfl) _ _ _ (xs.map (Value.float .f64)) rfl ?a2 (floats_one xs) ?a3 ?a4 ?a5 ?_)
    case a2 => exact HMM.out _ ((Below.refl _ _).alloc (Nat.le_refl _) _)
    case a3 => unfold maxLen; omega
    case a4 => omega
    case a5 => simp
    intro v1 w2 hown1 hgrow1
    have hb2 : Below w1.heap.size w1 w2 := Below.own ((Below.refl _ _).alloc (Nat.le_refl _) _) (World.ownsRow_made (e := 23) (size := 1) w1 #[] 0 (Nat.le_refl _) (Nat.zero_le _) rfl) hgrow1 (by simp)
    have hsz2 := hb2.size
    have HB2 := hide hb2
    have HO1 := hide hown1
    clear hown1 hgrow1 hb2
    go_wp2_with (at_builtin; refine wpl_append rfl _ _ 22 rfl w1.heap.size 23 i0 (.float .f64 0) 1 8 Try.underlying22 hi hz0 hz1 hz2 rfl (by decide) v1 len (xs.map (Value.float .f64)) rfl HO1.out _ _ _ (xs.map (Value.float .f64)) rfl ?b2 (floats_one xs) ?b3 ?b4 ?b5 ?_)
    case b2 => exact HMM.out _ HB2.out
    case b3 => unfold maxLen; omega
    case b4 => omega
    case b5 => exact hsz2
    intro v2 w3 hown2 hgrow2
    have hb3 : Below w1.heap.size w1 w3 := Below.own HB2.out HO1.out hgrow2 hsz2
    have hsz3 := hb3.size
    have HB3 := hide hb3
    rw [← List.map_append] at hown2
    obtain ⟨A, c, rfl, hsl⟩ := Fl.Sl_of_own hown2
    have HS2 := hide hsl
    clear hown2 hgrow2 hb3 hsl
    have HS1 := hide (H1.out.later HB3.out)
    have F1 := hide (fun W (hW : Fl.Sl W a len cap xs) => fold_sl a len cap xs W (by omega) hW)
    have R1 := hide (fun W (hW : Fl.Sl W a len cap xs) => row_sl a len cap xs W (by omega) hW)
    by_cases h0 : len = 0
    · have h0' : ((len : Int) == 0) = true := by simp; omega
      clear h0
      go_wp2_with (first | (go_at_call 13; (with_reducible refine (F1.out _ ?_).mono ?_); exact HS1.out; rintro e w' ⟨r1, n1, rfl, hc1, rfl⟩) | (go_at_call 16; (with_reducible refine (R1.out _ ?_).mono ?_); exact HS1.out; rintro e w' ⟨r3, n3, rfl, hc3, rfl⟩) | (go_at_call 10; refine (plus_gives _ _ _).mono ?_; rintro e w' ⟨r4, n4, rfl, hc4, rfl⟩) | (go_at_call 18; refine (same_any _ _ _).mono ?_; rintro e w' ⟨rfl, rfl⟩) | (at_builtin; refine wpl_append (o := ⟨some 40, _, _, _, _, _⟩) rfl _ _ 22 rfl w1.heap.size 23 i0 (.float .f64 0) 1 8 Try.underlying22 hi hz0 hz1 hz2 rfl (by decide) _ 0 [] rfl (World.ownsRow_made _ #[] 0 hsz3 (Nat.zero_le _) rfl) _ _ _ (xs.map (Value.float .f64)) rfl ?p2 (floats_one xs) ?p3 ?p4 ?p5 ?_))
      case p2 => exact HMM.out _ ((Fl.below_drewN HB3.out _).alloc hsz3 _)
      case p3 => unfold maxLen; omega
      case p4 => omega
      case p5 => simp; omega
      intro v3 w4 hown3 hgrow3
      have hb4 : Below w1.heap.size w1 w4 := Below.own ((Fl.below_drewN HB3.out _).alloc hsz3 _) (World.ownsRow_made (e := 23) (size := 1) (w3.drewN _) #[] 0 hsz3 (Nat.zero_le _) rfl) hgrow3 (by simp; omega)
      have hsz4 := hb4.size
      have HB4 := hide hb4
      have HO3 := hide hown3
      clear hown3 hgrow3 hb4
      go_wp2_with (at_builtin; refine wpl_append (o := ⟨some 43, _, _, _, _, _⟩) rfl _ _ 22 rfl w1.heap.size 23 i0 (.float .f64 0) 1 8 Try.underlying22 hi hz0 hz1 hz2 rfl (by decide) v3 len (xs.map (Value.float .f64)) rfl (HO3.out.alloc _) _ _ _ [.float .f64 x] rfl ?pd2 (own_one rfl) ?pd3 ?pd4 ?pd5 ?_)
      case pd2 => exact Src.one _ _ rfl _ _
      case pd3 => unfold maxLen; omega
      case pd4 => omega
      case pd5 => simp; omega
      intro v4 w5 hown4 hgrow4
      have hb5 : Below w1.heap.size w1 w5 := Below.own (HB4.out.alloc hsz4 _) (HO3.out.alloc _) hgrow4 (by simp; omega)
      have HB5 := hide hb5
      have e5 : xs.map (Value.float .f64) ++ [.float .f64 x] = (xs ++ [x]).map (Value.float .f64) := by simp
      rw [e5] at hown4
      obtain ⟨A2, c2, rfl, hsl2⟩ := Fl.Sl_of_own hown4
      have R2 : ∀ W, Fl.Sl W A2 (len + 1) c2 (xs ++ [x]) → Calls Try.prog 16 #[.slice A2 ((len + 1 : Nat)) c2] W (Fl.Gives (Fl.opC .add (Fl.rowC (xs.map Fl.can)) (Fl.can x)) W) := fun W hW => by
        have h9 := row_sl A2 (len + 1) c2 (xs ++ [x]) W (by omega) hW; rw [List.map_append] at h9; rw [← Fl.rowC_snoc]; exact h9
      have RR2 := hide R2
      have HS5 := hide hsl2
      clear R2 hsl2 hown4 hgrow4 hb5 e5
      go_wp2_with (first | (go_at_call 16; (with_reducible refine (RR2.out _ ?_).mono ?_); exact HS5.out; rintro e w' ⟨r6, n6, rfl, hc6, rfl⟩) | (go_at_call 18; refine (same_any _ _ _).mono ?_; rintro e w' ⟨rfl, rfl⟩))
      go_ret
      exact ⟨rfl, Fl.below_drewN (HB.out.trans (HB5.out.mono HB.out.size)) _⟩
    · have h0' : ((len : Int) == 0) = false := by simp; omega
      have hxs : xs ≠ [] := fun e => h0 (by rw [← HL.out, e]; rfl)
      have F2 : ∀ W, Fl.Sl W A (len + len) c (xs ++ xs) → Calls Try.prog 13 #[.slice A ((len + len : Nat)) c] W (Fl.Gives (Fl.opC .add (Fl.foldC (xs.map Fl.can)) (Fl.foldC (xs.map Fl.can))) W) := fun W hW => by
        rw [← fold_twice _ (by simpa using hxs), ← List.map_append]; exact fold_sl A (len + len) c (xs ++ xs) W (by omega) hW
      have FF2 := hide F2
      clear F2 hxs h0
      go_wp2_with (first | (go_at_call 13; (with_reducible refine (F1.out _ ?_).mono ?_); exact HS1.out; rintro e w' ⟨r1, n1, rfl, hc1, rfl⟩) | (go_at_call 13; (with_reducible refine (FF2.out _ ?_).mono ?_); exact HS2.out; rintro e w' ⟨r2, n2, rfl, hc2, rfl⟩) | (go_at_call 16; (with_reducible refine (R1.out _ ?_).mono ?_); exact HS1.out; rintro e w' ⟨r3, n3, rfl, hc3, rfl⟩) | (go_at_call 10; refine (plus_gives _ _ _).mono ?_; rintro e w' ⟨r4, n4, rfl, hc4, rfl⟩) | (go_at_call 18; refine (same_any _ _ _).mono ?_; rintro e w' ⟨rfl, rfl⟩) | (at_builtin; refine wpl_append (o := ⟨some 40, _, _, _, _, _⟩) rfl _ _ 22 rfl w1.heap.size 23 i0 (.float .f64 0) 1 8 Try.underlying22 hi hz0 hz1 hz2 rfl (by decide) _ 0 [] rfl (World.ownsRow_made _ #[] 0 hsz3 (Nat.zero_le _) rfl) _ _ _ (xs.map (Value.float .f64)) rfl ?q2 (floats_one xs) ?q3 ?q4 ?q5 ?_))
      case q2 => exact HMM.out _ ((Fl.below_drewN HB3.out _).alloc hsz3 _)
      case q3 => unfold maxLen; omega
      case q4 => omega
      case q5 => simp; omega
      intro v3 w4 hown3 hgrow3
      have hb4 : Below w1.heap.size w1 w4 := Below.own ((Fl.below_drewN HB3.out _).alloc hsz3 _) (World.ownsRow_made (e := 23) (size := 1) (w3.drewN _) #[] 0 hsz3 (Nat.zero_le _) rfl) hgrow3 (by simp; omega)
      have hsz4 := hb4.size
      have HB4 := hide hb4
      have HO3 := hide hown3
      clear hown3 hgrow3 hb4
      go_wp2_with (at_builtin; refine wpl_append (o := ⟨some 43, _, _, _, _, _⟩) rfl _ _ 22 rfl w1.heap.size 23 i0 (.float .f64 0) 1 8 Try.underlying22 hi hz0 hz1 hz2 rfl (by decide) v3 len (xs.map (Value.float .f64)) rfl (HO3.out.alloc _) _ _ _ [.float .f64 x] rfl ?qd2 (own_one rfl) ?qd3 ?qd4 ?qd5 ?_)
      case qd2 => exact Src.one _ _ rfl _ _
      case qd3 => unfold maxLen; omega
      case qd4 => omega
      case qd5 => simp; omega
      intro v4 w5 hown4 hgrow4
      have hb5 : Below w1.heap.size w1 w5 := Below.own (HB4.out.alloc hsz4 _) (HO3.out.alloc _) hgrow4 (by simp; omega)
      have HB5 := hide hb5
      have e5 : xs.map (Value.float .f64) ++ [.float .f64 x] = (xs ++ [x]).map (Value.float .f64) := by simp
      rw [e5] at hown4
      obtain ⟨A2, c2, rfl, hsl2⟩ := Fl.Sl_of_own hown4
      have R2 : ∀ W, Fl.Sl W A2 (len + 1) c2 (xs ++ [x]) → Calls Try.prog 16 #[.slice A2 ((len + 1 : Nat)) c2] W (Fl.Gives (Fl.opC .add (Fl.rowC (xs.map Fl.can)) (Fl.can x)) W) := fun W hW => by
        have h9 := row_sl A2 (len + 1) c2 (xs ++ [x]) W (by omega) hW; rw [List.map_append] at h9; rw [← Fl.rowC_snoc]; exact h9
      have RR2 := hide R2
      have HS5 := hide hsl2
      clear R2 hsl2 hown4 hgrow4 hb5 e5
      go_wp2_with (first | (go_at_call 16; (with_reducible refine (RR2.out _ ?_).mono ?_); exact HS5.out; rintro e w' ⟨r6, n6, rfl, hc6, rfl⟩) | (go_at_call 18; refine (same_any _ _ _).mono ?_; rintro e w' ⟨rfl, rfl⟩))
      go_ret
      exact ⟨rfl, Fl.below_drewN (HB.out.trans (HB5.out.mono HB.out.size)) _⟩
  · go_wp2_with fail
    go_ret
    exact ⟨rfl, HB.out⟩
end Go.Proofs.Ytklfendincohjaa.RealParts
