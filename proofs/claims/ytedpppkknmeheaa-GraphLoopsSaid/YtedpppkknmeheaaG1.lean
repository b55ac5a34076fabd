/-
  Nodes of a graph; op.May, op.Many, the document's Many; slices.ContainsFunc over a node's inputs with package graph's two closures. No condition. Printed by wip/tools/geng1.py.
-/
import Derived.Test.YtedpppkknmeheaaGs
import Derived.Test.YtedpppkknmeheaaGm
namespace Go.Proofs.Ytedpppkknmeheaa
open Go.RowKit

/-- A node: what lies in it, and what its slices hold. -/
structure Nd where
  op : Int
  ia : Option Addr
  il : Nat
  ic : Nat
  ins : List Int
  ta : Option Addr
  tl : Nat
  tc : Nat
  no : Int
  sa : Option Addr
  sl : Nat
  sc : Nat
  S : List Int
  da : Option Addr
  dl : Nat
  dc : Nat
  ha : Option Addr
  hl : Nat
  hc : Nat
  hs : List (Int × Nat)
def Nd.val (n : Nd) : Value := .agg #[.int .i64 n.op, .slice n.ia n.il n.ic, .slice n.ta n.tl n.tc, .int .i64 n.no, .slice n.sa n.sl n.sc, .slice n.da n.dl n.dc, .slice n.ha n.hl n.hc]
def Nd.ok (w : World) (n : Nd) : Prop := Isl w .i64 n.ia n.il n.ic n.ins ∧ Isl w .i64 n.sa n.sl n.sc n.S ∧ Hks w n.ha n.hl n.hc n.hs
theorem Nd.ok.later {w w' : World} {n : Nd} (h : n.ok w) (hb : Below w.heap.size w w') : n.ok w' := ⟨h.1.later hb, h.2.1.later hb, h.2.2.later hb⟩
def Nd.small (n : Nd) : Prop := n.il ≤ 140737488355328 ∧ n.sl ≤ 140737488355328 ∧ n.hl ≤ 140737488355328
def opmay (op : Int) : Bool := decide (1 ≤ op ∧ op ≤ 16)
def many (op : Int) : Int := if op = 1 ∨ op = 2 ∨ op = 3 then 0 else if op = 4 ∨ op = 5 ∨ op = 6 ∨ op = 7 ∨ op = 12 then 2 else if 1 ≤ op ∧ op ≤ 16 then 1 else -1

theorem opmay_any (op : Int) (w : World) (b : Bool) (hb : opmay op = b) : Calls Try.prog 39 #[.int .i64 op] w fun e w' => e = .returned (.bool b) ∧ w = w' := by
  subst hb
  unfold opmay
  by_cases h1 : 1 ≤ op
  · by_cases h2 : op ≤ 16
    · rw [decide_eq_true ⟨h1, h2⟩]
      go_enter Try.func39, Try.ntmps39
      go_wp2_with fail
      go_ret
      exact ⟨rfl, rfl⟩
    · rw [decide_eq_false (fun h => h2 h.2)]
      go_enter Try.func39, Try.ntmps39
      go_wp2_with fail
      go_ret
      exact ⟨rfl, rfl⟩
  · rw [decide_eq_false (fun h => h1 h.1)]
    go_enter Try.func39, Try.ntmps39
    go_wp2_with fail
    go_ret
    exact ⟨rfl, rfl⟩
set_option maxHeartbeats 4000000 in
theorem many_any (op : Int) (w : World) : Calls Try.prog 40 #[.int .i64 op] w fun e w' => e = .returned (.int .i64 (many op)) ∧ w = w' := by
  rcases (by omega : op = 1 ∨ op = 2 ∨ op = 3 ∨ op = 4 ∨ op = 5 ∨ op = 6 ∨ op = 7 ∨ op = 8 ∨ op = 9 ∨ op = 10 ∨ op = 11 ∨ op = 12 ∨ op = 13 ∨ op = 14 ∨ op = 15 ∨ op = 16 ∨ (op < 1 ∨ 16 < op)) with rfl | rfl | rfl | rfl | rfl | rfl | rfl | rfl | rfl | rfl | rfl | rfl | rfl | rfl | rfl | rfl | h
  · have C := hide (opmay_any 1 w true (by decide))
    go_enter Try.func40, Try.ntmps40
    go_wp2_with (go_at_call 39; (with_reducible refine C.out.mono ?_); rintro e w2 ⟨rfl, rfl⟩)
    go_ret
    exact ⟨rfl, rfl⟩
  · have C := hide (opmay_any 2 w true (by decide))
    go_enter Try.func40, Try.ntmps40
    go_wp2_with (go_at_call 39; (with_reducible refine C.out.mono ?_); rintro e w2 ⟨rfl, rfl⟩)
    go_ret
    exact ⟨rfl, rfl⟩
  · have C := hide (opmay_any 3 w true (by decide))
    go_enter Try.func40, Try.ntmps40
    go_wp2_with (go_at_call 39; (with_reducible refine C.out.mono ?_); rintro e w2 ⟨rfl, rfl⟩)
    go_ret
    exact ⟨rfl, rfl⟩
  · have C := hide (opmay_any 4 w true (by decide))
    go_enter Try.func40, Try.ntmps40
    go_wp2_with (go_at_call 39; (with_reducible refine C.out.mono ?_); rintro e w2 ⟨rfl, rfl⟩)
    go_ret
    exact ⟨rfl, rfl⟩
  · have C := hide (opmay_any 5 w true (by decide))
    go_enter Try.func40, Try.ntmps40
    go_wp2_with (go_at_call 39; (with_reducible refine C.out.mono ?_); rintro e w2 ⟨rfl, rfl⟩)
    go_ret
    exact ⟨rfl, rfl⟩
  · have C := hide (opmay_any 6 w true (by decide))
    go_enter Try.func40, Try.ntmps40
    go_wp2_with (go_at_call 39; (with_reducible refine C.out.mono ?_); rintro e w2 ⟨rfl, rfl⟩)
    go_ret
    exact ⟨rfl, rfl⟩
  · have C := hide (opmay_any 7 w true (by decide))
    go_enter Try.func40, Try.ntmps40
    go_wp2_with (go_at_call 39; (with_reducible refine C.out.mono ?_); rintro e w2 ⟨rfl, rfl⟩)
    go_ret
    exact ⟨rfl, rfl⟩
  · have C := hide (opmay_any 8 w true (by decide))
    go_enter Try.func40, Try.ntmps40
    go_wp2_with (go_at_call 39; (with_reducible refine C.out.mono ?_); rintro e w2 ⟨rfl, rfl⟩)
    go_ret
    exact ⟨rfl, rfl⟩
  · have C := hide (opmay_any 9 w true (by decide))
    go_enter Try.func40, Try.ntmps40
    go_wp2_with (go_at_call 39; (with_reducible refine C.out.mono ?_); rintro e w2 ⟨rfl, rfl⟩)
    go_ret
    exact ⟨rfl, rfl⟩
  · have C := hide (opmay_any 10 w true (by decide))
    go_enter Try.func40, Try.ntmps40
    go_wp2_with (go_at_call 39; (with_reducible refine C.out.mono ?_); rintro e w2 ⟨rfl, rfl⟩)
    go_ret
    exact ⟨rfl, rfl⟩
  · have C := hide (opmay_any 11 w true (by decide))
    go_enter Try.func40, Try.ntmps40
    go_wp2_with (go_at_call 39; (with_reducible refine C.out.mono ?_); rintro e w2 ⟨rfl, rfl⟩)
    go_ret
    exact ⟨rfl, rfl⟩
  · have C := hide (opmay_any 12 w true (by decide))
    go_enter Try.func40, Try.ntmps40
    go_wp2_with (go_at_call 39; (with_reducible refine C.out.mono ?_); rintro e w2 ⟨rfl, rfl⟩)
    go_ret
    exact ⟨rfl, rfl⟩
  · have C := hide (opmay_any 13 w true (by decide))
    go_enter Try.func40, Try.ntmps40
    go_wp2_with (go_at_call 39; (with_reducible refine C.out.mono ?_); rintro e w2 ⟨rfl, rfl⟩)
    go_ret
    exact ⟨rfl, rfl⟩
  · have C := hide (opmay_any 14 w true (by decide))
    go_enter Try.func40, Try.ntmps40
    go_wp2_with (go_at_call 39; (with_reducible refine C.out.mono ?_); rintro e w2 ⟨rfl, rfl⟩)
    go_ret
    exact ⟨rfl, rfl⟩
  · have C := hide (opmay_any 15 w true (by decide))
    go_enter Try.func40, Try.ntmps40
    go_wp2_with (go_at_call 39; (with_reducible refine C.out.mono ?_); rintro e w2 ⟨rfl, rfl⟩)
    go_ret
    exact ⟨rfl, rfl⟩
  · have C := hide (opmay_any 16 w true (by decide))
    go_enter Try.func40, Try.ntmps40
    go_wp2_with (go_at_call 39; (with_reducible refine C.out.mono ?_); rintro e w2 ⟨rfl, rfl⟩)
    go_ret
    exact ⟨rfl, rfl⟩
  · have e1 : (op == 1) = false := by rw [beq_eq_false_iff_ne]; omega
    have e2 : (op == 2) = false := by rw [beq_eq_false_iff_ne]; omega
    have e3 : (op == 3) = false := by rw [beq_eq_false_iff_ne]; omega
    have e4 : (op == 4) = false := by rw [beq_eq_false_iff_ne]; omega
    have e5 : (op == 5) = false := by rw [beq_eq_false_iff_ne]; omega
    have e6 : (op == 6) = false := by rw [beq_eq_false_iff_ne]; omega
    have e7 : (op == 7) = false := by rw [beq_eq_false_iff_ne]; omega
    have e8 : (op == 8) = false := by rw [beq_eq_false_iff_ne]; omega
    have e9 : (op == 9) = false := by rw [beq_eq_false_iff_ne]; omega
    have e10 : (op == 10) = false := by rw [beq_eq_false_iff_ne]; omega
    have e11 : (op == 11) = false := by rw [beq_eq_false_iff_ne]; omega
    have e12 : (op == 12) = false := by rw [beq_eq_false_iff_ne]; omega
    have e13 : (op == 13) = false := by rw [beq_eq_false_iff_ne]; omega
    have e14 : (op == 14) = false := by rw [beq_eq_false_iff_ne]; omega
    have e15 : (op == 15) = false := by rw [beq_eq_false_iff_ne]; omega
    have e16 : (op == 16) = false := by rw [beq_eq_false_iff_ne]; omega
    have C := hide (opmay_any op w false (by unfold opmay; rw [decide_eq_false_iff_not]; omega))
    have HO := hide (show many op = -1 by unfold many; rw [if_neg (by omega), if_neg (by omega), if_neg (by omega)])
    clear h
    go_enter Try.func40, Try.ntmps40
    go_wp2_with (go_at_call 39; (with_reducible refine C.out.mono ?_); rintro e w2 ⟨rfl, rfl⟩)
    go_ret
    exact ⟨by rw [HO.out]; rfl, rfl⟩
set_option maxHeartbeats 4000000 in
theorem many_ref (op : Int) (w : World) : Calls Try.prog 32 #[.int .i64 op] w fun e w' => e = .returned (.int .i64 (many op)) ∧ w = w' := by
  rcases (by omega : op = 1 ∨ op = 2 ∨ op = 3 ∨ op = 4 ∨ op = 5 ∨ op = 6 ∨ op = 7 ∨ op = 8 ∨ op = 9 ∨ op = 10 ∨ op = 11 ∨ op = 12 ∨ op = 13 ∨ op = 14 ∨ op = 15 ∨ op = 16 ∨ (op < 1 ∨ 16 < op)) with rfl | rfl | rfl | rfl | rfl | rfl | rfl | rfl | rfl | rfl | rfl | rfl | rfl | rfl | rfl | rfl | h
  · skip
    go_enter Try.func32, Try.ntmps32
    go_wp2_with fail
    go_ret
    exact ⟨rfl, rfl⟩
  · skip
    go_enter Try.func32, Try.ntmps32
    go_wp2_with fail
    go_ret
    exact ⟨rfl, rfl⟩
  · skip
    go_enter Try.func32, Try.ntmps32
    go_wp2_with fail
    go_ret
    exact ⟨rfl, rfl⟩
  · skip
    go_enter Try.func32, Try.ntmps32
    go_wp2_with fail
    go_ret
    exact ⟨rfl, rfl⟩
  · skip
    go_enter Try.func32, Try.ntmps32
    go_wp2_with fail
    go_ret
    exact ⟨rfl, rfl⟩
  · skip
    go_enter Try.func32, Try.ntmps32
    go_wp2_with fail
    go_ret
    exact ⟨rfl, rfl⟩
  · skip
    go_enter Try.func32, Try.ntmps32
    go_wp2_with fail
    go_ret
    exact ⟨rfl, rfl⟩
  · skip
    go_enter Try.func32, Try.ntmps32
    go_wp2_with fail
    go_ret
    exact ⟨rfl, rfl⟩
  · skip
    go_enter Try.func32, Try.ntmps32
    go_wp2_with fail
    go_ret
    exact ⟨rfl, rfl⟩
  · skip
    go_enter Try.func32, Try.ntmps32
    go_wp2_with fail
    go_ret
    exact ⟨rfl, rfl⟩
  · skip
    go_enter Try.func32, Try.ntmps32
    go_wp2_with fail
    go_ret
    exact ⟨rfl, rfl⟩
  · skip
    go_enter Try.func32, Try.ntmps32
    go_wp2_with fail
    go_ret
    exact ⟨rfl, rfl⟩
  · skip
    go_enter Try.func32, Try.ntmps32
    go_wp2_with fail
    go_ret
    exact ⟨rfl, rfl⟩
  · skip
    go_enter Try.func32, Try.ntmps32
    go_wp2_with fail
    go_ret
    exact ⟨rfl, rfl⟩
  · skip
    go_enter Try.func32, Try.ntmps32
    go_wp2_with fail
    go_ret
    exact ⟨rfl, rfl⟩
  · skip
    go_enter Try.func32, Try.ntmps32
    go_wp2_with fail
    go_ret
    exact ⟨rfl, rfl⟩
  · have e1 : (op == 1) = false := by rw [beq_eq_false_iff_ne]; omega
    have e2 : (op == 2) = false := by rw [beq_eq_false_iff_ne]; omega
    have e3 : (op == 3) = false := by rw [beq_eq_false_iff_ne]; omega
    have e4 : (op == 4) = false := by rw [beq_eq_false_iff_ne]; omega
    have e5 : (op == 5) = false := by rw [beq_eq_false_iff_ne]; omega
    have e6 : (op == 6) = false := by rw [beq_eq_false_iff_ne]; omega
    have e7 : (op == 7) = false := by rw [beq_eq_false_iff_ne]; omega
    have e8 : (op == 8) = false := by rw [beq_eq_false_iff_ne]; omega
    have e9 : (op == 9) = false := by rw [beq_eq_false_iff_ne]; omega
    have e10 : (op == 10) = false := by rw [beq_eq_false_iff_ne]; omega
    have e11 : (op == 11) = false := by rw [beq_eq_false_iff_ne]; omega
    have e12 : (op == 12) = false := by rw [beq_eq_false_iff_ne]; omega
    have e13 : (op == 13) = false := by rw [beq_eq_false_iff_ne]; omega
    have e14 : (op == 14) = false := by rw [beq_eq_false_iff_ne]; omega
    have e15 : (op == 15) = false := by rw [beq_eq_false_iff_ne]; omega
    have e16 : (op == 16) = false := by rw [beq_eq_false_iff_ne]; omega
    have HO := hide (show many op = -1 by unfold many; rw [if_neg (by omega), if_neg (by omega), if_neg (by omega)])
    clear h
    go_enter Try.func32, Try.ntmps32
    go_wp2_with fail
    go_ret
    exact ⟨by rw [HO.out]; rfl, rfl⟩

theorem below_b (x at' : Int) (g : Nat) (w : World) (hg : w.cell? ⟨g, 9, none⟩ = some (.int .i64 at')) (b : Bool) (h : decide (at' ≤ x) = b) : Calls Try.prog 42 #[.int .i64 x, .pointer (some ⟨g, 0, none⟩)] w fun e w' => e = .returned (.bool b) ∧ w = w' := by
  subst h
  go_enter Try.func42, Try.ntmps42
  go_wp2_with fail
  go_ret
  exact ⟨rfl, rfl⟩
theorem graphs_b (x : Int) (w : World) (b : Bool) (h : decide (x < 0) = b) : Calls Try.prog 43 #[.int .i64 x] w fun e w' => e = .returned (.bool b) ∧ w = w' := by
  subst h
  go_enter Try.func43, Try.ntmps43
  go_wp2_with fail
  go_ret
  exact ⟨rfl, rfl⟩

set_option maxHeartbeats 4000000 in
theorem index_ge (at' : Int) (g : Nat) (a : Option Addr) (len cap : Nat) (zs : List Int) (w : World) (hg : w.cell? ⟨g, 9, none⟩ = some (.int .i64 at')) (h : Isl w .i64 a len cap zs) (hl : len ≤ 140737488355328) :
    Calls Try.prog 51 #[.slice a len cap, .func (.func 42) #[] #[.pointer (some ⟨g, 0, none⟩)]] w fun e w' => ∃ i : Int, e = .returned (.int .i64 i) ∧ w = w' ∧ decide (0 ≤ i) = zs.any (fun x => decide (at' ≤ x)) := by
  have H := hide h
  have HL := hide h.1
  clear h
  go_enter Try.func51, Try.ntmps51
  go_wp2_with fail
  go_loopw [8] (fun i wr => ∃ k : Nat, k ≤ len ∧ i = .int .i64 k ∧ w = wr ∧ Hid (∀ j, j < k → (fun x => decide (at' ≤ x)) (zs.getD j 0) = false)) (fun i _ => len - (intOf i).toNat)
  case atStart => exact ⟨0, Nat.zero_le _, rfl, rfl, fun j hj => by omega⟩
  case round =>
    obtain ⟨k, hk, rfl, rfl, HN⟩ := hrel
    by_cases hlt : k < len
    · obtain ⟨b, off, rfl, hc⟩ := H.out.at hlt
      obtain ⟨x, hx⟩ : ∃ x, zs.getD k 0 = x := ⟨_, rfl⟩
      rw [hx] at hc
      have HX := hide hx
      clear hx
      cases hb : decide (at' ≤ x) with
      | true =>
        have C := hide (below_b x at' g w hg true hb)
        have HE : Hid ((fun x => decide (at' ≤ x)) (zs.getD k 0) = true) := by rw [HX.out]; exact hb
        clear hb
        go_wp2_with (go_at_call 42; (with_reducible refine C.out.mono ?_); rintro e w2 ⟨rfl, rfl⟩)
        go_ret
        refine ⟨_, rfl, rfl, ?_⟩
        rw [List.any_eq_true.2 ⟨zs.getD k 0, by rw [List.getD_eq_getElem?_getD, List.getElem?_eq_getElem (by rw [HL.out]; exact hlt)]; exact List.getElem_mem _, HE.out⟩]
        simp
      | false =>
        have C := hide (below_b x at' g w hg false hb)
        have HE : Hid ((fun x => decide (at' ≤ x)) (zs.getD k 0) = false) := by rw [HX.out]; exact hb
        clear hb
        go_wp2_with (go_at_call 42; (with_reducible refine C.out.mono ?_); rintro e w2 ⟨rfl, rfl⟩)
        go_roundw
        case rel =>
          refine ⟨k + 1, by omega, by go_num, trivial, fun j hj => ?_⟩
          by_cases e : j = k
          · subst e; exact HE.out
          · exact HN.out j (by omega)
        case measure => simp [intOf]; omega
    · obtain rfl : len = k := by omega
      go_wp2_with fail
      go_ret
      refine ⟨_, rfl, rfl, ?_⟩
      have : zs.any (fun x => decide (at' ≤ x)) = false := by
        rw [List.any_eq_false]
        intro x hx
        obtain ⟨j, hj, rfl⟩ := List.getElem_of_mem hx
        have := HN.out j (by rw [← HL.out]; exact hj)
        rw [List.getD_eq_getElem?_getD, List.getElem?_eq_getElem hj] at this
        simpa using this
      rw [this]; rfl
theorem any_ge (at' : Int) (g : Nat) (a : Option Addr) (len cap : Nat) (zs : List Int) (w : World) (hg : w.cell? ⟨g, 9, none⟩ = some (.int .i64 at')) (h : Isl w .i64 a len cap zs) (hl : len ≤ 140737488355328) :
    Calls Try.prog 41 #[.slice a len cap, .func (.func 42) #[] #[.pointer (some ⟨g, 0, none⟩)]] w fun e w' => e = .returned (.bool (zs.any (fun x => decide (at' ≤ x)))) ∧ w = w' := by
  have C := hide (index_ge at' g a len cap zs w hg h hl)
  clear h
  go_enter Try.func41, Try.ntmps41
  go_wp2_with (go_at_call 51; (with_reducible refine C.out.mono ?_); rintro e w2 ⟨i, rfl, rfl, hi⟩)
  go_ret
  exact ⟨by rw [← hi]; rfl, rfl⟩

set_option maxHeartbeats 4000000 in
theorem index_neg (a : Option Addr) (len cap : Nat) (zs : List Int) (w : World) (h : Isl w .i64 a len cap zs) (hl : len ≤ 140737488355328) :
    Calls Try.prog 51 #[.slice a len cap, .func (.func 43) #[] #[]] w fun e w' => ∃ i : Int, e = .returned (.int .i64 i) ∧ w = w' ∧ decide (0 ≤ i) = zs.any (fun x => decide (x < 0)) := by
  have H := hide h
  have HL := hide h.1
  clear h
  go_enter Try.func51, Try.ntmps51
  go_wp2_with fail
  go_loopw [8] (fun i wr => ∃ k : Nat, k ≤ len ∧ i = .int .i64 k ∧ w = wr ∧ Hid (∀ j, j < k → (fun x => decide (x < 0)) (zs.getD j 0) = false)) (fun i _ => len - (intOf i).toNat)
  case atStart => exact ⟨0, Nat.zero_le _, rfl, rfl, fun j hj => by omega⟩
  case round =>
    obtain ⟨k, hk, rfl, rfl, HN⟩ := hrel
    by_cases hlt : k < len
    · obtain ⟨b, off, rfl, hc⟩ := H.out.at hlt
      obtain ⟨x, hx⟩ : ∃ x, zs.getD k 0 = x := ⟨_, rfl⟩
      rw [hx] at hc
      have HX := hide hx
      clear hx
      cases hb : decide (x < 0) with
      | true =>
        have C := hide (graphs_b x w true hb)
        have HE : Hid ((fun x => decide (x < 0)) (zs.getD k 0) = true) := by rw [HX.out]; exact hb
        clear hb
        go_wp2_with (go_at_call 43; (with_reducible refine C.out.mono ?_); rintro e w2 ⟨rfl, rfl⟩)
        go_ret
        refine ⟨_, rfl, rfl, ?_⟩
        rw [List.any_eq_true.2 ⟨zs.getD k 0, by rw [List.getD_eq_getElem?_getD, List.getElem?_eq_getElem (by rw [HL.out]; exact hlt)]; exact List.getElem_mem _, HE.out⟩]
        simp
      | false =>
        have C := hide (graphs_b x w false hb)
        have HE : Hid ((fun x => decide (x < 0)) (zs.getD k 0) = false) := by rw [HX.out]; exact hb
        clear hb
        go_wp2_with (go_at_call 43; (with_reducible refine C.out.mono ?_); rintro e w2 ⟨rfl, rfl⟩)
        go_roundw
        case rel =>
          refine ⟨k + 1, by omega, by go_num, trivial, fun j hj => ?_⟩
          by_cases e : j = k
          · subst e; exact HE.out
          · exact HN.out j (by omega)
        case measure => simp [intOf]; omega
    · obtain rfl : len = k := by omega
      go_wp2_with fail
      go_ret
      refine ⟨_, rfl, rfl, ?_⟩
      have : zs.any (fun x => decide (x < 0)) = false := by
        rw [List.any_eq_false]
        intro x hx
        obtain ⟨j, hj, rfl⟩ := List.getElem_of_mem hx
        have := HN.out j (by rw [← HL.out]; exact hj)
        rw [List.getD_eq_getElem?_getD, List.getElem?_eq_getElem hj] at this
        simpa using this
      rw [this]; rfl
theorem any_neg (a : Option Addr) (len cap : Nat) (zs : List Int) (w : World) (h : Isl w .i64 a len cap zs) (hl : len ≤ 140737488355328) :
    Calls Try.prog 41 #[.slice a len cap, .func (.func 43) #[] #[]] w fun e w' => e = .returned (.bool (zs.any (fun x => decide (x < 0)))) ∧ w = w' := by
  have C := hide (index_neg a len cap zs w h hl)
  clear h
  go_enter Try.func41, Try.ntmps41
  go_wp2_with (go_at_call 51; (with_reducible refine C.out.mono ?_); rintro e w2 ⟨i, rfl, rfl, hi⟩)
  go_ret
  exact ⟨by rw [← hi]; rfl, rfl⟩
end Go.Proofs.Ytedpppkknmeheaa

