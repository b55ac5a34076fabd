/-
  A pile's row and 'append'; (*row).Push and (*row).Pop by their contracts. No condition.
-/
import Derived.Test.YtlakffjodlandaaPile3
import Derived.Test.YtlakffjodlandaaApp
import Derived.Deep.RegionLaw
import Derived.Deep.AppendLies
import Derived.ChangeSlices
namespace Go.Proofs.Ytlakffjodlandaa
open Go.RowKit

def cells3 (x : It) : List Value := [.int .i64 x.id, .int .i64 x.rank, .int .i64 x.at_]
def flat (xs : List It) : List Value := xs.flatMap cells3
theorem flat_snoc (xs : List It) (x : It) : flat (xs ++ [x]) = flat xs ++ cells3 x := by simp [flat]
theorem flat_length (xs : List It) : (flat xs).length = xs.length * 3 := by
  induction xs with
  | nil => rfl
  | cons x xs ih =>
    have : flat (x :: xs) = cells3 x ++ flat xs := by simp [flat]
    rw [this, List.length_append, ih]; simp [cells3]; omega
theorem flat_get (xs : List It) : ∀ k, k < xs.length → (flat xs)[k * 3]? = some (.int .i64 (fn xs k).id) ∧ (flat xs)[k * 3 + 1]? = some (.int .i64 (fn xs k).rank) ∧ (flat xs)[k * 3 + 2]? = some (.int .i64 (fn xs k).at_) := by
  induction xs with
  | nil => intro k hk; simp at hk
  | cons x xs ih =>
    intro k hk
    have e : flat (x :: xs) = cells3 x ++ flat xs := by simp [flat]
    cases k with
    | zero => rw [e]; simp [cells3, fn]
    | succ k =>
      have h := ih k (by simpa using hk)
      have f : fn (x :: xs) (k + 1) = fn xs k := by simp [fn]
      have hg : ∀ j, (cells3 x ++ flat xs)[(k + 1) * 3 + j]? = (flat xs)[k * 3 + j]? := fun j => by
        rw [List.getElem?_append_right (by simp [cells3]; omega)]
        congr 1
        simp [cells3]; omega
      rw [e, f]
      exact ⟨by have := hg 0; simp only [Nat.add_zero] at this; rw [this]; exact h.1, by rw [hg 1]; exact h.2.1, by rw [hg 2]; exact h.2.2⟩

theorem RowM.own {w : World} {base h cap : Nat} {xs : List It} (r : RowM w h cap xs) (hb : base ≤ h) (hc : cap ≤ maxLen) : w.ownsRow base 60 3 (.slice (some ⟨h, 0, none⟩) xs.length cap) xs.length (flat xs) := by
  obtain ⟨cur, hh, hs, hl, hx⟩ := r
  refine ⟨flat_length xs, .inr ⟨h, cap, cur, rfl, hb, hh, hl, hc, hs, ?_⟩⟩
  apply List.ext_getElem?
  intro p
  by_cases hp : p < xs.length * 3
  · rw [List.getElem?_take, if_pos hp]
    have hk : p / 3 < xs.length := by omega
    obtain ⟨g1, g2, g3⟩ := hx (p / 3) hk
    obtain ⟨f1, f2, f3⟩ := flat_get xs (p / 3) hk
    have hm : p % 3 = 0 ∨ p % 3 = 1 ∨ p % 3 = 2 := by omega
    rw [Array.getElem?_toList]
    rcases hm with hm | hm | hm
    · rw [show p = p / 3 * 3 by omega, g1, f1]
    · rw [show p = p / 3 * 3 + 1 by omega, g2, f2]
    · rw [show p = p / 3 * 3 + 2 by omega, g3, f3]
  · rw [List.getElem?_eq_none (by rw [List.length_take]; omega), List.getElem?_eq_none (by rw [flat_length]; omega)]
theorem RowM.of_own {w : World} {base : Nat} {v : Value} {n : Nat} {xs : List It} (h : w.ownsRow base 60 3 v n (flat xs)) (h0 : 0 < xs.length) :
    ∃ g cap, v = .slice (some ⟨g, 0, none⟩) xs.length cap ∧ base ≤ g ∧ cap ≤ maxLen ∧ RowM w g cap xs ∧ n = xs.length := by
  have hn : n = xs.length := by have := h.1; rw [flat_length] at this; omega
  subst hn
  rcases h.2 with ⟨_, h1⟩ | ⟨g, cap, cur, rfl, hb, hh, hl, hc, hs, ht⟩
  · omega
  · refine ⟨g, cap, rfl, hb, hc, ⟨cur, hh, hs, hl, fun k hk => ?_⟩, rfl⟩
    obtain ⟨f1, f2, f3⟩ := flat_get xs k hk
    have key : ∀ p, p < xs.length * 3 → cur[p]? = (flat xs)[p]? := fun p hp => by
      rw [← ht, List.getElem?_take, if_pos hp, Array.getElem?_toList]
    exact ⟨by rw [key _ (by omega)]; exact f1, by rw [key _ (by omega)]; exact f2, by rw [key _ (by omega)]; exact f3⟩

theorem item_info : (Try.prog.info? 60).map (fun i => (i.zero, i.size, i.bytes)) = some (some (.agg #[.int .i64 0, .int .i64 0, .int .i64 0]), 3, 24) := by kernel_rfl

theorem cells3_one (x : It) : ∀ u ∈ cells3 x, u.oneCell' = true := by
  intro u hu
  simp [cells3] at hu
  rcases hu with rfl | rfl | rfl <;> rfl
theorem src3 (w : World) (o : Obj) (x : It) (t : TypeId) : Src ((w.alloc o).alloc (.cells #[.int .i64 x.id, .int .i64 x.rank, .int .i64 x.at_] t)).drew (some ⟨w.heap.size + 1, 0, none⟩) 1 1 3 (cells3 x) := by
  have hb : (w.alloc o).heap.size = w.heap.size + 1 := by simp
  refine ⟨rfl, .inr ⟨_, rfl, fun j u hj => ?_⟩⟩
  rw [← hb]
  have key : ∀ k, ((w.alloc o).alloc (.cells #[.int .i64 x.id, .int .i64 x.rank, .int .i64 x.at_] t)).drew.cell? ⟨(w.alloc o).heap.size, k, none⟩ = (#[Value.int .i64 x.id, .int .i64 x.rank, .int .i64 x.at_])[k]? := fun k => World.cell?_alloc_new (w.alloc o) _ _ k
  rw [Go.WideShapes.add_plain, Nat.zero_add, key, ← Array.getElem?_toList]
  exact hj

theorem run_assert (v : Value) (w : World) : (Instr.typeAssert (.iface 60 v) 20 60 true).run Try.prog w = .ok (.tuple #[v, .bool true]) w := by
  simp [Instr.typeAssert, run_underlying Try.underlying60]

theorem grown_cell {w w' : World} {row : Option Nat} (hg : w.grownBy w' row) {g k : Nat} (hl : g < w.heap.size) (hne : row ≠ some g) : w'.cell? ⟨g, k, none⟩ = w.cell? ⟨g, k, none⟩ ∧ w'.frozen? ⟨g, k, none⟩ = w.frozen? ⟨g, k, none⟩ :=
  ⟨World.cell?_of_block (hg.block g hl (fun e => hne e.symm)), World.frozen?_of_block (hg.block g hl (fun e => hne e.symm))⟩

theorem grown_two {w w1 : World} {a b : Obj} {row : Option Nat} (h : ((w.alloc a).alloc b).drew.grownBy w1 row) : w.grownBy w1 row :=
  ⟨h.os, h.tape, h.output, by have := h.size; simp at this; omega, fun k hk hne => (h.block k (by simp; omega) hne).trans ((Below.heap_alloc (w.alloc a) b k (by simp; omega)).trans (Below.heap_alloc w a k hk))⟩

theorem at_or {A : Option Addr} {n cap h' len cap' : Nat} {w W : World} (e : (Value.slice (some ⟨h', 0, none⟩) len cap').ownBlock = (Value.slice A n cap).ownBlock ∨ (Value.slice (some ⟨h', 0, none⟩) len cap').ownBlock = some W.heap.size)
    (hW : w.heap.size ≤ W.heap.size) : (Value.slice A n cap).ownBlock = some h' ∨ w.heap.size ≤ h' := by
  rcases e with e | e
  · left; rw [← e]; rfl
  · right
    have : h' = W.heap.size := by simpa [Value.ownBlock] using e
    omega

set_option maxHeartbeats 4000000 in
theorem push_row (g n cap : Nat) (A : Option Addr) (x : It) (w : World) (hs : w.cell? ⟨g, 0, none⟩ = some (.slice A n cap)) (hf : w.frozen? ⟨g, 0, none⟩ = false) (hne : (Value.slice A n cap).ownBlock ≠ some g) (xs : List It) (base : Nat) (hbase : base ≤ w.heap.size)
    (hown : w.ownsRow base 60 3 (.slice A n cap) n (flat xs)) (hn : n ≤ 1099511627776) :
    Calls Try.prog 46 #[.pointer (some ⟨g, 0, none⟩), .iface 60 (.agg #[.int .i64 x.id, .int .i64 x.rank, .int .i64 x.at_])] w fun e w' =>
      e = .returned (.tuple #[]) ∧ ∃ h' cap' w1, base ≤ h' ∧ cap' ≤ maxLen ∧ h' ≠ g ∧ RowM w1 h' cap' (xs ++ [x]) ∧ n = xs.length ∧ w.grownBy w1 (Value.slice A n cap).ownBlock ∧ ((Value.slice A n cap).ownBlock = some h' ∨ w.heap.size ≤ h') ∧ w' = w1.setCell ⟨g, 0, none⟩ (.slice (some ⟨h', 0, none⟩) (xs.length + 1) cap') := by
  obtain ⟨i0, hi, hz0, hz1, hz2⟩ := info_parts item_info
  have hgl : g < w.heap.size := World.block_lt_of_cell? w ⟨g, 0, none⟩ hs
  have HO := hide hown
  have HN := hide hne
  have HNX := hide (show n = xs.length from by have := hown.1; rw [flat_length] at this; omega)
  clear hown hne
  have ha := run_assert
  go_enter Try.func46, Try.ntmps46
  go_wp2_with fail
  go_region_law (refine step_append_at rfl (.tmp 15) (.tmp 17) 54 rfl base 60 i0 (.agg #[.int .i64 0, .int .i64 0, .int .i64 0]) 3 24 Try.underlying54 hi hz0 hz1 hz2 rfl (by decide) (.slice A n cap) n (flat xs) (by simp [Act.eval]) (((HO.out.alloc _).alloc _).drew) (some ⟨w.heap.size + 1, 0, none⟩) 1 1 (cells3 x) (by simp [Act.eval]) (src3 _ _ _ _) (cells3_one x) (by unfold maxLen; omega) (by omega) (by simp; omega) ?_; intro v' w1 hown' hgrow' hat'; rw [← flat_snoc] at hown'; obtain ⟨h', cap', hv', hb', hcm, hrow', hlen⟩ := RowM.of_own hown' (by simp); subst hv'; have hat2 := at_or (w := w) hat' (by simp; omega); have hgr2 := grown_two hgrow'; have hcf := grown_cell (k := 0) hgr2 hgl HN.out; have hs' : w1.cell? ⟨g, 0, none⟩ = some (.slice A n cap) := hcf.1.trans hs; have hf' : w1.frozen? ⟨g, 0, none⟩ = false := hcf.2.trans hf; have HR' := hide hrow'; have HGR := hide hgr2; have HB' := hide hb'; have HCM := hide hcm; have HLN := hide hlen; have HAT := hide hat2; clear hat' hat2 hrow' hgrow' hgr2 hb' hcm hlen hown' hcf)
  all_goals
    go_end0
    refine ⟨rfl, h', cap', w1, HB'.out, HCM.out, ?_, HR'.out, HNX.out, HGR.out, HAT.out, ?_⟩
    · rintro rfl
      have h1 := (HR'.out.at_ (k := 0) (by simp)).1
      rw [Nat.zero_mul, hs'] at h1
      cases h1
    · simp

set_option maxHeartbeats 4000000 in
theorem pop_row (g h m cap : Nat) (xs : List It) (w : World) (_hgh : h ≠ g) (hs : w.cell? ⟨g, 0, none⟩ = some (.slice (some ⟨h, 0, none⟩) (m + 1) cap)) (hf : w.frozen? ⟨g, 0, none⟩ = false) (r : RowM w h cap xs) (hl : xs.length = m + 1) (hm : m ≤ 1099511627776) (hc : m + 1 ≤ cap) :
    Calls Try.prog 45 #[.pointer (some ⟨g, 0, none⟩)] w fun e w' =>
      e = .returned (.iface 60 (.agg #[.int .i64 (fn xs m).id, .int .i64 (fn xs m).rank, .int .i64 (fn xs m).at_])) ∧ ∃ o, w' = (w.setCell ⟨g, 0, none⟩ (.slice (some ⟨h, 0, none⟩) m cap)).alloc o := by
  have hgl : g < w.heap.size := World.block_lt_of_cell? w ⟨g, 0, none⟩ hs
  have hhl : h < w.heap.size := r.lt
  obtain ⟨x1, x2, x3⟩ := r.at_ (k := m) (by omega)
  have hc' : ¬ (cap = m) := by omega
  clear r hl
  go_enter Try.func45, Try.ntmps45
  go_wp2_with fail
  go_ret
  exact ⟨rfl, _, rfl⟩
end Go.Proofs.Ytlakffjodlandaa
