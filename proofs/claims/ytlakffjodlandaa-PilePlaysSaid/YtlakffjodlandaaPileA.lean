/-
  slices.IndexFunc and slices.DeleteFunc over a pile's row, with the closure of Drop; container/heap's Init. No condition.
-/
import Derived.Test.YtlakffjodlandaaPile7
import Derived.Laws.CopyRow
namespace Go.Proofs.Ytlakffjodlandaa
open Go.RowKit
attribute [local go_sem] m_less m_swap m_len m_push m_pop

theorem del_any (c : Nat) (id : Int) (x : It) (w : World) (hc : w.cell? ⟨c, 0, none⟩ = some (.int .i64 id)) :
    Calls Try.prog 21 #[.agg #[.int .i64 x.id, .int .i64 x.rank, .int .i64 x.at_], .pointer (some ⟨c, 0, none⟩)] w fun e w' => e = .returned (.bool (x.id == id)) ∧ Below w.heap.size w w' := by
  have hl : c < w.heap.size := World.block_lt_of_cell? w ⟨c, 0, none⟩ hc
  go_enter Try.func21, Try.ntmps21
  go_wp2_with fail
  go_ret
  exact ⟨rfl, (Below.refl _ _).alloc (Nat.le_refl _) _⟩
theorem del_row {h n cap c k : Nat} {id : Int} {xs : List It} {w : World} (_r : RowM w h cap xs) (_hk : k < n) (hc : w.cell? ⟨c, 0, none⟩ = some (.int .i64 id)) (b : Bool) (hb : ((fn xs k).id == id) = b) :
    Calls Try.prog 21 #[.agg #[.int .i64 (fn xs k).id, .int .i64 (fn xs k).rank, .int .i64 (fn xs k).at_], .pointer (some ⟨c, 0, none⟩)] w fun e w' => e = .returned (.bool b) ∧ Below w.heap.size w w' := by
  subst hb; exact del_any c id _ w hc

set_option maxHeartbeats 2000000 in
theorem index_any (h n cap c : Nat) (id : Int) (xs : List It) (w : World) (r : RowM w h cap xs) (hl : xs.length = n) (hn : n ≤ 1099511627776) (hc : w.cell? ⟨c, 0, none⟩ = some (.int .i64 id)) :
    Calls Try.prog 25 #[.slice (some ⟨h, 0, none⟩) n cap, .func (.func 21) #[] #[.pointer (some ⟨c, 0, none⟩)]] w fun e w' =>
      ∃ i : Int, e = .returned (.int .i64 i) ∧ Below w.heap.size w w' ∧ ((i = -1 ∧ ∀ k, k < n → (fn xs k).id ≠ id) ∨ ∃ j : Nat, i = j ∧ j < n ∧ (fn xs j).id = id ∧ ∀ k, k < j → (fn xs k).id ≠ id) := by
  have HR := hide r
  have HL := hide hl
  clear r hl
  go_enter Try.func25, Try.ntmps25
  go_wp2_with fail
  go_loopw [8] (fun i wr => ∃ k : Nat, k ≤ n ∧ i = .int .i64 k ∧ Below w.heap.size w wr ∧ Hid (∀ j, j < k → (fn xs j).id ≠ id)) (fun i _ => n - (intOf i).toNat)
  case atStart => exact ⟨0, Nat.zero_le _, rfl, Below.refl _ _, fun j hj => by omega⟩
  case round =>
    obtain ⟨k, hk, rfl, hbel, HN⟩ := hrel
    have hcr := cell_later hbel hc
    have HROW := hide (HR.out.below hbel)
    have HB := hide hbel
    clear hbel
    by_cases hlt : k < n
    · obtain ⟨x1, x2, x3⟩ := HROW.out.at_ (k := k) (by rw [HL.out]; exact hlt)
      cases hb : ((fn xs k).id == id) with
      | true =>
        have C := hide (del_row HROW.out hlt hcr true hb)
        have HE := hide hb
        clear hb
        go_wp2_with (go_at_call 21; (with_reducible refine C.out.mono ?_); rintro e w2 ⟨rfl, hb2⟩)
        go_ret
        exact ⟨_, rfl, HB.out.trans (hb2.mono HB.out.size), .inr ⟨k, rfl, hlt, by simpa using HE.out, HN.out⟩⟩
      | false =>
        have C := hide (del_row HROW.out hlt hcr false hb)
        have HE := hide hb
        clear hb
        go_wp2_with (go_at_call 21; (with_reducible refine C.out.mono ?_); rintro e w2 ⟨rfl, hb2⟩; have HB2 := hide hb2; clear hb2)
        go_roundw
        case rel =>
          refine ⟨k + 1, by omega, by go_num, HB.out.trans (HB2.out.mono HB.out.size), fun j hj => ?_⟩
          by_cases e : j = k
          · subst e; simpa using HE.out
          · exact HN.out j (by omega)
        case measure => simp [intOf]; omega
    · obtain rfl : k = n := by omega
      go_wp2_with fail
      go_ret
      exact ⟨-1, rfl, HB.out, .inl ⟨rfl, HN.out⟩⟩

theorem clear_row {w : World} {h cap i n : Nat} {zs : List It} (r : RowM w h cap zs) (hl : zs.length = n) (hi : i < n) :
    ∃ w', (∀ ty, (Builtin.clear_ #[54] ty #[.slice (some ⟨h, i * 3, none⟩) (n - i) (cap - i)]).run Try.prog w = .ok (.tuple #[]) w') ∧ RowM w' h cap (zs.take i) ∧ Only (· = h) w w' := by
  obtain ⟨i0, hi0, hz0, _, _⟩ := info_parts item_info
  have hzv : ∀ W, (zeroValue 60).run Try.prog W = .ok (.agg #[.int .i64 0, .int .i64 0, .int .i64 0]) W := fun W => by simp [zeroValue, typeInfo, hi0, hz0]
  obtain ⟨cur, hc, hs, hcap, hx⟩ := r
  have hsz : (Builtin.zeroCells #[.int .i64 0, .int .i64 0, .int .i64 0] (n - i)).toList.length = (n - i) * 3 := by
    have := size_zeroCells #[.int .i64 0, .int .i64 0, .int .i64 0] (n - i)
    rw [Array.length_toList, this]; rfl
  have h1 : ∀ v ∈ (Builtin.zeroCells #[.int .i64 0, .int .i64 0, .int .i64 0] (n - i)).toList, v.oneCell' = true := by
    intro v hv
    simp [Builtin.zeroCells] at hv
    obtain ⟨a, _, e⟩ := hv
    have : a % 3 = 0 ∨ a % 3 = 1 ∨ a % 3 = 2 := by omega
    rcases this with h | h | h <;> simp [h] at e <;> subst e <;> rfl
  have hst := run_storeCells_at (P := Try.prog) h (i * 3) 60 (Builtin.zeroCells #[.int .i64 0, .int .i64 0, .int .i64 0] (n - i)).toList 0 cur w hc (by rw [hsz, hs]; omega) h1
  simp only [Nat.add_zero] at hst
  generalize hzl : (Builtin.zeroCells #[.int .i64 0, .int .i64 0, .int .i64 0] (n - i)).toList = zl at *
  refine ⟨w.setRow h (cur.toList.take (i * 3) ++ zl ++ cur.toList.drop (i * 3 + zl.length)).toArray, fun ty => ?_, ?_, ?_⟩
  · obtain ⟨m, hm⟩ : ∃ m, n - i = m + 1 := ⟨n - i - 1, by omega⟩
    rw [hm] at hzl ⊢
    simp [Builtin.clear_, run_underlying Try.underlying54, hzv, Value.cells, hzl, hst]
  · exact ⟨(cur.toList.take (i * 3) ++ zl ++ cur.toList.drop (i * 3 + zl.length)).toArray, by unfold World.setRow; simp [Array.getElem?_modify, hc], by simp [hsz, hs]; omega, by rw [List.length_take]; omega, fun k hk => by
      rw [List.length_take] at hk
      have e : fn (zs.take i) k = fn zs k := by simp [fn, List.getD, show k < i from by omega]
      rw [e]
      obtain ⟨g1, g2, g3⟩ := hx k (by omega)
      have key : ∀ p, p < i * 3 → (cur.toList.take (i * 3) ++ zl ++ cur.toList.drop (i * 3 + zl.length)).toArray[p]? = cur[p]? := fun p hp => by
        rw [List.getElem?_toArray, List.append_assoc, List.getElem?_append_left (by rw [List.length_take, Array.length_toList]; omega), List.getElem?_take, if_pos (by omega), Array.getElem?_toList]
      exact ⟨by rw [key _ (by omega)]; exact g1, by rw [key _ (by omega)]; exact g2, by rw [key _ (by omega)]; exact g3⟩⟩
  · exact ⟨rfl, rfl, rfl, by unfold World.setRow; simp, fun k _ hne => by unfold World.setRow; simp [Array.getElem?_modify, show ¬ h = k from fun e => hne e.symm]⟩
end Go.Proofs.Ytlakffjodlandaa
