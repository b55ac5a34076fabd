/-
  Tensors of the call's own: Copy; Finite, both ways; are two the same. No condition.
-/
import Derived.Test.YtegofhmkebbinaaSh3
namespace Go.Proofs.Ytegofhmkebbinaa
open Go.RowKit

theorem row_mono {w : World} {B B' : Nat} {e : TypeId} {size n : Nat} {v : Value} {xs : List Value} (h : w.ownsRow B e size v n xs) (hb : B' ≤ B) : w.ownsRow B' e size v n xs :=
  ⟨h.1, h.2.imp id fun ⟨g, cap, cur, hv, hB, rest⟩ => ⟨g, cap, cur, hv, Nat.le_trans hb hB, rest⟩⟩
theorem row_keep {w w' : World} {B : Nat} {e : TypeId} {size n : Nat} {v : Value} {xs : List Value} (h : w.ownsRow B e size v n xs) (hk : ∀ g c, v.ownBlock = some g → w.heap[g]? = some (.cells c e (0, 0)) → w'.heap[g]? = w.heap[g]?) : w'.ownsRow B e size v n xs :=
  ⟨h.1, h.2.imp id fun ⟨g, cap, cur, hv, hB, hg, rest⟩ => ⟨g, cap, cur, hv, hB, (hk g cur (by rw [hv]; rfl) hg).trans hg, rest⟩⟩
theorem row_below {w w' : World} {B : Nat} {e : TypeId} {size n : Nat} {v : Value} {xs : List Value} (h : w.ownsRow B e size v n xs) (hb : Below w.heap.size w w') : w'.ownsRow B e size v n xs :=
  row_keep h fun g _ hg _ => hb.block g (h.lt g hg).2
/-- A tensor of the call's own: its shape's row, and its numbers'. -/
def Ten (B : Nat) (w : World) (a : Option Addr) (n c : Nat) (b : Option Addr) (m d : Nat) (S : List Int) (D : List Nat) : Prop := OwnI B w a n c S ∧ OwnF B w b m d D
section
variable {B : Nat} {w w' : World} {a b : Option Addr} {n c m d : Nat} {S : List Int} {D : List Nat}
theorem Ten.isl (t : Ten B w a n c b m d S D) : Isl w .i64 a n c S := by
  obtain ⟨a', c', e, h⟩ := Isl_of_own t.1
  cases e; exact h
theorem Ten.sl (t : Ten B w a n c b m d S D) : Fl.Sl w b m d D := by
  obtain ⟨a', c', e, h⟩ := Fl.Sl_of_own t.2
  cases e; exact h
theorem Ten.below (t : Ten B w a n c b m d S D) (h : Below w.heap.size w w') : Ten B w' a n c b m d S D := ⟨row_below t.1 h, row_below t.2 h⟩
theorem Ten.mono {B' : Nat} (t : Ten B w a n c b m d S D) (h : B' ≤ B) : Ten B' w a n c b m d S D := ⟨row_mono t.1 h, row_mono t.2 h⟩
theorem Ten.set {p : Addr} (t : Ten B w a n c b m d S D) (hp : p.block < B) (u : Value) : Ten B (w.setCell p u) a n c b m d S D := ⟨ownsRow_setCell_below t.1 hp u, ownsRow_setCell_below t.2 hp u⟩
theorem Ten.form (t : Ten B w a n c b m d S D) (h : 0 < m) : ∃ g, b = some ⟨g, 0, none⟩ ∧ B ≤ g ∧ g < w.heap.size ∧ ∃ cur, w.heap[g]? = some (.cells cur 43 (0, 0)) := by
  have t2 := t.2
  rcases t2.2 with ⟨_, h'⟩ | ⟨g, cap', cur, hv, hB, hg, _⟩
  · omega
  · have e : b = some ⟨g, 0, none⟩ := by injection hv
    subst e
    exact ⟨g, rfl, hB, (World.ownsRow.lt t.2 g rfl).2, cur, hg⟩
end

set_option maxHeartbeats 4000000 in
theorem copy_any (a : Option Addr) (n c : Nat) (b : Option Addr) (m d : Nat) (S : List Int) (D : List Nat) (w : World) (hS : Isl w .i64 a n c S) (hD : Fl.Sl w b m d D) (hn : n ≤ 1099511627776) (hm : m ≤ 1099511627776) :
    Calls Try.prog 21 #[.agg #[.slice a n c, .slice b m d]] w fun e w' => ∃ a' c' b' d', e = .returned (.agg #[.slice a' n c', .slice b' m d']) ∧ Ten w.heap.size w' a' n c' b' m d' S D ∧ Below w.heap.size w w' := by
  have HS := hide hS
  have HD := hide hD
  clear hS hD
  go_enter Try.func21, Try.ntmps21
  go_wp2_with fail
  have hb0 : Below w.heap.size w ((w.alloc (.cells #[.slice a n c, .slice b m d] 26)).alloc (.cells #[.slice none 0 0, .slice none 0 0] 26)) := ((Below.refl _ _).alloc (Nat.le_refl _) _).alloc (by simp) _
  have x0 : ((w.alloc (.cells #[.slice a n c, .slice b m d] 26)).alloc (.cells #[.slice none 0 0, .slice none 0 0] 26)).cell? ⟨w.heap.size, 0, none⟩ = some (.slice a n c) := by simp
  have x1 : ((w.alloc (.cells #[.slice a n c, .slice b m d] 26)).alloc (.cells #[.slice none 0 0, .slice none 0 0] 26)).cell? ⟨w.heap.size, 1, none⟩ = some (.slice b m d) := by simp
  have r0 : ((w.alloc (.cells #[.slice a n c, .slice b m d] 26)).alloc (.cells #[.slice none 0 0, .slice none 0 0] 26)).heap[w.heap.size + 1]? = some (.cells #[.slice none 0 0, .slice none 0 0] 26 (0, 0)) := by
    have := heap_alloc_new (w.alloc (.cells #[.slice a n c, .slice b m d] 26)) (.cells #[.slice none 0 0, .slice none 0 0] 26)
    simpa using this
  have l0 : ((w.alloc (.cells #[.slice a n c, .slice b m d] 26)).alloc (.cells #[.slice none 0 0, .slice none 0 0] 26)).heap.size = w.heap.size + 2 := by simp
  generalize (w.alloc (.cells #[.slice a n c, .slice b m d] 26)).alloc (.cells #[.slice none 0 0, .slice none 0 0] 26) = W0 at hb0 x0 x1 r0 l0 ⊢
  have C1 := hide (fun W h => clone_ints a n c S W (HS.out.later h) hn)
  have C2 := hide (fun W h => clone_floats b m d D W (HD.out.later h) hm)
  have HB0 := hide hb0
  have HR0 := hide r0
  have HX1 := hide x1
  have HL0 := hide l0
  clear hb0 r0 l0
  go_region_with (first
    | (go_at_call 37; refine (C1.out _ HB0.out.drew).mono ?_; rintro e w3 ⟨a', c', rfl, ho3, hb3⟩; have hx3 := cell_later hb3 (show W0.drew.cell? _ = _ from HX1.out); have hr3 := (hb3.block (w.heap.size + 1) (show _ < W0.heap.size by rw [HL0.out]; omega)).trans HR0.out; have hc30 : w3.cell? ⟨w.heap.size + 1, 0, none⟩ = some (.slice none 0 0) := cell_of_row w3 (w.heap.size + 1) 0 _ _ _ hr3; have hc31 : w3.cell? ⟨w.heap.size + 1, 1, none⟩ = some (.slice none 0 0) := cell_of_row w3 (w.heap.size + 1) 1 _ _ _ hr3; have hf30 := frozen_of_row w3 (w.heap.size + 1) 0 _ _ hr3; have hf31 := frozen_of_row w3 (w.heap.size + 1) 1 _ _ hr3; have HR3 := hide hr3; have HO3 : Hid (OwnI (w.heap.size + 2) w3 a' n c' S) := by { have h9 : W0.drew.heap.size = w.heap.size + 2 := HL0.out; rw [h9] at ho3; exact ho3 }; have HB3 := hide (HB0.out.drew.trans (hb3.mono HB0.out.size)); have HS3 : Hid (w.heap.size + 2 ≤ w3.heap.size) := (by rw [← HL0.out]; exact hb3.size); clear ho3 hb3 hr3)
    | (go_at_call 38; refine (C2.out w3 HB3.out).mono ?_; rintro e w4 ⟨b', d', rfl, ho4, hb4⟩; have hr4 := (hb4.block (w.heap.size + 1) (by have := HS3.out; omega)).trans HR3.out; have hc40 : w4.cell? ⟨w.heap.size + 1, 0, none⟩ = some (.slice none 0 0) := cell_of_row w4 (w.heap.size + 1) 0 _ _ _ hr4; have hc41 : w4.cell? ⟨w.heap.size + 1, 1, none⟩ = some (.slice none 0 0) := cell_of_row w4 (w.heap.size + 1) 1 _ _ _ hr4; have hf40 := frozen_of_row w4 (w.heap.size + 1) 0 _ _ hr4; have hf41 := frozen_of_row w4 (w.heap.size + 1) 1 _ _ hr4; have HT4 : Hid (Ten (w.heap.size + 2) w4 a' n c' b' m d' S D) := ⟨row_below HO3.out hb4, row_mono ho4 HS3.out⟩; have HB4 := hide (HB3.out.trans (hb4.mono HB3.out.size)); clear ho4 hb4 hr4))
  all_goals (
    go_wp2_with fail
    (try simp only [Exit.inBlock, Exit.then])
    refine bodyPost_ret (v := .agg #[.slice a' n c', .slice b' m d']) (by simp [results, Try.results21, go_sem, hc40, hc41]) rfl ?_
    refine ⟨a', c', b', d', rfl, ((HT4.out.set (by simp) _).set (by simp) _).mono (by omega), (HB4.out.setCell (by simp) _).setCell (by simp) _⟩)

theorem any_odd_index (a : Option Addr) (len cap : Nat) (xs : List Nat) (w : World) (h : Fl.Sl w a len cap xs) (hl : len ≤ 1099511627776) :
    Calls Try.prog 47 #[.slice a len cap, .func (.func 41) #[] #[]] w fun e w' => ∃ i : Int, e = .returned (.int .i64 i) ∧ w = w' ∧ decide (0 ≤ i) = Fl.oddAny xs := by
  have H := hide h
  have HL := hide h.1
  clear h
  go_enter Try.func47, Try.ntmps47
  go_wp2_with fail
  go_loopw [8] (fun i wr => ∃ k : Nat, k ≤ len ∧ i = .int .i64 k ∧ w = wr ∧ Hid (∀ j, j < k → Fl.oddC (Fl.can (xs.getD j 0)) = false)) (fun i _ => len - (intOf i).toNat)
  case atStart => exact ⟨0, Nat.zero_le _, rfl, rfl, fun j hj => by omega⟩
  case round =>
    obtain ⟨k, hk, rfl, rfl, HN⟩ := hrel
    by_cases hlt : k < len
    · obtain ⟨b, off, rfl, hc⟩ := H.out.at hlt
      obtain ⟨x, hx⟩ : ∃ x, xs.getD k 0 = x := ⟨_, rfl⟩
      rw [hx] at hc
      have HX := hide hx
      clear hx
      cases hb : Fl.oddC (Fl.can x) with
      | true =>
        have C := hide (odd_b x w true hb)
        have HE : Hid (Fl.oddC (Fl.can (xs.getD k 0)) = true) := by rw [HX.out]; exact hb
        clear hb
        go_wp2_with (go_at_call 41; (with_reducible refine C.out.mono ?_); rintro e w2 ⟨rfl, rfl⟩)
        go_ret
        refine ⟨_, rfl, rfl, ?_⟩
        unfold Fl.oddAny
        rw [List.any_eq_true.2 ⟨Fl.can (xs.getD k 0), by rw [List.getD_eq_getElem?_getD, List.getElem?_eq_getElem (by rw [HL.out]; exact hlt)]; exact List.mem_map_of_mem (List.getElem_mem _), HE.out⟩]
        simp
      | false =>
        have C := hide (odd_b x w false hb)
        have HE : Hid (Fl.oddC (Fl.can (xs.getD k 0)) = false) := by rw [HX.out]; exact hb
        clear hb
        go_wp2_with (go_at_call 41; (with_reducible refine C.out.mono ?_); rintro e w2 ⟨rfl, rfl⟩)
        go_roundw
        case rel =>
          refine ⟨k + 1, by omega, by go_num, trivial, fun j hj => ?_⟩
          by_cases e : j = k
          · subst e; exact HE.out
          · exact HN.out j (by omega)
        case measure => simp [intOf]; omega
    · obtain rfl : len = k := by omega
      go_wp2_with fail
      go_ret
      refine ⟨_, rfl, rfl, ?_⟩
      have : Fl.oddAny xs = false := by
        unfold Fl.oddAny
        rw [List.any_eq_false]
        intro y hy
        obtain ⟨x, hx, rfl⟩ := List.mem_map.1 hy
        obtain ⟨j, hj, rfl⟩ := List.getElem_of_mem hx
        have := HN.out j (by rw [← HL.out]; exact hj)
        rw [List.getD_eq_getElem?_getD, List.getElem?_eq_getElem hj] at this
        simpa using this
      rw [this]; rfl
theorem any_odd (a : Option Addr) (len cap : Nat) (xs : List Nat) (w : World) (h : Fl.Sl w a len cap xs) (hl : len ≤ 1099511627776) :
    Calls Try.prog 40 #[.slice a len cap, .func (.func 41) #[] #[]] w fun e w' => e = .returned (.bool (Fl.oddAny xs)) ∧ w = w' := by
  have C := hide (any_odd_index a len cap xs w h hl)
  clear h
  go_enter Try.func40, Try.ntmps40
  go_wp2_with (go_at_call 47; (with_reducible refine C.out.mono ?_); rintro e w2 ⟨i, rfl, rfl, hi⟩)
  go_ret
  exact ⟨by rw [← hi]; rfl, rfl⟩
/-- Finite: of a tensor that may be. -/
theorem finite_any (a : Option Addr) (n c : Nat) (b : Option Addr) (m d : Nat) (S : List Int) (D : List Nat) (w : World) (hS : Isl w .i64 a n c S) (hD : Fl.Sl w b m d D) (hn : n ≤ 1099511627776) (hm : m ≤ 1099511627776) (hmay : mayB S m = true) :
    Calls Try.prog 26 #[.agg #[.slice a n c, .slice b m d]] w fun e w' => e = .returned (.bool (!Fl.oddAny D)) ∧ Below w.heap.size w w' := by
  have hb0 : Below w.heap.size w (w.alloc (.cells #[.slice a n c, .slice b m d] 26)) := (Below.refl _ _).alloc (Nat.le_refl _) _
  have C1 := hide (may_any a n c b m d S _ (hS.later hb0) hn)
  rw [hmay] at C1
  have C2 := hide (fun W h => any_odd b m d D W (hD.later h) hm)
  have HB := hide hb0
  clear hS hD hb0
  go_enter Try.func26, Try.ntmps26
  go_wp2_with fail
  refine C1.out.mono ?_
  rintro e w2 ⟨rfl, hb2⟩
  have hc1 := cell_later hb2 (show _ = some (.slice b m d) from World.cell?_alloc_new w #[.slice a n c, .slice b m d] 26 1)
  have HB2 := hide (HB.out.trans (hb2.mono HB.out.size))
  have C3 := hide (C2.out w2 HB2.out)
  clear hb2
  go_wp2_with (go_at_call 40; (with_reducible refine C3.out.mono ?_); rintro e w3 ⟨rfl, rfl⟩)
  go_ret
  exact ⟨rfl, HB2.out⟩
end Go.Proofs.Ytegofhmkebbinaa
