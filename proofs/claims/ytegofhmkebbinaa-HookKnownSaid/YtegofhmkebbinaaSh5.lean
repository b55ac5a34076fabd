/-
  The document's Finite; are two tensors the same; stores into a tensor of the call's own. No condition.
-/
import Derived.Test.YtegofhmkebbinaaSh4
namespace Go.Proofs.Ytegofhmkebbinaa
open Go.RowKit

/-- What a block of two cells holds. -/
theorem two_cells {w : World} {g : Nat} {x y : Value} {t : TypeId} (h : w.heap[g]? = some (.cells #[x, y] t (0, 0))) : w.cell? ⟨g, 0, none⟩ = some x ∧ w.cell? ⟨g, 1, none⟩ = some y ∧ w.frozen? ⟨g, 0, none⟩ = false ∧ w.frozen? ⟨g, 1, none⟩ = false :=
  ⟨cell_of_row w g 0 _ _ _ h, cell_of_row w g 1 _ _ _ h, frozen_of_row w g 0 _ _ h, frozen_of_row w g 1 _ _ h⟩

theorem isinf_b (x : Nat) (w : World) (b : Bool) (h : Fl.infB x = b) : Calls Try.prog 42 #[.float .f64 x, .int .i64 0] w fun e w' => e = .returned (.bool b) ∧ w = w' := by
  subst h; exact isinf_any x w
theorem oddAny_true {D : List Nat} {k : Nat} (hk : k < D.length) (h : Fl.oddC (Fl.can (D.getD k 0)) = true) : Fl.oddAny D = true := by
  unfold Fl.oddAny
  exact List.any_eq_true.2 ⟨Fl.can (D.getD k 0), by rw [List.getD_eq_getElem?_getD, List.getElem?_eq_getElem hk]; exact List.mem_map_of_mem (List.getElem_mem _), h⟩
theorem oddAny_false {D : List Nat} (h : ∀ j, j < D.length → Fl.oddC (Fl.can (D.getD j 0)) = false) : Fl.oddAny D = false := by
  unfold Fl.oddAny
  rw [List.any_eq_false]
  intro y hy
  obtain ⟨x, hx, rfl⟩ := List.mem_map.1 hy
  obtain ⟨j, hj, rfl⟩ := List.getElem_of_mem hx
  have := h j hj
  rw [List.getD_eq_getElem?_getD, List.getElem?_eq_getElem hj] at this
  simpa using this

theorem refsame_at (x y : Nat) (w : World) (h : Fl.can x = Fl.can y) : Calls Try.prog 29 #[.float .f64 x, .float .f64 y] w fun e w' => e = .returned (.bool true) ∧ w = w' := refsame_eq x y w h
set_option maxHeartbeats 4000000 in
theorem same_tensor (a : Option Addr) (n c : Nat) (b : Option Addr) (m d : Nat) (a' : Option Addr) (c' : Nat) (b' : Option Addr) (d' : Nat) (S : List Int) (D D' : List Nat) (w : World) (hS : Isl w .i64 a n c S) (hD : Fl.Sl w b m d D) (hS' : Isl w .i64 a' n c' S) (hD' : Fl.Sl w b' m d' D') (hn : n ≤ 1099511627776) (hm : m ≤ 1099511627776) (he : D.map Fl.can = D'.map Fl.can) :
    Calls Try.prog 11 #[.agg #[.slice a n c, .slice b m d], .agg #[.slice a' n c', .slice b' m d']] w fun e w' => e = .returned (.bool true) ∧ Below w.heap.size w w' := by
  have hb0 : Below w.heap.size w ((w.alloc (.cells #[.slice a n c, .slice b m d] 26)).alloc (.cells #[.slice a' n c', .slice b' m d'] 26)) := ((Below.refl _ _).alloc (Nat.le_refl _) _).alloc (by simp) _
  have x0 : ((w.alloc (.cells #[.slice a n c, .slice b m d] 26)).alloc (.cells #[.slice a' n c', .slice b' m d'] 26)).cell? ⟨w.heap.size, 0, none⟩ = some (.slice a n c) := by simp
  have x1 : ((w.alloc (.cells #[.slice a n c, .slice b m d] 26)).alloc (.cells #[.slice a' n c', .slice b' m d'] 26)).cell? ⟨w.heap.size, 1, none⟩ = some (.slice b m d) := by simp
  have y0 : ((w.alloc (.cells #[.slice a n c, .slice b m d] 26)).alloc (.cells #[.slice a' n c', .slice b' m d'] 26)).cell? ⟨w.heap.size + 1, 0, none⟩ = some (.slice a' n c') := by simp
  have y1 : ((w.alloc (.cells #[.slice a n c, .slice b m d] 26)).alloc (.cells #[.slice a' n c', .slice b' m d'] 26)).cell? ⟨w.heap.size + 1, 1, none⟩ = some (.slice b' m d') := by simp
  have hcan : ∀ k, k < m → Fl.can (D.getD k 0) = Fl.can (D'.getD k 0) := fun k hk => by
    have h1 := congrArg (·[k]?) he
    simp only [List.getElem?_map] at h1
    have l1 := hD.1
    have l2 := hD'.1
    rw [List.getElem?_eq_getElem (by omega), List.getElem?_eq_getElem (by omega)] at h1
    rw [List.getD_eq_getElem?_getD, List.getD_eq_getElem?_getD, List.getElem?_eq_getElem (by omega), List.getElem?_eq_getElem (by omega)]
    simpa using h1
  have HC := hide hcan
  have HD := hide (hD.later hb0)
  have HD' := hide (hD'.later hb0)
  have HS := hide (hS.later hb0)
  have HS' := hide (hS'.later hb0)
  have HB0 := hide hb0
  have HX1 := hide x1
  have HY1 := hide y1
  clear hS hD hS' hD' hb0 he hcan
  go_enter Try.func11, Try.ntmps11
  go_wp2_with fail
  generalize hW0 : (w.alloc (.cells #[.slice a n c, .slice b m d] 26)).alloc (.cells #[.slice a' n c', .slice b' m d'] 26) = W0 at HB0 HX1 HY1 x0 x1 y0 y1 HD HD' HS HS' ⊢
  clear hW0
  refine (same_ints a n c S a' c' W0 HS.out HS'.out hn).mono ?_
  rintro e w2 ⟨rfl, hb2⟩
  have z1 := cell_later hb2 HX1.out
  have z2 := cell_later hb2 HY1.out
  have HB2 := hide hb2
  clear x0 x1 y0 y1 hb2
  go_wp2_with fail
  go_loopw [5] (fun i wr => ∃ k : Nat, k ≤ m ∧ i = .int .i64 k ∧ Below W0.heap.size W0 wr) (fun i _ => m - (intOf i).toNat)
  case atStart => exact ⟨0, Nat.zero_le _, rfl, HB2.out⟩
  case round =>
    obtain ⟨k, hk, rfl, hbel⟩ := hrel
    have hx1 := cell_later hbel HX1.out
    have hy1 := cell_later hbel HY1.out
    clear z1 z2
    by_cases hlt : k < m
    · obtain ⟨g, off, rfl, hc⟩ := HD.out.at hlt
      obtain ⟨g', off', rfl, hc'⟩ := HD'.out.at hlt
      have hcr := cell_later hbel hc
      have hcr' := cell_later hbel hc'
      have hxy := HC.out k hlt
      obtain ⟨x, hx⟩ : ∃ x, D.getD k 0 = x := ⟨_, rfl⟩
      obtain ⟨y, hy⟩ : ∃ y, D'.getD k 0 = y := ⟨_, rfl⟩
      rw [hx, hy] at hxy
      rw [hx] at hcr
      rw [hy] at hcr'
      have C := hide (fun W => refsame_at x y W hxy)
      have HBE := hide hbel
      have hk0 : (0 : Int) ≤ (k : Int) := by omega
      have hk1 : (k : Int) < (m : Int) := by omega
      clear hx hy hxy hc hc' hbel
      go_wp2_with fail
      go_region_with (go_at_call 29; refine (C.out _).mono ?_; rintro e w2 ⟨rfl, rfl⟩)
      all_goals (
        go_wp2_with fail
        go_roundw
        case rel => exact ⟨k + 1, by omega, by go_num, below_drewN HBE.out _⟩
        case measure => simp [intOf]; omega)
    · obtain rfl : m = k := by omega
      go_wp2_with fail
      go_ret
      exact ⟨rfl, HB0.out.trans (hbel.mono HB0.out.size)⟩
end Go.Proofs.Ytegofhmkebbinaa
