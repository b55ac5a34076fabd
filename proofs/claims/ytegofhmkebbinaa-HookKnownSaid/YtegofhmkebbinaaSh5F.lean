/-
  The document's Finite. No condition.
-/
import Derived.Test.YtegofhmkebbinaaSh5
namespace Go.Proofs.Ytegofhmkebbinaa
open Go.RowKit

set_option maxHeartbeats 4000000 in
theorem finite_ref (a : Option Addr) (n c : Nat) (b : Option Addr) (m d : Nat) (S : List Int) (D : List Nat) (w : World) (hS : Isl w .i64 a n c S) (hD : Fl.Sl w b m d D) (hn : n ≤ 1099511627776) (hm : m ≤ 1099511627776) (hmay : mayB S m = true) :
    Calls Try.prog 27 #[.agg #[.slice a n c, .slice b m d]] w fun e w' => e = .returned (.bool (!Fl.oddAny D)) ∧ Below w.heap.size w w' := by
  have hb0 : Below w.heap.size w (w.alloc (.cells #[.slice a n c, .slice b m d] 26)) := (Below.refl _ _).alloc (Nat.le_refl _) _
  have x0 := two_cells (heap_alloc_new w (.cells #[.slice a n c, .slice b m d] 26))
  have HX0 := hide x0
  have HS := hide hS
  have HD := hide hD
  have HL := hide hD.1
  have HB0 := hide hb0
  clear hS hD hb0 x0
  go_enter Try.func27, Try.ntmps27
  go_wp2_with fail
  generalize hW0 : w.alloc (.cells #[.slice a n c, .slice b m d] 26) = W0 at HB0 HX0 ⊢
  clear hW0
  go_loopw [3] (fun i wr => ∃ k : Nat, k ≤ m ∧ i = .int .i64 k ∧ Below W0.heap.size W0 wr ∧ Hid (∀ j, j < k → Fl.oddC (Fl.can (D.getD j 0)) = false)) (fun i _ => m - (intOf i).toNat)
  case atStart => exact ⟨0, Nat.zero_le _, rfl, Below.refl _ _, fun j hj => by omega⟩
  case round =>
    obtain ⟨k, hk, rfl, hbel, HN⟩ := hrel
    have hx0 := cell_later hbel HX0.out.1
    have hx1 := cell_later hbel HX0.out.2.1
    by_cases hlt : k < m
    · obtain ⟨g, off, rfl, hc⟩ := HD.out.at hlt
      have hcr := cell_later hbel (cell_later HB0.out hc)
      obtain ⟨x, hx⟩ : ∃ x, D.getD k 0 = x := ⟨_, rfl⟩
      rw [hx] at hcr
      have HX := hide hx
      have HBE := hide hbel
      have hk0 : (0 : Int) ≤ (k : Int) := by omega
      have hk1 : (k : Int) < (m : Int) := by omega
      clear hx hc hbel
      have hne : (FloatKind.f64.format.order x x != some .eq) = Fl.nanB x := Fl.ne_self x
      cases hn' : Fl.nanB x with
      | true =>
        have HO := hide (oddAny_true (D := D) (k := k) (by rw [HL.out]; exact hlt) (by rw [HX.out, Fl.can_none hn']; rfl))
        rw [hn'] at hne
        clear hn'
        go_wp2_with fail
        go_quiet (fail)
        all_goals (
          go_wp2_with fail
          go_ret
          exact ⟨by rw [HO.out]; rfl, HB0.out.trans ((below_drewN HBE.out _).mono HB0.out.size)⟩)
      | false =>
        rw [hn'] at hne
        cases hi : Fl.infB x with
        | true =>
          have HO := hide (oddAny_true (D := D) (k := k) (by rw [HL.out]; exact hlt) (by rw [HX.out, Fl.can_some hn']; exact hi))
          have C := hide (fun W => isinf_b x W true hi)
          clear hn' hi
          go_wp2_with fail
          go_quiet ((go_at_call 42; exact Calls.quiet_of_same ((C.out _).mono fun _ _ h => ⟨h.1, h.2.symm⟩)))
          all_goals (
            go_wp2_with fail
            go_ret
            exact ⟨by rw [HO.out]; rfl, HB0.out.trans ((below_drewN HBE.out _).mono HB0.out.size)⟩)
        | false =>
          have HE : Hid (Fl.oddC (Fl.can (D.getD k 0)) = false) := by unfold Hid; rw [HX.out, Fl.can_some hn']; exact hi
          have C := hide (fun W => isinf_b x W false hi)
          clear hn' hi
          go_wp2_with fail
          go_quiet ((go_at_call 42; exact Calls.quiet_of_same ((C.out _).mono fun _ _ h => ⟨h.1, h.2.symm⟩)))
          all_goals (
            go_wp2_with fail
            go_roundw
            case rel =>
              refine ⟨k + 1, by omega, by go_num, below_drewN HBE.out _, fun j hj => ?_⟩
              by_cases e : j = k
              · subst e; exact HE.out
              · exact HN.out j (by omega)
            case measure => simp [intOf]; omega)
    · obtain rfl : m = k := by omega
      have HO := hide (oddAny_false (D := D) (fun j hj => HN.out j (by rw [← HL.out]; exact hj)))
      have HBE := hide hbel
      clear hbel
      have C := hide (may_ref a n c b m d S wr ((HS.out.later HB0.out).later HBE.out) hn)
      rw [hmay] at C
      go_wp2_with (go_at_call 14; (with_reducible refine C.out.mono ?_); rintro e w2 ⟨rfl, hb2⟩)
      go_ret
      have hb3 := HBE.out.trans (hb2.mono HBE.out.size)
      exact ⟨by rw [HO.out]; rfl, HB0.out.trans (hb3.mono HB0.out.size)⟩

end Go.Proofs.Ytegofhmkebbinaa
