/-
  The document's Size; whether a tensor may be, both ways; no more (XSh2 without its last theorem). No condition.
-/
import Derived.Test.YtedpppkknmeheaaGsh
namespace Go.Proofs.Ytedpppkknmeheaa
open Go.RowKit
theorem below_drewN {B : Nat} {a w : World} (h : Below B a w) (n : Nat) : Below B a (w.drewN n) := ⟨h.os, h.tape, h.output, h.size, h.block⟩

set_option maxHeartbeats 4000000 in
theorem size_ref (a : Option Addr) (len cap : Nat) (zs : List Int) (w : World) (h : Isl w .i64 a len cap zs) (hl : len ≤ 140737488355328) :
    Calls Try.prog 47 #[.slice a len cap] w fun e w' => e = .returned (.tuple #[.int .i64 (sz zs).1, .int .i64 (sz zs).2]) ∧ Below w.heap.size w w' := by
  have H := hide h
  have HL := hide h.1
  clear h
  go_enter Try.func47, Try.ntmps47
  by_cases h4 : 4 < len
  · have e : sz zs = (0, 2) := by unfold sz; rw [if_pos (.inl (by rw [HL.out]; exact h4))]
    rw [e]
    go_wp2_with fail
    go_ret2
    exact ⟨rfl, Below.refl _ _⟩
  · go_wp2_with fail
    go_loopw [4] (fun i wr => ∃ k : Nat, k ≤ len ∧ i = .int .i64 k ∧ w = wr ∧ Hid (∀ j, j < k → 1 ≤ zs.getD j 0)) (fun i _ => len - (intOf i).toNat)
    case atStart => exact ⟨0, Nat.zero_le _, rfl, rfl, fun j hj => by omega⟩
    case round =>
      obtain ⟨k, hk, rfl, rfl, HN⟩ := hrel
      by_cases hlt : k < len
      · obtain ⟨b, off, rfl, hc⟩ := H.out.at hlt
        obtain ⟨x, hx⟩ : ∃ x, zs.getD k 0 = x := ⟨_, rfl⟩
        rw [hx] at hc
        have HX := hide hx
        clear hx
        by_cases hb : x < 1
        · have e : sz zs = (0, 2) := by
            unfold sz
            rw [if_pos (.inr (List.any_eq_true.2 ⟨zs.getD k 0, by rw [List.getD_eq_getElem?_getD, List.getElem?_eq_getElem (by rw [HL.out]; exact hlt)]; exact List.getElem_mem _, by rw [HX.out]; simpa using hb⟩))]
          have HEND := hide e
          have hd : decide (x < 1) = true := by simpa using hb
          clear hb e
          go_wp2_with fail
          go_ret2
          rw [HEND.out]
          exact ⟨rfl, Below.refl _ _⟩
        · have hd : decide (x < 1) = false := by simpa using hb
          have HE : Hid (1 ≤ zs.getD k 0) := by unfold Hid; rw [HX.out]; omega
          clear hb
          go_wp2_with fail
          go_roundw
          case rel =>
            refine ⟨k + 1, by omega, by go_num, trivial, fun j hj => ?_⟩
            by_cases e : j = k
            · subst e; exact HE.out
            · exact HN.out j (by omega)
          case measure => simp [intOf]; omega
      · obtain rfl : len = k := by omega
        have HALL : Hid (zs.any (fun x => decide (x < 1)) = false) := by
          unfold Hid
          rw [List.any_eq_false]
          intro x hx
          obtain ⟨j, hj, rfl⟩ := List.getElem_of_mem hx
          have := HN.out j (by rw [← HL.out]; exact hj)
          rw [List.getD_eq_getElem?_getD, List.getElem?_eq_getElem hj] at this
          simp at this ⊢
          omega
        have e : sz zs = szGo zs 1 := by unfold sz; rw [if_neg (by rw [HALL.out, HL.out]; simp; omega)]
        have HSZ := hide e
        clear e
        go_wp2_with fail
        go_loopw [5, 6] (fun s i wr => ∃ (k : Nat) (n : Int), k ≤ len ∧ i = .int .i64 k ∧ s = .int .i64 n ∧ Below w.heap.size w wr ∧ 1 ≤ n ∧ n ≤ 4096 ∧ Hid (szGo zs 1 = szGo (zs.drop k) n)) (fun _ i _ => len - (intOf i).toNat)
        case atStart => exact ⟨0, 1, Nat.zero_le _, rfl, rfl, Below.refl _ _, Int.le_refl _, by omega, by unfold Hid; rw [List.drop_zero]⟩
        case round =>
          obtain ⟨k, n, hk, rfl, rfl, hbel, hn1, hn2, HZ⟩ := hrel
          by_cases hlt : k < len
          · obtain ⟨b, off, rfl, hc⟩ := H.out.at hlt
            have hstep := drop_at zs k (by rw [HL.out]; exact hlt)
            have hx1 : 1 ≤ zs.getD k 0 := HN.out k hlt
            obtain ⟨x, hx⟩ : ∃ x, zs.getD k 0 = x := ⟨_, rfl⟩
            rw [hx] at hc hx1 hstep
            have hcr := cell_later hbel hc
            have HST := hide hstep
            have HBE := hide hbel
            have hn0 : ¬ n = 0 := by omega
            have hk0 : (0 : Int) ≤ (k : Int) := by omega
            have hk1 : (k : Int) < (len : Int) := by omega
            have hq1 : 0 ≤ (4096 : Int).tdiv n := by rw [Int.tdiv_eq_ediv_of_nonneg (by omega)]; exact Int.ediv_nonneg (by omega) (by omega)
            have hq2 : (4096 : Int).tdiv n ≤ 4096 := by rw [Int.tdiv_eq_ediv_of_nonneg (by omega)]; exact Int.ediv_le_self _ (by omega)
            have wq : IntKind.i64.wrap ((4096 : Int).tdiv n) = (4096 : Int).tdiv n := IntWalk.i64_in _ (by omega)
            clear hx hstep hbel hc
            by_cases hbig : (4096 : Int).tdiv n < x
            · have HEND := hide (show szGo zs 1 = (0, 3) by rw [HZ.out, HST.out]; exact if_pos hbig)
              have hd : decide ((4096 : Int).tdiv n < x) = true := by simpa using hbig
              clear hbig
              go_wp2_with fail
              go_quiet (fail)
              go_wp2_with fail
              go_ret2
              rw [HSZ.out, HEND.out]
              exact ⟨rfl, below_drewN HBE.out _⟩
            · have hf := fits hn1 hbig
              have hp : 1 ≤ n * x := by
                have := Int.mul_le_mul hn1 hx1 (by omega) (by omega)
                omega
              have HNX := hide (show szGo zs 1 = szGo (zs.drop (k + 1)) (n * x) by rw [HZ.out, HST.out]; exact if_neg hbig)
              have wm : IntKind.i64.wrap (n * x) = n * x := IntWalk.i64_in _ (by omega)
              have hd : decide ((4096 : Int).tdiv n < x) = false := by simpa using hbig
              clear hbig
              go_wp2_with fail
              go_quiet (fail)
              go_wp2_with fail
              go_roundw
              case rel => exact ⟨k + 1, n * x, by omega, by go_num, rfl, below_drewN HBE.out _, hp, hf, HNX.out⟩
              case measure => simp [intOf]; omega
          · obtain rfl : len = k := by omega
            have HEND := hide (show szGo zs 1 = (n, 0) by rw [HZ.out, List.drop_eq_nil_of_le (by rw [HL.out]; exact Nat.le_refl _)]; rfl)
            go_wp2_with fail
            go_ret2
            rw [HSZ.out, HEND.out]
            exact ⟨rfl, hbel⟩

/-- May a tensor be? -/
def mayB (S : List Int) (m : Nat) : Bool := ((sz S).2 == 0) && (((m : Int) == (sz S).1))
theorem sz_may {S : List Int} {m : Nat} (h : mayB S m = true) : sz S = ((m : Int), 0) := by
  unfold mayB at h
  simp at h
  exact Prod.ext h.2.symm h.1

theorem may_any (a : Option Addr) (len cap : Nat) (b : Option Addr) (m cap' : Nat) (S : List Int) (w : World) (h : Isl w .i64 a len cap S) (hl : len ≤ 140737488355328) :
    Calls Try.prog 45 #[.agg #[.slice a len cap, .slice b m cap']] w fun e w' => e = .returned (.bool (mayB S m)) ∧ Below w.heap.size w w' := by
  have hb0 : Below w.heap.size w (w.alloc (.cells #[.slice a len cap, .slice b m cap'] 38)) := (Below.refl _ _).alloc (Nat.le_refl _) _
  have C := hide (size_any a len cap S _ (h.later hb0) hl)
  have HB := hide hb0
  clear h hb0
  unfold mayB
  obtain ⟨⟨N, E⟩, hz⟩ : ∃ z, sz S = z := ⟨_, rfl⟩
  rw [hz] at C ⊢
  clear hz
  cases h1 : (E == 0) <;> cases h2 : ((m : Int) == N)
  all_goals
    go_enter Try.func45, Try.ntmps45
    go_wp2_with (go_at_call 52; (with_reducible refine C.out.mono ?_); rintro e w2 ⟨rfl, rfl⟩)
    go_ret
    exact ⟨rfl, HB.out⟩
theorem may_ref (a : Option Addr) (len cap : Nat) (b : Option Addr) (m cap' : Nat) (S : List Int) (w : World) (h : Isl w .i64 a len cap S) (hl : len ≤ 140737488355328) :
    Calls Try.prog 34 #[.agg #[.slice a len cap, .slice b m cap']] w fun e w' => e = .returned (.bool (mayB S m)) ∧ Below w.heap.size w w' := by
  have hb0 : Below w.heap.size w (w.alloc (.cells #[.slice a len cap, .slice b m cap'] 38)) := (Below.refl _ _).alloc (Nat.le_refl _) _
  have C := hide (size_ref a len cap S _ (h.later hb0) hl)
  have HB := hide hb0
  clear h hb0
  unfold mayB
  obtain ⟨⟨N, E⟩, hz⟩ : ∃ z, sz S = z := ⟨_, rfl⟩
  rw [hz] at C ⊢
  clear hz
  rw [Bool.beq_comm (a := (m : Int))]
  cases h1 : (E == 0) <;> cases h2 : (N == (m : Int))
  all_goals
    go_enter Try.func34, Try.ntmps34
    go_wp2_with (go_at_call 47; (with_reducible refine C.out.mono ?_); rintro e w2 ⟨rfl, hb2⟩; have HB2 := hide hb2; have hc2 := cell_later hb2 (show _ = some (.slice b m cap') from World.cell?_alloc_new w #[.slice a len cap, .slice b m cap'] 38 1); clear hb2)
    go_ret
    exact ⟨rfl, HB.out.trans (HB2.out.mono HB.out.size)⟩

end Go.Proofs.Ytedpppkknmeheaa
