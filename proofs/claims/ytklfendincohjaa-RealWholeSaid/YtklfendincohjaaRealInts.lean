/-
  Folds and rows of small whole numbers are their sum. Plain laws.
-/
import Derived.Test.YtklfendincohjaaFlInt
import Derived.Test.YtklfendincohjaaReal2
namespace Go.Proofs.Ytklfendincohjaa
namespace Fl

theorem sum_le (M : Nat) : ∀ zs : List Int, (∀ z ∈ zs, z.natAbs ≤ M) → zs.sum.natAbs ≤ M * zs.length
  | [], _ => by simp
  | z :: zs, h => by
    have h1 := h z (by simp)
    have h2 := sum_le M zs fun x hx => h x (by simp [hx])
    rw [List.sum_cons, List.length_cons, Nat.mul_succ]
    omega

theorem rowC_whole (M : Nat) (zs : List Int) (h : ∀ z ∈ zs, z.natAbs ≤ M) (hb : M * zs.length < 9007199254740992) (hM : M < 9007199254740992) :
    ∃ r, rowC (zs.map fun z => can (ofI z)) = some r ∧ IsI r zs.sum := by
  have key : ∀ (l : List Int) (r : Nat) (n : Int) (k : Nat), IsI r n → n.natAbs ≤ M * k → (∀ z ∈ l, z.natAbs ≤ M) → M * (k + l.length) < 9007199254740992 →
      ∃ s, (l.map fun z => can (ofI z)).foldl (opC .add) (some r) = some s ∧ IsI s (n + l.sum) := by
    intro l
    induction l with
    | nil => intro r n k hr _ _ _; exact ⟨r, rfl, by simpa using hr⟩
    | cons z l ih =>
      intro r n k hr hn hz hk
      have h1 := hz z (by simp)
      rw [List.length_cons, Nat.mul_add, Nat.mul_succ] at hk
      have hc : can (ofI z) = some (ofI z) := can_whole (.inl rfl) (by omega)
      obtain ⟨s, hs, hi⟩ := add_whole (x := r) (y := ofI z) (a := n) (b := z) hr (.inl rfl) (by omega) (by omega) (by omega)
      obtain ⟨t, ht, hti⟩ := ih s (n + z) (k + 1) hi (by rw [Nat.mul_succ]; omega) (fun x hx => hz x (by simp [hx])) (by rw [Nat.mul_add, Nat.mul_succ]; omega)
      refine ⟨t, ?_, by rw [List.sum_cons, ← Int.add_assoc]; exact hti⟩
      rw [List.map_cons, List.foldl_cons, hc]
      show List.foldl _ (op .add r (ofI z)) _ = _
      rw [hs]
      exact ht
  obtain ⟨s, hs, hi⟩ := key zs 0 0 0 (.inl ofI_zero.symm) (by simp) h (by simpa using hb)
  exact ⟨s, hs, by simpa using hi⟩

theorem foldC_whole (M : Nat) (hM : M < 9007199254740992) (n : Nat) : ∀ zs : List Int, zs.length ≤ n → (∀ z ∈ zs, z.natAbs ≤ M) → M * zs.length < 9007199254740992 →
    ∃ r, foldC (zs.map fun z => can (ofI z)) = some r ∧ IsI r zs.sum := by
  induction n with
  | zero =>
    intro zs h0 _ _
    have : zs = [] := List.eq_nil_of_length_eq_zero (by omega)
    subst this
    exact ⟨0, by rw [List.map_nil, foldC_nil], .inl ofI_zero.symm⟩
  | succ n ih =>
    intro zs hl hz hb
    match zs, hl, hz, hb with
    | [], _, _, _ => exact ⟨0, by rw [List.map_nil, foldC_nil], .inl ofI_zero.symm⟩
    | [z], _, hz, _ =>
      have h1 := hz z (by simp)
      exact ⟨ofI z, by rw [List.map_singleton, foldC_one]; exact can_whole (.inl rfl) (by omega), .inl (by simp)⟩
    | z :: y :: l, hl, hz, hb =>
      generalize hzs : z :: y :: l = zs at *
      have h2 : 2 ≤ zs.length := by rw [← hzs]; simp
      have hlt : (zs.take ((zs.length + 1) / 2)).length = (zs.length + 1) / 2 := by simp; omega
      have hld : (zs.drop ((zs.length + 1) / 2)).length = zs.length - (zs.length + 1) / 2 := by simp
      have hm1 : M * ((zs.length + 1) / 2) ≤ M * zs.length := Nat.mul_le_mul_left _ (by omega)
      have hm2 : M * (zs.length - (zs.length + 1) / 2) ≤ M * zs.length := Nat.mul_le_mul_left _ (by omega)
      have ht : ∀ x ∈ zs.take ((zs.length + 1) / 2), x.natAbs ≤ M := fun x hx => hz x (List.mem_of_mem_take hx)
      have hd : ∀ x ∈ zs.drop ((zs.length + 1) / 2), x.natAbs ≤ M := fun x hx => hz x (List.mem_of_mem_drop hx)
      obtain ⟨r, hr, hri⟩ := ih (zs.take ((zs.length + 1) / 2)) (by omega) ht (by rw [hlt]; omega)
      obtain ⟨s, hs, hsi⟩ := ih (zs.drop ((zs.length + 1) / 2)) (by omega) hd (by rw [hld]; omega)
      have b1 := sum_le M _ ht
      have b2 := sum_le M _ hd
      have b3 := sum_le M _ hz
      rw [hlt] at b1
      rw [hld] at b2
      have hsum : (zs.take ((zs.length + 1) / 2)).sum + (zs.drop ((zs.length + 1) / 2)).sum = zs.sum := by
        rw [← List.sum_append, List.take_append_drop]
      obtain ⟨t, ht', hti⟩ := add_whole hri hsi (by omega) (by omega) (by rw [hsum]; omega)
      refine ⟨t, ?_, by rw [← hsum]; exact hti⟩
      rw [foldC_step _ (by simp; omega), List.length_map, ← List.map_take, ← List.map_drop, hr, hs]
      exact ht'
end Fl
end Go.Proofs.Ytklfendincohjaa
