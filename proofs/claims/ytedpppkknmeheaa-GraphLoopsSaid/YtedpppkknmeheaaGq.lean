/-
  A queue of whole numbers in a row of the call's own: cut at its head, appended to. A plain law over any program. No condition.
-/
import Derived.Test.YtedpppkknmeheaaApp
import Derived.Test.YtedpppkknmeheaaG7
import Derived.ArgAppend
import Derived.Deep.AppendSrc
namespace Go.Proofs.Ytedpppkknmeheaa
open Go.RowKit

/-- The slice holds zs; it lies in a block from base on. -/
def Que (w : World) (base : Nat) (v : Value) (zs : List Int) : Prop :=
  ∃ g off c, v = .slice (some ⟨g, off, none⟩) zs.length c ∧ base ≤ g ∧ g < w.heap.size ∧ zs.length ≤ c ∧ c ≤ maxLen ∧ (∀ j, j < zs.length → w.cell? ⟨g, off + j, none⟩ = some (.int .i64 (zs.getD j 0))) ∧ (∀ j, j < c → (w.cell? ⟨g, off + j, none⟩).isSome = true ∧ w.frozen? ⟨g, off + j, none⟩ = false)
theorem Que.kept {w w' : World} {base : Nat} {v : Value} {zs : List Int} {row : Option Nat} (h : Que w base v zs) (hg : w.grownBy w' row) (hne : v.ownBlock ≠ row) : Que w' base v zs := by
  obtain ⟨g, off, c, rfl, h1, h2, h3, h4, h5, h6⟩ := h
  have hb := hg.block g h2 hne
  refine ⟨g, off, c, rfl, h1, Nat.lt_of_lt_of_le h2 hg.size, h3, h4, fun j hj => ?_, fun j hj => ?_⟩
  · rw [World.cell?_of_block (w := w) hb]; exact h5 j hj
  · rw [World.cell?_of_block (w := w) hb, World.frozen?_of_block (w := w) hb]; exact h6 j hj
theorem Que.lt {w : World} {base : Nat} {v : Value} {zs : List Int} (h : Que w base v zs) {k : Nat} (hk : v.ownBlock = some k) : base ≤ k ∧ k < w.heap.size := by
  obtain ⟨g, off, c, rfl, h1, h2, _⟩ := h
  cases hk
  exact ⟨h1, h2⟩
theorem Que.alloc {w : World} {base : Nat} {v : Value} {zs : List Int} (h : Que w base v zs) (o : Obj) : Que (w.alloc o) base v zs := by
  refine h.kept (World.grownBy_alloc w o none) ?_
  obtain ⟨g, off, c, rfl, _⟩ := h
  simp [Value.ownBlock]
theorem Que.of_own {w : World} {base : Nat} {e : TypeId} {v : Value} {n : Nat} {zs : List Int} (h : w.ownsRow base e 1 v n (ivs zs)) (hne : v ≠ .slice none 0 0) : Que w base v zs := by
  have hl : zs.length = n := by simpa [ivs] using h.1
  subst hl
  rcases h.2 with ⟨h0, _⟩ | ⟨g, cap, cur, rfl, hbase, hg, hn, hm, hs, ht⟩
  · exact absurd h0 hne
  · refine ⟨g, 0, cap, rfl, hbase, (Array.getElem?_eq_some_iff.1 hg).1, hn, hm, fun j hj => ?_, fun j hj => ?_⟩
    · have hc := h.cells (g := g) rfl j (.int .i64 (zs.getD j 0)) (by simp [ivs, hj])
      rwa [Go.WideShapes.add_plain] at hc
    · rw [Nat.zero_add]
      refine ⟨?_, frozen_of_row w g j _ _ hg⟩
      rw [cell_of_row w g j _ _ _ hg, Array.getElem?_eq_getElem (by omega)]
      rfl
theorem setCells_grown (g : Nat) : ∀ (vs : List Value) (o : Nat) (w : World), w.grownBy (w.setCells g o vs) (some g)
  | [], _, w => ⟨rfl, rfl, rfl, Nat.le_refl _, fun _ _ _ => rfl⟩
  | v :: r, o, w => by
    have h := setCells_grown g r (o + 1) (w.setCell ⟨g, o, none⟩ v)
    refine ⟨h.os, h.tape, h.output, ?_, fun k hk hne => ?_⟩
    · have := h.size; simpa [World.setCells, World.setCell] using this
    · show (World.setCells (w.setCell ⟨g, o, none⟩ v) g (o + 1) r).heap[k]? = _
      rw [h.block k (by simpa [World.setCell] using hk) hne]
      exact Below.heap_setCell _ _ _ _ (fun e => hne (by rw [e]))
/-- The head is taken off. -/
theorem Que.tail {w : World} {base : Nat} {x : Int} {zs : List Int} {a : Option Addr} {n c : Nat} (h : Que w base (.slice a n c) (x :: zs)) : ∃ g off, a = some ⟨g, off, none⟩ ∧ n = zs.length + 1 ∧ n ≤ c ∧ w.cell? ⟨g, off, none⟩ = some (.int .i64 x) ∧
    (c = 1 → Que w base (.slice (some ⟨g, off, none⟩) zs.length 0) zs) ∧ (c ≠ 1 → Que w base (.slice (some ⟨g, off + 1, none⟩) zs.length (c - 1)) zs) := by
  obtain ⟨g, off, c', e, h1, h2, h3, h4, h5, h6⟩ := h
  cases e
  refine ⟨g, off, rfl, rfl, h3, by simpa using h5 0 (by simp), fun hc => ?_, fun hc => ?_⟩
  · have : zs = [] := by
      rw [hc] at h3
      simp at h3
      exact h3
    subst this
    exact ⟨g, off, 0, rfl, h1, h2, Nat.le_refl _, Nat.zero_le _, fun j hj => by simp at hj, fun j hj => by omega⟩
  · refine ⟨g, off + 1, c - 1, by simp, h1, h2, by simp at h3; omega, by omega, fun j hj => ?_, fun j hj => ?_⟩
    · have := h5 (j + 1) (by simp; omega)
      rw [Nat.add_assoc, Nat.add_comm 1 j, this]
      simp
    · have := h6 (j + 1) (by omega)
      rw [Nat.add_assoc, Nat.add_comm 1 j]
      exact this

theorem wp_append_que {P : Program} {w : World} {o : Oper} {a : Act} {K : Act → World → Prop} {Q : Exit → Act → World → Prop} (s x : Operand) (t : TypeId)
    (ho : o.op = .call { callee := .builtin .append, args := #[s, x], argTypes := #[t, t] })
    (base : Nat) (e : TypeId) (i : TypeInfo) (ht : P.underlying t = some (.slice e)) (hi : P.info? e = some i) (hz : i.zero = some (.int .i64 0)) (hsize : i.size = 1) (hby : i.bytes = 8)
    (v : Value) (zs : List Int) (hs : a.eval s = v) (hq : Que w base v zs)
    (A : Option Addr) (m c : Nat) (news : List Int) (hx : a.eval x = .slice A m c) (hI : Isl w .i64 A m c news) (hno : A = none → m = 0)
    (hb : zs.length + m ≤ 8796093022208) (hbase : base ≤ w.heap.size)
    (h : ∀ v' w', Que w' base v' (zs ++ news) → w.grownBy w' v.ownBlock → (∀ k, v'.ownBlock = some k → v.ownBlock = some k ∨ w.heap.size ≤ k) → K (a.put o.dst v') w') : o.wp P a w K Q := by
  have hm : news.length = m := hI.1
  obtain ⟨g, off, cap, rfl, h1, h2, h3, h4, h5, h6⟩ := hq
  by_cases h0 : m = 0
  · subst h0
    have hn : news = [] := List.eq_nil_of_length_eq_zero hm
    subst hn
    have hsrc : Go.Src P i.size t (.slice A 0 c) 0 [] w := by
      cases A with
      | none => exact Src.ofNil w ht c
      | some ad => exact Src.ofSlice w ht ad 0 c [] (by simp) (fun j u hj => by simp at hj) (fun u hu => by simp at hu)
    have hrun : (Builtin.append_ #[t, t] o.type #[.slice (some ⟨g, off, none⟩) zs.length cap, .slice A 0 c]).run P w = .ok (.slice (some ⟨g, off, none⟩) zs.length cap) w := by
      cases A <;> simp [Builtin.append_, run_underlying ht, sizeOf, typeInfo, hi, hsrc.len, h3, hsrc.cells, storeCells]
    unfold Oper.wp
    simp [execOp, ho, resolve, invoke, builtin, hs, hx, hrun, Result.andThen]
    refine h _ w ⟨g, off, cap, by simp, h1, h2, by simpa using h3, h4, by simpa using h5, h6⟩ ⟨rfl, rfl, rfl, Nat.le_refl _, fun _ _ _ => rfl⟩ fun k hk => .inl hk
  · obtain ⟨ad, rfl⟩ : ∃ ad, A = some ad := by
      cases A with
      | none => exact absurd (hno rfl) h0
      | some ad => exact ⟨ad, rfl⟩
    have hnews : ∀ j u, (ivs news)[j]? = some u → w.cell? (ad.add j) = some u := by
      intro j u hj
      have hjl : j < news.length := by
        rcases Nat.lt_or_ge j news.length with h | h
        · exact h
        · rw [List.getElem?_eq_none (by simpa [ivs] using h)] at hj; cases hj
      obtain ⟨b, o', hba, hc⟩ := hI.2.2 j (by omega)
      cases hba
      rw [Go.WideShapes.add_plain, hc]
      simpa [ivs, hjl] using hj
    by_cases hr : zs.length + m ≤ cap
    · have hrun := run_append_room_cells (P := P) w t o.type e i ht hi g off zs.length cap ad m c (ivs news) (by rw [hsize]; simp [ivs, hm]) hnews (ivs_one news) hr
        (fun j hj => by
          rw [hsize, Nat.mul_one, Nat.add_assoc]
          exact (h6 (zs.length + j) (by simp [ivs] at hj; omega)).1)
        (fun j hj => by
          rw [hsize, Nat.mul_one, Nat.add_assoc]
          exact (h6 (zs.length + j) (by simp [ivs] at hj; omega)).2)
      rw [hsize, Nat.mul_one] at hrun
      have hgr := setCells_grown g (ivs news) (off + zs.length) w
      unfold Oper.wp
      simp [execOp, ho, resolve, invoke, builtin, hs, hx, hrun, Result.andThen]
      have hsome : ∀ j, j < (ivs news).length → (w.cell? ⟨g, off + zs.length + j, none⟩).isSome = true := fun j hj => by
        rw [Nat.add_assoc]; exact (h6 (zs.length + j) (by simp [ivs] at hj; omega)).1
      have hin := World.cell?_setCells_in g (ivs news) (off + zs.length) w hsome
      refine h _ _ ⟨g, off, cap, by simp [hm], h1, Nat.lt_of_lt_of_le h2 hgr.size, by simp [hm]; exact hr, h4, fun j hj => ?_, fun j hj => ?_⟩ hgr fun k hk => .inl hk
      · simp at hj
        by_cases hjz : j < zs.length
        · rw [World.cell?_setCells_out g _ _ _ _ (fun _ _ => Or.inl (by show off + j < off + zs.length; omega)), h5 j hjz]
          simp [List.getD, List.getElem?_append_left hjz]
        · have hj2 : j - zs.length < (ivs news).length := by simp [ivs]; omega
          have := hin (j - zs.length) hj2
          rw [show off + zs.length + (j - zs.length) = off + j by omega] at this
          rw [this]
          simp [ivs, List.getD, List.getElem?_append_right (Nat.le_of_not_lt hjz), show j - zs.length < news.length by omega]
      · rw [World.frozen?_setCells]
        refine ⟨?_, (h6 j hj).2⟩
        by_cases hjz : zs.length ≤ j ∧ j < zs.length + m
        · have hj2 : j - zs.length < (ivs news).length := by simp [ivs]; omega
          have := hin (j - zs.length) hj2
          rw [show off + zs.length + (j - zs.length) = off + j by omega] at this
          rw [this]; rfl
        · rw [World.cell?_setCells_out g _ _ _ _ (fun _ _ => by show off + j < off + zs.length ∨ off + zs.length + (ivs news).length ≤ off + j; simp [ivs, hm]; omega)]
          exact (h6 j hj).1
    · obtain ⟨v', w', hrun, r1, r2⟩ := run_append_arg_grows (P := P) w t o.type e i (.int .i64 0) 1 8 ht hi hz hsize hby rfl (by omega) ⟨g, off, none⟩ zs.length cap (ivs zs) (by simp [ivs])
        (fun j u hj => by
          have hjl : j < zs.length := by
            rcases Nat.lt_or_ge j zs.length with h | h
            · exact h
            · rw [List.getElem?_eq_none (by simpa [ivs] using h)] at hj; cases hj
          rw [Go.WideShapes.add_plain, h5 j hjl]
          simpa [ivs, hjl] using hj)
        ad m c (ivs news) (by simp [ivs, hm]) hnews (by omega) (by unfold maxLen; omega) (by omega)
      unfold Oper.wp
      simp [execOp, ho, resolve, invoke, builtin, hs, hx, hrun, Result.andThen]
      have e1 : ivs zs ++ ivs news = ivs (zs ++ news) := by simp [ivs]
      rw [e1] at r1
      have hv' : v' ≠ .slice none 0 0 := by
        rintro rfl
        rcases r1.2 with ⟨_, h⟩ | ⟨_, _, _, h, _⟩
        · omega
        · cases h
      have hq := Que.of_own r1 hv'
      refine h v' w' ?_ ⟨r2.os, r2.tape, r2.output, r2.size, fun k hk _ => r2.block k hk (by simp)⟩ fun k hk => .inr (hq.lt hk).1
      obtain ⟨g', off', c', e2, q1, q2⟩ := hq
      exact ⟨g', off', c', e2, by omega, q2⟩
theorem wpl_append_que {P : Program} {w : World} {ops : Array Oper} {rest : List Oper} {o : Oper} {a : Act} {Q : Exit → Act → World → Prop} (hw : Region.wanted o (yielded ops a.tmps) = true) (s x : Operand) (t : TypeId)
    (ho : o.op = .call { callee := .builtin .append, args := #[s, x], argTypes := #[t, t] })
    (base : Nat) (e : TypeId) (i : TypeInfo) (ht : P.underlying t = some (.slice e)) (hi : P.info? e = some i) (hz : i.zero = some (.int .i64 0)) (hsize : i.size = 1) (hby : i.bytes = 8)
    (v : Value) (zs : List Int) (hs : a.eval s = v) (hq : Que w base v zs)
    (A : Option Addr) (m c : Nat) (news : List Int) (hx : a.eval x = .slice A m c) (hI : Isl w .i64 A m c news) (hno : A = none → m = 0)
    (hb : zs.length + m ≤ 8796093022208) (hbase : base ≤ w.heap.size)
    (h : ∀ v' w', Que w' base v' (zs ++ news) → w.grownBy w' v.ownBlock → (∀ k, v'.ownBlock = some k → v.ownBlock = some k ∨ w.heap.size ≤ k) → wpList P ops Q rest (a.put o.dst v') w') : wpList P ops Q (o :: rest) a w := by
  refine wpList_step fun K hK => ?_
  rw [if_pos hw]
  exact wp_append_que s x t ho base e i ht hi hz hsize hby v zs hs hq A m c news hx hI hno hb hbase fun v' w' h2 h3 h4 => hK _ _ (h v' w' h2 h3 h4)
end Go.Proofs.Ytedpppkknmeheaa
