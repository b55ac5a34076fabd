/-
  slices.DeleteFunc over a pile's row; container/heap's Init; Drop. No condition.
-/
import Derived.Test.YtlakffjodlandaaPileA
namespace Go.Proofs.Ytlakffjodlandaa
open Go.RowKit
attribute [local go_sem] m_less m_swap m_len m_push m_pop

def kept (id : Int) (xs : List It) : List It := xs.filter fun x => x.id != id
theorem kept_step (id : Int) (xs : List It) (k : Nat) (h : k < xs.length) : kept id (xs.take (k + 1)) = kept id (xs.take k) ++ if (fn xs k).id == id then [] else [fn xs k] := by
  unfold kept
  rw [List.take_succ_eq_append_getElem h, List.filter_append, ← fn_get xs k h]
  by_cases e : (fn xs k).id = id
  · simp [e]
  · simp [e]
theorem kept_le (id : Int) (xs : List It) : (kept id xs).length ≤ xs.length := List.length_filter_le _ _
theorem kept_all (id : Int) (xs : List It) (h : ∀ k, k < xs.length → (fn xs k).id ≠ id) : kept id xs = xs := by
  unfold kept
  rw [List.filter_eq_self]
  intro x hx
  obtain ⟨k, hk, rfl⟩ := List.getElem_of_mem hx
  have := h k hk
  rw [fn_get xs k hk] at this
  simpa using this
theorem fn_take (xs : List It) (j k : Nat) (h : k < j) : fn (xs.take j) k = fn xs k := by simp [fn, List.getD, h]

/-- What DeleteFunc has done when it looks at place j: the first i items are what is kept of the first j; those from j on stand as they stood. -/
def DelI (id : Int) (xs ys : List It) (i j : Nat) : Prop :=
  i < j ∧ j ≤ xs.length ∧ ys.length = xs.length ∧ ys.take i = kept id (xs.take j) ∧ ∀ k, j ≤ k → fn ys k = fn xs k
theorem del_begin {id : Int} {xs : List It} {j : Nat} (hj : j < xs.length) (h1 : (fn xs j).id = id) (h2 : ∀ k, k < j → (fn xs k).id ≠ id) : DelI id xs xs j (j + 1) := by
  refine ⟨by omega, by omega, rfl, ?_, fun _ _ => rfl⟩
  rw [kept_step id xs j hj, if_pos (by simpa using h1), List.append_nil, kept_all]
  intro k hk
  rw [List.length_take] at hk
  rw [fn_take _ _ _ (by omega)]
  exact h2 k (by omega)
theorem del_skip {id : Int} {xs ys : List It} {i j : Nat} (h : DelI id xs ys i j) (hj : j < xs.length) (h1 : ((fn ys j).id == id) = true) : DelI id xs ys i (j + 1) := by
  obtain ⟨a, b, c, d, e⟩ := h
  refine ⟨by omega, by omega, c, ?_, fun k hk => e k (by omega)⟩
  rw [e j (Nat.le_refl _)] at h1
  rw [kept_step id xs j hj, if_pos h1, List.append_nil, d]
theorem del_keep {id : Int} {xs ys : List It} {i j : Nat} (h : DelI id xs ys i j) (hj : j < xs.length) (h1 : ((fn ys j).id == id) = false) : DelI id xs (ys.set i (fn ys j)) (i + 1) (j + 1) := by
  obtain ⟨a, b, c, d, e⟩ := h
  refine ⟨by omega, by omega, by simpa using c, ?_, fun k hk => ?_⟩
  · rw [e j (Nat.le_refl _)] at h1 ⊢
    rw [kept_step id xs j hj, h1, if_neg (by simp), ← d]
    have hi : i < (ys.set i (fn xs j)).length := by simp; omega
    rw [List.take_succ_eq_append_getElem hi]
    simp [List.take_set_of_le]
  · have e1 : fn (ys.set i (fn ys j)) k = fn ys k := by simp [fn, List.getD, show ¬ i = k from by omega]
    rw [e1]; exact e k (by omega)

set_option maxHeartbeats 4000000 in
theorem delete_any (h n cap c : Nat) (id : Int) (xs : List It) (w : World) (r : RowM w h cap xs) (hl : xs.length = n) (hn : n ≤ 1099511627776) (hc : w.cell? ⟨c, 0, none⟩ = some (.int .i64 id)) (hch : c ≠ h) :
    Calls Try.prog 20 #[.slice (some ⟨h, 0, none⟩) n cap, .func (.func 21) #[] #[.pointer (some ⟨c, 0, none⟩)]] w fun e w' =>
      ∃ m, e = .returned (.slice (some ⟨h, 0, none⟩) m cap) ∧ m = (kept id xs).length ∧ RowM w' h cap (kept id xs) ∧ Only (· = h) w w' := by
  have C := hide (index_any h n cap c id xs w r hl hn hc)
  have HR := hide r
  have HL := hide hl
  have hcapn : n ≤ cap := by obtain ⟨_, _, _, h3, _⟩ := r; omega
  clear r hl
  go_enter Try.func20, Try.ntmps20
  go_wp2_with fail
  refine C.out.mono ?_
  rintro e w1 ⟨I, rfl, hb1, hI⟩
  rcases hI with ⟨rfl, hno⟩ | ⟨i, rfl, hin, hii, hno⟩
  · go_wp2_with fail
    go_ret
    have hk := kept_all id xs (fun k hk => hno k (by rw [← HL.out]; exact hk))
    exact ⟨n, rfl, by rw [hk, HL.out], by rw [hk]; exact HR.out.below hb1, Only.of_below hb1⟩
  · have hne : ((i : Int) == -1) = false := by rw [beq_eq_false_iff_ne]; omega
    have HB1 := hide hb1
    have HD := hide (del_begin (id := id) (xs := xs) (by rw [HL.out]; exact hin) hii hno)
    have hc1 := cell_later hb1 hc
    have HR1 := hide (HR.out.below hb1)
    clear hb1 hii hno
    go_wp2_with fail
    go_loopw [5, 6, 7] (fun i j _ wr => ∃ (I J : Nat) (ys : List It), i = .int .i64 I ∧ j = .int .i64 J ∧ RowM wr h cap ys ∧ Hid (DelI id xs ys I J) ∧ Only (· = h) w wr) (fun _ j _ _ => n - (intOf j).toNat)
    case atStart => exact ⟨i, i + 1, xs, rfl, by go_num, HR1.out, HD.out, Only.of_below HB1.out⟩
    case round =>
      obtain ⟨I, J, ys, rfl, rfl, hr, HI, ho⟩ := hrel
      have hyl : ys.length = n := by rw [HI.out.2.2.1, HL.out]
      have hIJ : I < J := HI.out.1
      have hJn : J ≤ n := by have := HI.out.2.1; rw [HL.out] at this; exact this
      have hcr := ho.cell hc hch
      have HRW := hide hr
      have HO := hide ho
      have HYL := hide hyl
      clear hr ho hyl hc1
      by_cases hlt : J < n
      · obtain ⟨x1, x2, x3⟩ := HRW.out.at_ (k := J) (by rw [HYL.out]; exact hlt)
        obtain ⟨y1, y2, y3⟩ := HRW.out.at_ (k := I) (by rw [HYL.out]; omega)
        have hhl := HRW.out.lt
        have hfz := HRW.out.frozen
        cases hb : ((fn ys J).id == id) with
        | true =>
          have HE := hide hb
          clear hb
          go_wp2_with fail
          refine (del_row (n := n) (HRW.out.below ((Below.refl _ wr).alloc (Nat.le_refl _) _)) hlt (cell_later ((Below.refl _ wr).alloc (Nat.le_refl _) _) hcr) true HE.out).mono ?_
          rintro e w2 ⟨rfl, hb2⟩
          have hB2 : Below wr.heap.size wr w2 := ((Below.refl _ wr).alloc (Nat.le_refl _) _).trans (hb2.mono (by simp))
          have HB2 := hide hB2
          clear hb2 hB2
          go_wp2_with fail
          go_roundw
          case rel => exact ⟨I, J + 1, ys, rfl, by go_num, HRW.out.below HB2.out, del_skip HI.out (by rw [HL.out]; exact hlt) HE.out, HO.out.trans (Only.of_below HB2.out)⟩
          case measure => simp [intOf]; omega
        | false =>
          have HE := hide hb
          clear hb
          go_wp2_with fail
          refine (del_row (n := n) (HRW.out.below ((Below.refl _ wr).alloc (Nat.le_refl _) _)) hlt (cell_later ((Below.refl _ wr).alloc (Nat.le_refl _) _) hcr) false HE.out).mono ?_
          rintro e w2 ⟨rfl, hb2⟩
          have hB2 : Below wr.heap.size wr w2 := ((Below.refl _ wr).alloc (Nat.le_refl _) _).trans (hb2.mono (by simp))
          have q1 : w2.cell? ⟨wr.heap.size, 0, none⟩ = some (.int .i64 (fn ys J).id) := (hb2.cell (p := ⟨wr.heap.size, 0, none⟩) (by simp)).trans (World.cell?_alloc_new wr _ _ 0)
          have q2 : w2.cell? ⟨wr.heap.size, 1, none⟩ = some (.int .i64 (fn ys J).rank) := (hb2.cell (p := ⟨wr.heap.size, 1, none⟩) (by simp)).trans (World.cell?_alloc_new wr _ _ 1)
          have q3 : w2.cell? ⟨wr.heap.size, 2, none⟩ = some (.int .i64 (fn ys J).at_) := (hb2.cell (p := ⟨wr.heap.size, 2, none⟩) (by simp)).trans (World.cell?_alloc_new wr _ _ 2)
          have HR2 := hide (HRW.out.below hB2)
          obtain ⟨z1, z2, z3⟩ := HR2.out.at_ (k := I) (by rw [HYL.out]; omega)
          have hfz2 := HR2.out.frozen
          have HB2 := hide hB2
          clear hb2 hB2 x1 x2 x3 y1 y2 y3 hfz
          go_wp2_with fail
          go_roundw
          case rel => exact ⟨I + 1, J + 1, ys.set I (fn ys J), by go_num, by go_num, HR2.out.set3 (by rw [HYL.out]; omega) (fn ys J), del_keep HI.out (by rw [HL.out]; exact hlt) HE.out, (HO.out.trans (Only.of_below HB2.out)).trans (only_set3 (· = h) rfl w2 I _)⟩
          case measure => simp [intOf]; omega
      · obtain rfl : J = n := by omega
        have hIn : ¬ (cap = I) := by omega
        obtain ⟨w2, hclr, hr2, ho2⟩ := clear_row HRW.out HYL.out hIJ
        have HR2 := hide hr2
        have HO2 := hide ho2
        clear hr2 ho2
        go_wp2_with fail
        go_ret
        have hk : ys.take I = kept id xs := by rw [HI.out.2.2.2.1, ← HL.out, List.take_length]
        refine ⟨I, rfl, ?_, by rw [← hk]; exact HR2.out, HO.out.trans HO2.out⟩
        rw [← hk, List.length_take, HYL.out]; omega

set_option maxHeartbeats 4000000 in
theorem init_any (g h n cap : Nat) (xs : List It) (w : World) (hgh : g ≠ h) (hg : w.cell? ⟨g, 0, none⟩ = some (.slice (some ⟨h, 0, none⟩) n cap)) (r : RowM w h cap xs) (hl : xs.length = n) (hn : n ≤ 1099511627776) :
    Calls Try.prog 22 #[.iface 58 (.pointer (some ⟨g, 0, none⟩))] w fun e w' =>
      e = .returned (.tuple #[]) ∧ ∃ ys, RowM w' h cap ys ∧ ys.Perm xs ∧ HeapI n (fn ys) ∧ Only (· = h) w w' := by
  have HG := hide hgh
  have HL := hide hl
  have HR := hide r
  clear hl r hgh
  go_enter Try.func22, Try.ntmps22
  go_wp2_with (go_at_call 42; refine (len_any _ _ _ _).mono ?_; rintro e w' ⟨rfl, rfl⟩)
  go_loopw [3] (fun i wr => ∃ (I : Int) (ys : List It), i = .int .i64 I ∧ -1 ≤ I ∧ I < n ∧ RowM wr h cap ys ∧ ys.Perm xs ∧ Hid (HeapFrom (I + 1).toNat n (fn ys)) ∧ Only (· = h) w wr) (fun i _ => (intOf i + 1).toNat)
  case atStart => exact ⟨(n : Int) / 2 - 1, xs, rfl, by omega, by omega, HR.out, .refl _, from_half (by omega), Only.refl _ _⟩
  case round =>
    obtain ⟨I, ys, rfl, h1, h2, hr, hp, HF, ho⟩ := hrel
    by_cases h0 : 0 ≤ I
    · obtain ⟨i, rfl⟩ := Int.eq_ofNat_of_zero_le h0
      have hgr : wr.cell? ⟨g, 0, none⟩ = some (.slice (some ⟨h, 0, none⟩) n cap) := ho.cell hg (fun e => HG.out e)
      have hyl : ys.length = n := by rw [hp.length_eq]; exact HL.out
      have D := hide (down_any g h n cap n i ys wr HG.out hgr hr hyl hn (Nat.le_refl _) (by omega) (by have := HF.out; rwa [show ((i : Int) + 1).toNat = i + 1 from by omega] at this))
      have HP := hide hp
      have HO := hide ho
      clear hr hp ho hyl
      go_wp2_with fail
      refine D.out.mono ?_
      rintro e w2 ⟨b, zs, rfl, hr2, hp2, hf2, _, ho2⟩
      have HR2 := hide hr2
      have HP2 := hide (hp2.trans HP.out)
      have HF2 := hide hf2
      have HO2 := hide (HO.out.trans ho2)
      clear hr2 hp2 hf2 ho2
      go_wp2_with fail
      go_roundw
      case rel => exact ⟨(i : Int) - 1, zs, rfl, by omega, by omega, HR2.out, HP2.out, by show HeapFrom _ _ _; rw [show ((i : Int) - 1 + 1).toNat = i from by omega]; exact HF2.out, HO2.out⟩
      case measure => simp [intOf]
    · obtain rfl : I = -1 := by omega
      go_wp2_with fail
      go_end0
      exact ⟨rfl, ys, hr, hp, heap_of_from HF.out, ho⟩

theorem drop_none (g : Nat) (t id : Int) (w : World) (p : PileM w g t []) :
    Calls Try.prog 17 #[.pointer (some ⟨g, 0, none⟩), .int .i64 id] w fun e w' => e = .returned (.int .i64 0) ∧ Below w.heap.size w w' := by
  have C := hide (fun W (hb : Below w.heap.size w W) => plen_any g t [] W (p.below hb))
  clear p
  go_enter Try.func17, Try.ntmps17
  go_wp2_with fail
  refine (C.out _ ((Below.refl _ _).alloc (Nat.le_refl _) _)).mono ?_
  rintro e w1 ⟨rfl, rfl⟩
  go_wp2_with fail
  go_ret
  exact ⟨rfl, (Below.refl _ _).alloc (Nat.le_refl _) _⟩

set_option maxHeartbeats 4000000 in
theorem drop_some (g : Nat) (t id : Int) (xs : List It) (w : World) (p : Pl w g t xs) (h0 : 0 < xs.length) (hn : xs.length ≤ 549755813888) :
    Calls Try.prog 17 #[.pointer (some ⟨g, 0, none⟩), .int .i64 id] w fun e w' => ∃ ys, e = .returned (.int .i64 (xs.length - ys.length)) ∧ Turned w g w' t ys ∧ ys.Perm (kept id xs) := by
  have hpm := p.1
  have hgl := p.1.lt
  obtain ⟨⟨A, cap, hg, hcap, hr⟩, hh⟩ := p
  obtain ⟨h, rfl, hng, r⟩ : ∃ h, A = some ⟨h, 0, none⟩ ∧ h ≠ g ∧ RowM w h cap xs := by
    rcases hr with ⟨_, rfl, _⟩ | hr
    · simp at h0
    · exact hr
  have hhl := r.lt
  have hs : w.cell? ⟨g, 0, none⟩ = some (.slice (some ⟨h, 0, none⟩) xs.length cap) := by rw [cell_of_row w g 0 _ _ (0, 0) hg]; rfl
  have hof : Of w g h := .inr ⟨_, _, hs⟩
  have hz : ((xs.length : Int) == 0) = false := by rw [beq_eq_false_iff_ne]; omega
  have hA : Below w.heap.size w (w.alloc (.cells #[.int .i64 id] 3)) := (Below.refl _ _).alloc (Nat.le_refl _) _
  have C := hide (plen_any g t xs _ (hpm.below hA))
  have D := hide (delete_any h xs.length cap w.heap.size id xs _ (r.below hA) rfl (by omega) (World.cell?_alloc_new w _ _ 0) (by omega))
  have hsA := cell_later hA hs
  have hgA : (w.alloc (.cells #[.int .i64 id] 3)).heap[g]? = _ := (Below.heap_alloc w _ g hgl).trans hg
  have hA2 := hide hA
  have HG := hide hg
  have HC := hide hcap
  have HNG := hide hng
  have HR := hide r
  have HOF := hide hof
  have HGA := hide hgA
  clear hg hcap hr hng r hof hh hpm hA hgA hs
  go_enter Try.func17, Try.ntmps17
  go_wp2_with fail
  refine C.out.mono ?_
  rintro e w1 ⟨rfl, rfl⟩
  go_wp2_with fail
  refine D.out.mono ?_
  rintro e w1 ⟨m, rfl, hm, hr1, ho1⟩
  have hg1 : w1.heap[g]? = some (.cells #[.slice (some ⟨h, 0, none⟩) xs.length cap, .int .i64 t] 56 (0, 0)) := by
    rw [ho1.block g (by simp; omega) (fun e => HNG.out e.symm)]; exact HGA.out
  have hs1 : w1.cell? ⟨g, 0, none⟩ = some (.slice (some ⟨h, 0, none⟩) xs.length cap) := by rw [cell_of_row w1 g 0 _ _ (0, 0) hg1]; rfl
  have hf1 : w1.frozen? ⟨g, 0, none⟩ = false := by simp [World.frozen?, hg1]
  have hml : m ≤ xs.length := by rw [hm]; exact kept_le id xs
  have hr2 : RowM (w1.setCell ⟨g, 0, none⟩ (.slice (some ⟨h, 0, none⟩) m cap)) h cap (kept id xs) := hr1.keep (Below.heap_setCell _ _ _ _ HNG.out)
  have hg2 : (w1.setCell ⟨g, 0, none⟩ (.slice (some ⟨h, 0, none⟩) m cap)).heap[g]? = some (.cells #[.slice (some ⟨h, 0, none⟩) m cap, .int .i64 t] 56 (0, 0)) := heap_set _ _ _ _ _ _ hg1
  have hs2 : (w1.setCell ⟨g, 0, none⟩ (.slice (some ⟨h, 0, none⟩) m cap)).cell? ⟨g, 0, none⟩ = some (.slice (some ⟨h, 0, none⟩) m cap) := by rw [cell_of_row _ g 0 _ _ (0, 0) hg2]; rfl
  have I := hide (init_any g h m cap (kept id xs) _ (Ne.symm HNG.out) hs2 hr2 hm.symm (by omega))
  have HG2 := hide hg2
  have HM := hide hm
  have HO1 := hide ho1
  clear hr1 hg1 hr2 hg2 hs2 hm ho1 hsA
  go_wp2_with fail
  refine I.out.mono ?_
  rintro e w3 ⟨rfl, ys, hr3, hp3, hh3, ho3⟩
  have hbase : Only (Of w g) w (w1.setCell ⟨g, 0, none⟩ (.slice (some ⟨h, 0, none⟩) m cap)) := by
    have a1 : Only (Of w g) w (w.alloc (.cells #[.int .i64 id] 3)) := Only.of_below hA2.out
    have a2 : Only (Of w g) w w1 := ⟨HO1.out.os.trans a1.os, HO1.out.tape.trans a1.tape, HO1.out.output.trans a1.output, Nat.le_trans a1.size HO1.out.size, fun k hk hS =>
      (HO1.out.block k (by simp; omega) (fun e => hS (by rw [show k = h from e]; exact HOF.out))).trans (a1.block k hk hS)⟩
    exact a2.setCell (.inl (.inl rfl)) _
  have hg3 : w3.heap[g]? = some (.cells #[.slice (some ⟨h, 0, none⟩) m cap, .int .i64 t] 56 (0, 0)) := by
    rw [ho3.block g (by have := hbase.size; omega) (fun e => HNG.out e.symm)]; exact HG2.out
  have hs3 : w3.cell? ⟨g, 0, none⟩ = some (.slice (some ⟨h, 0, none⟩) m cap) := by rw [cell_of_row w3 g 0 _ _ (0, 0) hg3]; rfl
  have hyl : ys.length = m := by rw [hp3.length_eq]; exact HM.out.symm
  have HG3 := hide hg3
  have HR3 := hide hr3
  have HP3 := hide hp3
  have HH3 := hide hh3
  have HO3 := hide ho3
  have HB := hide hbase
  have HYL := hide hyl
  clear hg3 hr3 hp3 hh3 ho3 hbase hyl
  go_wp2_with fail
  go_ret
  refine ⟨ys, by rw [HYL.out]; rfl, ⟨⟨⟨_, cap, by rw [HYL.out]; exact HG3.out, HC.out, .inr ⟨h, rfl, HNG.out, HR3.out⟩⟩, by rw [HYL.out]; exact HH3.out⟩, ?_, ?_⟩, HP3.out⟩
  · exact HB.out.trans ⟨HO3.out.os, HO3.out.tape, HO3.out.output, HO3.out.size, fun k hk hS => HO3.out.block k hk (fun e => hS (by rw [show k = h from e]; exact HOF.out))⟩
  · rintro k (rfl | ⟨n, c, hk⟩)
    · exact .inl (.inl rfl)
    · rw [cell_of_row w3 g 0 _ _ (0, 0) HG3.out] at hk
      have e : h = k := slice_block hk
      subst e
      exact .inl HOF.out
end Go.Proofs.Ytlakffjodlandaa
