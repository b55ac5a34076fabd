/-
  The document's own list of who is there: Best, Without; its row beside a pile. No condition.
-/
import Derived.Test.YtlakffjodlandaaPileD
import Derived.Test.YtlakffjodlandaaReadA
import Derived.Test.YtlakffjodlandaaApp
namespace Go.Proofs.Ytlakffjodlandaa
open Go.RowKit

def fl (L : List (Int × Int)) : List Value := L.flatMap fun p => [.int .i64 p.1, .int .i64 p.2]
theorem fl_nil : fl [] = [] := rfl
theorem fl_cons (p : Int × Int) (L : List (Int × Int)) : fl (p :: L) = .int .i64 p.1 :: .int .i64 p.2 :: fl L := rfl
theorem fl_append (L M : List (Int × Int)) : fl (L ++ M) = fl L ++ fl M := by simp [fl]
theorem fl_length (L : List (Int × Int)) : (fl L).length = L.length * 2 := by
  induction L with
  | nil => rfl
  | cons p L ih => rw [fl_cons]; simp [ih]; omega
theorem fl_take (L : List (Int × Int)) (k : Nat) : fl (L.take k) = (fl L).take (k * 2) := by
  induction k generalizing L with
  | zero => simp [fl]
  | succ k ih =>
    cases L with
    | nil => simp [fl]
    | cons p L => rw [List.take_succ_cons, fl_cons, fl_cons, show (k + 1) * 2 = k * 2 + 1 + 1 by omega, List.take_succ_cons, List.take_succ_cons, ih]
theorem fl_drop (L : List (Int × Int)) (k : Nat) : fl (L.drop k) = (fl L).drop (k * 2) := by
  induction k generalizing L with
  | zero => simp [fl]
  | succ k ih =>
    cases L with
    | nil => simp [fl]
    | cons p L => rw [List.drop_succ_cons, fl_cons, show (k + 1) * 2 = k * 2 + 1 + 1 by omega, List.drop_succ_cons, List.drop_succ_cons, ih]
def fp (L : List (Int × Int)) (k : Nat) : Int × Int := L.getD k (0, 0)
theorem fp_get (L : List (Int × Int)) (k : Nat) (h : k < L.length) : fp L k = L[k] := by simp [fp, h]
theorem fl_at (L : List (Int × Int)) (k : Nat) (h : k < L.length) : (fl L)[k * 2]? = some (.int .i64 (fp L k).1) ∧ (fl L)[k * 2 + 1]? = some (.int .i64 (fp L k).2) := by
  have e : (fl L).drop (k * 2) = .int .i64 (fp L k).1 :: .int .i64 (fp L k).2 :: fl (L.drop (k + 1)) := by
    rw [← fl_drop, List.drop_eq_getElem_cons h, fl_cons, fp_get L k h]
  constructor
  · have := congrArg (·[0]?) e
    simpa using this
  · have := congrArg (·[1]?) e
    simpa using this
theorem fl_one (L : List (Int × Int)) : ∀ u ∈ fl L, u.oneCell' = true := by
  intro u hu
  obtain ⟨p, _, hp⟩ := List.mem_flatMap.1 hu
  simp at hp
  rcases hp with rfl | rfl <;> rfl

/-- The row of the document's list. -/
def RowP (B : Nat) (w : World) (A : Option Addr) (cap : Nat) (L : List (Int × Int)) : Prop := w.ownsRow B 43 2 (.slice A L.length cap) L.length (fl L)
theorem RowP.of {B : Nat} {w : World} {v : Value} {n : Nat} {L : List (Int × Int)} (h : w.ownsRow B 43 2 v n (fl L)) : ∃ A cap, v = .slice A n cap ∧ n = L.length ∧ RowP B w A cap L := by
  have hn : n = L.length := by have := h.1; rw [fl_length] at this; omega
  subst hn
  have h0 := h
  rcases h.2 with ⟨hv, h0'⟩ | ⟨g, cap, cur, hv, _⟩
  · rw [hv] at h0
    refine ⟨none, 0, by rw [hv, h0'], rfl, ?_⟩
    unfold RowP
    rw [h0'] at h0 ⊢
    exact h0
  · rw [hv] at h0
    exact ⟨_, cap, hv, rfl, h0⟩
theorem RowP.nil (B : Nat) (w : World) : RowP B w none 0 [] := World.ownsRow_nil w B _ 2
section
variable {B : Nat} {w w' : World} {A : Option Addr} {cap : Nat} {L : List (Int × Int)}
theorem RowP.form (h : RowP B w A cap L) (hn : 0 < L.length) : ∃ g, A = some ⟨g, 0, none⟩ ∧ L.length ≤ cap ∧ g < w.heap.size ∧ ∀ j u, (fl L)[j]? = some u → w.cell? ⟨g, j, none⟩ = some u := by
  have h0 := h
  rcases h.2 with ⟨_, h'⟩ | ⟨g, cap', cur, hv, _, hg, hc, hm, hs, ht⟩
  · omega
  · have e1 : A = some ⟨g, 0, none⟩ := by injection hv
    have e2 : cap = cap' := by injection hv
    subst e1 e2
    refine ⟨g, rfl, hc, (h0.lt g rfl).2, fun j u hj => ?_⟩
    have := World.ownsRow.cells h0 (g := g) rfl j u hj
    rwa [Go.WideShapes.add_plain, Nat.zero_add] at this
theorem RowP.keep (h : RowP B w A cap L) (hk : ∀ g c, A = some ⟨g, 0, none⟩ → w.heap[g]? = some (.cells c 43 (0, 0)) → w'.heap[g]? = w.heap[g]?) : RowP B w' A cap L := by
  refine ⟨h.1, h.2.imp id ?_⟩
  rintro ⟨g, cap', cur, hv, hB, hg, rest⟩
  refine ⟨g, cap', cur, hv, hB, (hk g cur (by injection hv) hg).trans hg, rest⟩
theorem lt_of_heap {g : Nat} {o : Obj} (h : w.heap[g]? = some o) : g < w.heap.size := by
  rcases Nat.lt_or_ge g w.heap.size with hlt | hge
  · exact hlt
  · rw [Array.getElem?_eq_none hge] at h; cases h
theorem RowP.below (h : RowP B w A cap L) (hb : Below w.heap.size w w') : RowP B w' A cap L := h.keep fun g _ _ hg => hb.block g (lt_of_heap hg)
theorem RowP.other {t : Int} {q : Nat} {xs : List It} (h : RowP B w A cap L) (p : PileM w q t xs) (ho : Only (Of w q) w w') : RowP B w' A cap L :=
  h.keep fun g _ _ hg => ho.block g (lt_of_heap hg) (p.other hg (by decide) (by decide))
theorem RowP.far {e g : Nat} {c : Array Value} (h : RowP B w A cap L) (hg : w.heap[g]? = some (.cells c e (0, 0))) (he : e ≠ 43) : (Value.slice A L.length cap).ownBlock ≠ some g := by
  intro hb
  rcases h.2 with ⟨hv, _⟩ | ⟨g', cap', cur, hv, _, hg', _⟩
  · rw [hv] at hb; cases hb
  · rw [hv] at hb
    have : g' = g := by simpa [Value.ownBlock] using hb
    subst this
    rw [hg] at hg'
    injection hg' with h1
    injection h1 with _ h2 _
    exact he h2
theorem grown_block {w w' : World} {row : Option Nat} (hg : w.grownBy w' row) {k : Nat} (hl : k < w.heap.size) (hne : row ≠ some k) : w'.heap[k]? = w.heap[k]? := hg.block k hl (Ne.symm hne)
theorem Mine.grown {t : Int} {q : Nat} {xs : List It} (m : Mine B w q t xs) (h : RowP B w A cap L) (hg : w.grownBy w' (Value.slice A L.length cap).ownBlock) : Mine B w' q t xs := by
  have hk : ∀ k, k < w.heap.size → Of w q k → w'.heap[k]? = w.heap[k]? := fun k hl ho => by
    obtain ⟨c, e, hc, he⟩ := m.1.1.types ho
    exact grown_block hg hl (h.far hc (by rcases he with rfl | rfl <;> decide))
  exact ⟨⟨m.1.1.keep hk, m.1.2⟩, fun k ho => m.2 k ((Of.keep (hk q m.1.1.lt (.inl rfl)) k).1 ho)⟩
theorem IntsM.grown {g e n : Nat} {f : Nat → Int} (m : IntsM w g e n f) (he : e ≠ 43) (h : RowP B w A cap L) (hg : w.grownBy w' (Value.slice A L.length cap).ownBlock) : IntsM w' g e n f := by
  have m0 := m
  obtain ⟨c, hc, _⟩ := m
  exact m0.keep (grown_block hg m0.lt (h.far hc he))
end

/-- a comes ahead of b. -/
def Pb (a b : Int × Int) : Prop := b.2 < a.2 ∨ a.2 = b.2 ∧ a.1 < b.1
/-- The place of who comes next. -/
def Bst (L : List (Int × Int)) (i : Int) : Prop := (L = [] ∧ i = -1) ∨ ∃ k, k < L.length ∧ i = (k : Nat) ∧ ∀ j, j < L.length → ¬ Pb (fp L j) (fp L k)

set_option maxHeartbeats 4000000 in
theorem best_any {B : Nat} (A : Option Addr) (cap : Nat) (L : List (Int × Int)) (w : World) (r : RowP B w A cap L) (hn : L.length ≤ 1099511627776) :
    Calls Try.prog 14 #[.slice A L.length cap] w fun e w' => ∃ i : Int, e = .returned (.int .i64 i) ∧ Below w.heap.size w w' ∧ Bst L i := by
  have HR := hide r
  obtain ⟨n, hln⟩ : ∃ n, L.length = n := ⟨_, rfl⟩
  have HLN := hide hln
  rw [hln] at hn ⊢
  clear r hln
  go_enter Try.func14, Try.ntmps14
  go_wp2_with fail
  go_loopw [3, 4] (fun b i wr => ∃ (j : Nat) (bi : Int), j ≤ n ∧ i = .int .i64 j ∧ b = .int .i64 bi ∧ Below w.heap.size w wr ∧ Hid ((j = 0 ∧ bi = -1) ∨ ∃ k, k < j ∧ bi = (k : Nat) ∧ ∀ m, m < j → ¬ Pb (fp L m) (fp L k))) (fun _ i _ => n - (intOf i).toNat)
  case atStart => exact ⟨0, -1, Nat.zero_le _, rfl, rfl, Below.refl _ _, .inl ⟨rfl, rfl⟩⟩
  case round =>
    obtain ⟨j, bi, hj, rfl, rfl, hbel, HB⟩ := hrel
    by_cases hlt : j < n
    · obtain ⟨g, rfl, _, hg, hcs⟩ := HR.out.form (by rw [HLN.out]; omega)
      have hx := fl_at L j (by rw [HLN.out]; omega)
      have hx1 := cell_later hbel (hcs _ _ hx.1)
      have hx2 := cell_later hbel (hcs _ _ hx.2)
      have hj0 : (0 : Int) ≤ (j : Int) := by omega
      have hj1 : (j : Int) < (n : Int) := by omega
      rcases HB.out with ⟨rfl, rfl⟩ | ⟨k, hk, rfl, hbest⟩
      · have HBE := hide hbel
        clear hbel hcs hx
        go_wp2_with fail
        go_quiet (fail)
        go_wp2_with fail
        go_roundw
        case rel => exact ⟨1, 0, by omega, by go_num, by go_num, below_drewN HBE.out _, .inr ⟨0, by omega, rfl, fun m hm => by
          obtain rfl : m = 0 := by omega
          unfold Pb; omega⟩⟩
        case measure => (simp [intOf]) <;> omega
      · have hy := fl_at L k (by rw [HLN.out]; omega)
        have hy1 := cell_later hbel (hcs _ _ hy.1)
        have hy2 := cell_later hbel (hcs _ _ hy.2)
        have hk0 : (0 : Int) ≤ (k : Int) := by omega
        have hk1 : (k : Int) < (n : Int) := by omega
        have hkd : decide ((k : Int) < 0) = false := by simp
        obtain ⟨⟨x1, x2⟩, hX⟩ : ∃ x, fp L j = x := ⟨_, rfl⟩
        obtain ⟨⟨y1, y2⟩, hY⟩ : ∃ y, fp L k = y := ⟨_, rfl⟩
        have HX := hide hX
        have HY := hide hY
        have HBS := hide hbest
        rw [hX] at hx1 hx2
        rw [hY] at hy1 hy2
        have HBE := hide hbel
        clear hbel hcs hx hy hX hY hbest HB
        have better : Pb (x1, x2) (y1, y2) → (∀ m, m < j + 1 → ¬ Pb (fp L m) (fp L j)) := by
          intro hp m hm hq
          have h0 := HX.out
          have h1 := HY.out
          rcases Nat.lt_or_ge m j with h | h
          · have := HBS.out m h
            rw [h1] at this
            rw [h0] at hq
            unfold Pb at *
            simp only at *
            omega
          · obtain rfl : m = j := by omega
            unfold Pb at hq; omega
        have worse : ¬ Pb (x1, x2) (y1, y2) → (∀ m, m < j + 1 → ¬ Pb (fp L m) (fp L k)) := by
          intro hp m hm hq
          rcases Nat.lt_or_ge m j with h | h
          · exact HBS.out m h hq
          · obtain rfl : m = j := by omega
            rw [HX.out, HY.out] at hq
            exact hp hq
        have HBT := hide better
        have HWS := hide worse
        clear better worse
        by_cases h1 : y2 < x2
        · have d1 : decide (y2 < x2) = true := by simpa using h1
          have HP := hide (show Pb (x1, x2) (y1, y2) from .inl h1)
          clear h1
          go_wp2_with fail
          go_quiet (fail)
          go_wp2_with fail
          go_roundw
          case rel => exact ⟨j + 1, j, by omega, by go_num, rfl, below_drewN HBE.out _, .inr ⟨j, by omega, rfl, HBT.out HP.out⟩⟩
          case measure => (simp [intOf]) <;> omega
        · have d1 : decide (y2 < x2) = false := by simpa using h1
          by_cases h2 : x2 = y2
          · subst h2
            by_cases h3 : x1 < y1
            · have d3 : decide (x1 < y1) = true := by simpa using h3
              have HP := hide (show Pb (x1, x2) (y1, x2) from .inr ⟨rfl, h3⟩)
              clear h1 h3
              go_wp2_with fail
              go_quiet (fail)
              go_wp2_with fail
              go_roundw
              case rel => exact ⟨j + 1, j, by omega, by go_num, rfl, below_drewN HBE.out _, .inr ⟨j, by omega, rfl, HBT.out HP.out⟩⟩
              case measure => (simp [intOf]) <;> omega
            · have d3 : decide (x1 < y1) = false := by simpa using h3
              have HP := hide (show ¬ Pb (x1, x2) (y1, x2) from fun h => by unfold Pb at h; simp only at h; omega)
              clear h1 h3
              go_wp2_with fail
              go_quiet (fail)
              go_wp2_with fail
              go_roundw
              case rel => exact ⟨j + 1, k, by omega, by go_num, rfl, below_drewN HBE.out _, .inr ⟨k, by omega, rfl, HWS.out HP.out⟩⟩
              case measure => (simp [intOf]) <;> omega
          · have d2 : (x2 == y2) = false := by simpa using h2
            have HP := hide (show ¬ Pb (x1, x2) (y1, y2) from fun h => by unfold Pb at h; simp only at h; omega)
            clear h1 h2
            go_wp2_with fail
            go_quiet (fail)
            go_wp2_with fail
            go_roundw
            case rel => exact ⟨j + 1, k, by omega, by go_num, rfl, below_drewN HBE.out _, .inr ⟨k, by omega, rfl, HWS.out HP.out⟩⟩
            case measure => (simp [intOf]) <;> omega
    · obtain rfl : n = j := by omega
      have HBE := hide hbel
      clear hbel
      go_wp2_with fail
      go_ret
      refine ⟨bi, rfl, HBE.out, ?_⟩
      rcases HB.out with ⟨h0, rfl⟩ | ⟨k, hk, rfl, hbest⟩
      · exact .inl ⟨List.eq_nil_of_length_eq_zero (by rw [HLN.out, h0]), rfl⟩
      · exact .inr ⟨k, by rw [HLN.out]; exact hk, rfl, fun m hm => hbest m (by rw [HLN.out] at hm; exact hm)⟩

theorem item2_info : (Try.prog.info? 43).map (fun i => (i.zero, i.size, i.bytes)) = some (some (.agg #[.int .i64 0, .int .i64 0]), 2, 16) := by kernel_rfl
theorem info_parts2 : ∃ i, Try.prog.info? 43 = some i ∧ i.zero = some (.agg #[.int .i64 0, .int .i64 0]) ∧ i.size = 2 ∧ i.bytes = 16 := by
  obtain ⟨i, hi, he⟩ := Option.map_eq_some_iff.1 item2_info
  simp at he
  exact ⟨i, hi, he.1, he.2.1, he.2.2⟩
theorem src_take {w : World} {g c k : Nat} {L : List (Int × Int)} (h : ∀ j u, (fl L)[j]? = some u → w.cell? ⟨g, j, none⟩ = some u) (hk : k ≤ L.length) : Src w (some ⟨g, 0, none⟩) k c 2 (fl (L.take k)) := by
  refine ⟨by rw [fl_length]; simp [hk], .inr ⟨_, rfl, fun j u hj => ?_⟩⟩
  rw [Go.WideShapes.add_plain, Nat.zero_add]
  refine h j u ?_
  rw [fl_take, List.getElem?_take] at hj
  split at hj
  · exact hj
  · cases hj
theorem src_drop {w : World} {g c k : Nat} {L : List (Int × Int)} (h : ∀ j u, (fl L)[j]? = some u → w.cell? ⟨g, j, none⟩ = some u) (_hk : k ≤ L.length) : Src w (some ⟨g, k * 2, none⟩) (L.length - k) c 2 (fl (L.drop k)) := by
  refine ⟨by rw [fl_length]; simp, .inr ⟨_, rfl, fun j u hj => ?_⟩⟩
  rw [Go.WideShapes.add_plain]
  refine h _ u ?_
  rw [fl_drop, List.getElem?_drop] at hj
  exact hj

theorem Src.nothing (w : World) (ad : Addr) (c size : Nat) : Src w (some ad) 0 c size [] := ⟨by simp, .inr ⟨_, rfl, fun j u hj => by simp at hj⟩⟩
set_option maxHeartbeats 4000000 in
theorem without_any {B : Nat} (A : Option Addr) (cap k : Nat) (L : List (Int × Int)) (w : World) (r : RowP B w A cap L) (hk : k < L.length) (hn : L.length ≤ 1099511627776) :
    Calls Try.prog 16 #[.slice A L.length cap, .int .i64 k] w fun e w' => ∃ A' cap', e = .returned (.slice A' (L.eraseIdx k).length cap') ∧ Below w.heap.size w w' ∧ RowP w.heap.size w' A' cap' (L.eraseIdx k) := by
  obtain ⟨i0, hi, hz0, hz1, hz2⟩ := info_parts2
  obtain ⟨g, rfl, hcap, hg, hcs⟩ := r.form (by omega)
  clear r
  have hk0 : (0 : Int) ≤ (k : Int) := by omega
  have hk1 : (k : Int) < (L.length : Int) := by omega
  have hk2 : k ≤ cap := by omega
  have hw1 : IntKind.i64.wrap ((k : Int) + 1) = (k : Int) + 1 := IntWalk.i64_in _ (by omega)
  have hk3 : (0 : Int) ≤ (k : Int) + 1 := by omega
  have hk4 : (k : Int) + 1 ≤ (L.length : Int) := by omega
  have HC := hide hcs
  clear hcs
  go_enter Try.func16, Try.ntmps16
  go_wp2_with fail
  by_cases hcc : cap = k + 1
  · have hl1 : L.length = k + 1 := by omega
    have HL1 := hide hl1
    have hk5 : (k : Int) ≤ (k : Int) + 1 := by omega
    go_region_law (first
      | (refine step_append_at (o := ⟨some 8, _, _, _, _, _⟩) rfl (.const (.slice none 0 0)) (.tmp 7) 38 rfl w.heap.size 43 i0 (.agg #[.int .i64 0, .int .i64 0]) 2 16 Try.underlying38 hi hz0 hz1 hz2 rfl (by decide) (.slice none 0 0) 0 [] (by first | (simp [Act.eval]; done) | simp [Act.eval, Act.put]) (World.ownsRow_nil _ _ _ 2) (some ⟨g, 0, none⟩) k (k + 1) (fl (L.take k)) (by first | (simp [Act.eval]; done) | simp [Act.eval, Act.put]) (src_take HC.out (by omega)) (fl_one _) (by unfold maxLen; omega) (by omega) (by simp) ?_; intro v1 w1 hown1 hgrow1 hat1; have HO1 := hide hown1; have HG1 := hide hgrow1; clear hown1 hgrow1 hat1)
      | (refine step_append_at (o := ⟨some 13, _, _, _, _, _⟩) rfl (.tmp 8) (.tmp 12) 38 rfl w.heap.size 43 i0 (.agg #[.int .i64 0, .int .i64 0]) 2 16 Try.underlying38 hi hz0 hz1 hz2 rfl (by decide) v1 (0 + k) _ (by first | (simp [Act.eval]; done) | simp [Act.eval, Act.put]) HO1.out (some ⟨g, 0, none⟩) 0 0 [] (by first | (simp [Act.eval]; done) | simp [Act.eval, Act.put]) (Src.nothing _ _ _ _) (by simp) (by unfold maxLen; omega) (by omega) (by have := HG1.out.size; simp at this; omega) ?_; intro v2 w2 hown2 hgrow2 hat2; have HO2 := hide hown2; have HG2 := hide hgrow2; clear hown2 hgrow2 hat2))
    all_goals (
      go_wp2_with fail
      go_ret
      obtain ⟨A', cap', rfl, hln, hr⟩ := RowP.of (L := L.eraseIdx k) (by rw [show fl (L.eraseIdx k) = [] ++ fl (L.take k) ++ [] by rw [List.nil_append, List.eraseIdx_eq_take_drop_succ, fl_append, show L.drop (k + 1) = [] from List.drop_eq_nil_of_le (Nat.le_of_eq HL1.out), fl_nil]]; exact HO2.out)
      rw [hln]
      refine ⟨A', cap', rfl, ?_, hr⟩
      have hs1 := HG1.out.size
      simp at hs1
      exact Below.own (Below.own (below_drewN (Below.refl _ _) 1) (World.ownsRow_nil _ _ 43 2) HG1.out (by simp)) HO1.out HG2.out (by omega))
  · go_region_law (first
      | (refine step_append_at (o := ⟨some 8, _, _, _, _, _⟩) rfl (.const (.slice none 0 0)) (.tmp 7) 38 rfl w.heap.size 43 i0 (.agg #[.int .i64 0, .int .i64 0]) 2 16 Try.underlying38 hi hz0 hz1 hz2 rfl (by decide) (.slice none 0 0) 0 [] (by first | (simp [Act.eval]; done) | simp [Act.eval, Act.put]) (World.ownsRow_nil _ _ _ 2) (some ⟨g, 0, none⟩) k cap (fl (L.take k)) (by first | (simp [Act.eval]; done) | simp [Act.eval, Act.put]) (src_take HC.out (by omega)) (fl_one _) (by unfold maxLen; omega) (by omega) (by simp) ?_; intro v1 w1 hown1 hgrow1 hat1; have HO1 := hide hown1; have HG1 := hide hgrow1; clear hown1 hgrow1 hat1)
      | (refine step_append_at (o := ⟨some 13, _, _, _, _, _⟩) rfl (.tmp 8) (.tmp 12) 38 rfl w.heap.size 43 i0 (.agg #[.int .i64 0, .int .i64 0]) 2 16 Try.underlying38 hi hz0 hz1 hz2 rfl (by decide) v1 (0 + k) _ (by first | (simp [Act.eval]; done) | simp [Act.eval, Act.put]) HO1.out (some ⟨g, (k + 1) * 2, none⟩) (L.length - (k + 1)) (cap - (k + 1)) (fl (L.drop (k + 1))) (by first | (simp [Act.eval]; done) | simp [Act.eval, Act.put]) (src_drop (fun j u hj => (grown_cell HG1.out (by simpa using hg) (by simp [Value.ownBlock])).1.trans (HC.out j u hj)) (by omega)) (fl_one _) (by unfold maxLen; omega) (by omega) (by have := HG1.out.size; simp at this; omega) ?_; intro v2 w2 hown2 hgrow2 hat2; have HO2 := hide hown2; have HG2 := hide hgrow2; clear hown2 hgrow2 hat2))
    all_goals (
      go_wp2_with fail
      go_ret
      obtain ⟨A', cap', rfl, hln, hr⟩ := RowP.of (L := L.eraseIdx k) (by rw [show fl (L.eraseIdx k) = [] ++ fl (L.take k) ++ fl (L.drop (k + 1)) by rw [List.nil_append, List.eraseIdx_eq_take_drop_succ, fl_append]]; exact HO2.out)
      rw [hln]
      refine ⟨A', cap', rfl, ?_, hr⟩
      have hs1 := HG1.out.size
      simp at hs1
      exact Below.own (Below.own (below_drewN (Below.refl _ _) 1) (World.ownsRow_nil _ _ 43 2) HG1.out (by simp)) HO1.out HG2.out (by omega))
end Go.Proofs.Ytlakffjodlandaa
