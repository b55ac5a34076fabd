/-
  Package graph's Check: a plain function. No condition.
-/
import Derived.Test.YtedpppkknmeheaaG3
namespace Go.Proofs.Ytedpppkknmeheaa
open Go.RowKit

instance : Inhabited Nd := ⟨⟨0, none, 0, 0, [], none, 0, 0, 0, none, 0, 0, [], none, 0, 0, none, 0, 0, []⟩⟩
/-- A graph: where its nodes lie, and the nodes. -/
structure Gr where
  a : Option Addr
  len : Nat
  cap : Nat
  l : List Nd
instance : Inhabited Gr := ⟨⟨none, 0, 0, []⟩⟩
def Nds (w : World) (a : Option Addr) (len cap : Nat) (l : List Nd) : Prop :=
  l.length = len ∧ len ≤ cap ∧ ∀ i, i < len → ∃ b off, a = some ⟨b, off, none⟩ ∧
    (w.cell? ⟨b, off + i * 7, none⟩ = some (.int .i64 (l.getD i default).op) ∧ w.cell? ⟨b, off + i * 7 + 1, none⟩ = some (.slice (l.getD i default).ia (l.getD i default).il (l.getD i default).ic) ∧ w.cell? ⟨b, off + i * 7 + 2, none⟩ = some (.slice (l.getD i default).ta (l.getD i default).tl (l.getD i default).tc) ∧ w.cell? ⟨b, off + i * 7 + 3, none⟩ = some (.int .i64 (l.getD i default).no) ∧ w.cell? ⟨b, off + i * 7 + 4, none⟩ = some (.slice (l.getD i default).sa (l.getD i default).sl (l.getD i default).sc) ∧ w.cell? ⟨b, off + i * 7 + 5, none⟩ = some (.slice (l.getD i default).da (l.getD i default).dl (l.getD i default).dc) ∧ w.cell? ⟨b, off + i * 7 + 6, none⟩ = some (.slice (l.getD i default).ha (l.getD i default).hl (l.getD i default).hc)) ∧ (l.getD i default).ok w ∧ (l.getD i default).small
theorem Nds.later {w w' : World} {a : Option Addr} {len cap : Nat} {l : List Nd} (h : Nds w a len cap l) (hb : Below w.heap.size w w') : Nds w' a len cap l :=
  ⟨h.1, h.2.1, fun i hi => by
    obtain ⟨b, off, e, ⟨c0, c1, c2, c3, c4, c5, c6⟩, ho, hs⟩ := h.2.2 i hi
    exact ⟨b, off, e, ⟨cell_later hb c0, cell_later hb c1, cell_later hb c2, cell_later hb c3, cell_later hb c4, cell_later hb c5, cell_later hb c6⟩, ho.later hb, hs⟩⟩
def Grs (w : World) (a : Option Addr) (len cap : Nat) (gs : List Gr) : Prop :=
  gs.length = len ∧ len ≤ cap ∧ ∀ i, i < len → ∃ b off, a = some ⟨b, off, none⟩ ∧ w.cell? ⟨b, off + i, none⟩ = some (.slice (gs.getD i default).a (gs.getD i default).len (gs.getD i default).cap) ∧ Nds w (gs.getD i default).a (gs.getD i default).len (gs.getD i default).cap (gs.getD i default).l
theorem Grs.later {w w' : World} {a : Option Addr} {len cap : Nat} {gs : List Gr} (h : Grs w a len cap gs) (hb : Below w.heap.size w w') : Grs w' a len cap gs :=
  ⟨h.1, h.2.1, fun i hi => by
    obtain ⟨b, off, e, c, hn⟩ := h.2.2 i hi
    exact ⟨b, off, e, cell_later hb c, hn.later hb⟩⟩

def bad (L VL : Nat) (V : List (List Int)) : List Nd → Nat → Option (Nat × Int)
  | [], _ => none
  | n :: ns, i => if nodeE L VL V n i = 0 then bad L VL V ns (i + 1) else some (i, nodeE L VL V n i)
def chk (L VL : Nat) (V : List (List Int)) : List Gr → Nat → Int × Int × Int
  | [], _ => (0, 0, 0)
  | x :: xs, g => if x.len = 0 ∨ 256 < x.len then (g, 0, 13) else match bad L VL V x.l 0 with
    | some (i, e) => (g, i, e)
    | none => chk L VL V xs (g + 1)
def check (L VL : Nat) (V : List (List Int)) (gs : List Gr) : Int × Int × Int := if 16 < L ∨ 32 < VL then (0, 0, 13) else chk L VL V gs 0
theorem drop_cons {α : Type} [Inhabited α] {l : List α} {k : Nat} (h : k < l.length) : l.drop k = l.getD k default :: l.drop (k + 1) := by
  rw [List.drop_eq_getElem_cons h, List.getD_eq_getElem?_getD, List.getElem?_eq_getElem h]; rfl

set_option maxHeartbeats 16000000 in
theorem check_any (la : Option Addr) (ll lc : Nat) (va : Option Addr) (vl vc : Nat) (V : List (List Int)) (gs : List Gr) (w : World) (hG : Grs w la ll lc gs) (hV : Vs w va vl vc V) :
    Calls Try.prog 12 #[.slice la ll lc, .slice va vl vc] w fun e w' => e = .returned (.tuple #[.int .i64 (check ll vl V gs).1, .int .i64 (check ll vl V gs).2.1, .int .i64 (check ll vl V gs).2.2]) ∧ Below w.heap.size w w' := by
  have HG := hide hG
  have HV := hide hV
  clear hG hV
  by_cases h1 : 16 < ll
  · have HR : Hid (check ll vl V gs = (0, 0, 13)) := by unfold Hid check; rw [if_pos (.inl h1)]
    rw [HR.out]
    go_enter Try.func12, Try.ntmps12
    go_wp2_with fail
    go_ret3
    exact ⟨rfl, Below.refl _ _⟩
  by_cases h2 : 32 < vl
  · have HR : Hid (check ll vl V gs = (0, 0, 13)) := by unfold Hid check; rw [if_pos (.inr h2)]
    rw [HR.out]
    go_enter Try.func12, Try.ntmps12
    go_wp2_with fail
    go_ret3
    exact ⟨rfl, Below.refl _ _⟩
  have HR : Hid (check ll vl V gs = chk ll vl V gs 0) := by unfold Hid check; rw [if_neg (by omega)]
  rw [HR.out]
  obtain ⟨R, hR⟩ : ∃ R, chk ll vl V gs 0 = R := ⟨_, rfl⟩
  rw [hR]
  have HRR := hide hR
  clear hR HR
  go_enter Try.func12, Try.ntmps12
  go_wp2_with fail
  go_loopw [22] (fun i wr => ∃ g : Nat, g ≤ ll ∧ i = .int .i64 g ∧ Below w.heap.size w wr ∧ Hid (chk ll vl V (gs.drop g) g = R)) (fun i _ => ll - (intOf i).toNat)
  case atStart => exact ⟨0, Nat.zero_le _, rfl, Below.refl _ _, HRR.out⟩
  case round =>
    obtain ⟨g, hg, rfl, hbel, HN⟩ := hrel
    by_cases hlt : g < ll
    · obtain ⟨b, off, rfl, hc, hN⟩ := HG.out.2.2 g hlt
      obtain ⟨wo, rfl⟩ : ∃ wo : World, wo = wr := ⟨_, rfl⟩
      have hr := cell_later hbel hc
      have hdrop := drop_cons (l := gs) (k := g) (by rw [HG.out.1]; exact hlt)
      obtain ⟨x, hx⟩ : ∃ x, gs.getD g default = x := ⟨_, rfl⟩
      rw [hx] at hr hN hdrop
      have HN0 := HN.out
      rw [hdrop] at HN0
      have HNX := hide HN0
      have HND := hide hN
      have HBE := hide hbel
      obtain ⟨xa, xl, xc, xs⟩ := x
      simp only at hr HND
      clear hx hc hN hdrop HN0 HN hbel
      by_cases z : xl = 0 ∨ 256 < xl
      · have HE : Hid (R = ((g : Int), 0, 13)) := by
          have h := HNX.out
          unfold chk at h
          rw [if_pos z] at h
          exact h.symm
        rcases z with rfl | z
        · go_wp2_with fail
          go_ret3
          rw [HE.out]
          exact ⟨rfl, (HBE.out.alloc HBE.out.size _)⟩
        · have zn : xl ≠ 0 := by omega
          go_wp2_with fail
          go_ret3
          rw [HE.out]
          exact ⟨rfl, (HBE.out.alloc HBE.out.size _)⟩
      · have z0 : xl ≠ 0 := fun h => z (.inl h)
        have z1 : ¬ 256 < xl := fun h => z (.inr h)
        have e0 : ((xl : Int) == 0) = false := by rw [beq_eq_false_iff_ne]; omega
        have e1 : decide ((256 : Int) < (xl : Int)) = false := by rw [decide_eq_false_iff_not]; omega
        have HE : Hid ((match bad ll vl V xs 0 with | some (i, e) => ((g : Int), (i : Int), e) | none => chk ll vl V (gs.drop (g + 1)) (g + 1)) = R) := by
          have h := HNX.out
          unfold chk at h
          rw [if_neg z] at h
          exact h
        obtain ⟨B, hB⟩ : ∃ B, bad ll vl V xs 0 = B := ⟨_, rfl⟩
        rw [hB] at HE
        have HBB := hide hB
        clear z hB HNX
        go_wp2_with fail
        have hb5 : Below w.heap.size w (wo.alloc (.cells #[.slice xa xl xc] 34)) := HBE.out.alloc HBE.out.size _
        go_loopw [41] (fun i wr => ∃ k : Nat, k ≤ xl ∧ i = .int .i64 k ∧ Below w.heap.size w wr ∧ Hid (bad ll vl V (xs.drop k) k = B)) (fun i _ => xl - (intOf i).toNat)
        case atStart => exact ⟨0, Nat.zero_le _, rfl, hb5, HBB.out⟩
        case round =>
          obtain ⟨k, hk, rfl, hbel, HK⟩ := hrel
          clear hb5
          by_cases hlt2 : k < xl
          · obtain ⟨b2, off2, rfl, ⟨c0, c1, c2, c3, c4, c5, c6⟩, hok, hsm⟩ := HND.out.2.2 k hlt2
            have hdrop := drop_cons (l := xs) (k := k) (by rw [HND.out.1]; exact hlt2)
            obtain ⟨n, hn⟩ : ∃ n, xs.getD k default = n := ⟨_, rfl⟩
            rw [hn] at c0 c1 c2 c3 c4 c5 c6 hok hsm hdrop
            have HK0 := HK.out
            rw [hdrop] at HK0
            unfold bad at HK0
            have d0 := cell_later hbel c0
            have d1 := cell_later hbel c1
            have d2 := cell_later hbel c2
            have d3 := cell_later hbel c3
            have d4 := cell_later hbel c4
            have d5 := cell_later hbel c5
            have d6 := cell_later hbel c6
            have C : Hid (∀ w', Below w.heap.size w w' → Calls Try.prog 19 #[lookv (some ⟨b, off, none⟩) ll lc va vl vc n k] w' fun e w2 => e = .returned (.int .i64 (nodeE ll vl V n k)) ∧ Below w.heap.size w w2) :=
              hide (fun w' hbw => (first_any (some ⟨b, off, none⟩) ll lc va vl vc n k w' V (hok.later hbw) hsm (HV.out.later hbw)).mono (fun e w2 h => ⟨h.1, hbw.trans (h.2.mono hbw.size)⟩))
            unfold lookv at C
            have HBL := hide hbel
            have hbN : Below w.heap.size w (wr.alloc (.cells #[.int .i64 n.op, .slice n.ia n.il n.ic, .slice n.ta n.tl n.tc, .int .i64 n.no, .slice n.sa n.sl n.sc, .slice n.da n.dl n.dc, .slice n.ha n.hl n.hc] 41)) := hbel.alloc hbel.size _
            have HBN := hide hbN
            clear hn c0 c1 c2 c3 c4 c5 c6 hok hsm hdrop HK hbel hbN
            by_cases hz : nodeE ll vl V n k = 0
            · rw [if_pos hz] at HK0
              rw [hz] at C
              have HK1 := hide HK0
              clear HK0 hz
              go_wp2_with (go_at_call 19; (with_reducible refine (C.out _ HBN.out).mono ?_); rintro e w2 ⟨rfl, hb2⟩; have HB2 := hide hb2; clear hb2)
              go_roundw
              case rel => exact ⟨k + 1, by omega, by go_num, HB2.out, HK1.out⟩
              case measure => simp [intOf]; omega
            · rw [if_neg hz] at HK0
              have HRR2 : Hid (R = ((g : Int), (k : Int), nodeE ll vl V n k)) := by
                have h := HE.out
                rw [← HK0] at h
                exact h.symm
              have hne : (nodeE ll vl V n k == 0) = false := by simpa using hz
              clear HK0 hz
              generalize nodeE ll vl V n k = e0 at C HRR2 hne
              go_wp2_with (go_at_call 19; (with_reducible refine (C.out _ HBN.out).mono ?_); rintro e w2 ⟨rfl, hb2⟩; have HB2 := hide hb2; clear hb2)
              go_ret3
              rw [HRR2.out]
              exact ⟨rfl, HB2.out⟩
          · obtain rfl : xl = k := by omega
            have HR3 : Hid (chk ll vl V (gs.drop (g + 1)) (g + 1) = R) := by
              have h := HK.out
              rw [List.drop_eq_nil_of_le (by rw [HND.out.1]; exact Nat.le_refl _)] at h
              have h2 := HE.out
              rw [← show none = B from h] at h2
              exact h2
            have HB := hide hbel
            clear hbel
            go_wp2_with fail
            go_roundw
            case rel => exact ⟨g + 1, by omega, by go_num, HB.out, HR3.out⟩
            case measure => simp [intOf]; omega
    · obtain rfl : ll = g := by omega
      have HE : Hid (R = (0, 0, 0)) := by
        have h := HN.out
        rw [List.drop_eq_nil_of_le (by rw [HG.out.1]; exact Nat.le_refl _)] at h
        exact h.symm
      have HB := hide hbel
      clear hbel
      go_wp2_with fail
      go_ret3
      rw [HE.out]
      exact ⟨rfl, HB.out⟩
end Go.Proofs.Ytedpppkknmeheaa
