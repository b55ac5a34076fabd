/-
  hook.Do. No condition.
-/
import Derived.Test.YtegofhmkebbinaaSh9
namespace Go.Proofs.Ytegofhmkebbinaa
open Go.RowKit
attribute [local go_sem] run_store_float

/-- What a hook makes of numbers; nothing: there is an odd one. -/
def stepC (h : Int × Nat) (cs : List (Option Nat)) : Option (List (Option Nat)) :=
  if h.1 = 1 then some (cs.map fun c => Fl.opC .mul c (Fl.can h.2)) else if h.1 = 2 then some (cs.map (Fl.clipC h.2)) else if h.1 = 3 then some (cs.map fun _ => some 0)
  else if cs.any Fl.oddC = true then none else some cs
def doC : List (Int × Nat) → List (Option Nat) → Option (List (Option Nat))
  | [], cs => some cs
  | h :: hs, cs => (stepC h cs).bind (doC hs)
def resC (hs : List (Int × Nat)) (S : List Int) (cs : List (Option Nat)) : Int × List Int × List (Option Nat) :=
  if maysB hs = false then (8, [], []) else if mayB S cs.length = false then (2, [], []) else match doC hs cs with | none => (8, [], []) | some r => (0, S, r)
/-- A tensor, and an error's number. -/
def Did (B : Nat) (w' : World) (e : Ending) (r : Int × List Int × List (Option Nat)) : Prop :=
  ∃ a n c b m d D, e = .returned (.tuple #[.agg #[.slice a n c, .slice b m d], .int .i64 r.1]) ∧ Ten B w' a n c b m d r.2.1 D ∧ D.map Fl.can = r.2.2
theorem ten_none (B : Nat) (w : World) : Ten B w none 0 0 none 0 0 [] [] := ⟨World.ownsRow_nil _ _ _ 1, World.ownsRow_nil _ _ _ 1⟩
theorem hk_drop {hs : List (Int × Nat)} {k : Nat} (h : k < hs.length) : hs.drop k = hk hs k :: hs.drop (k + 1) := by
  unfold hk; rw [List.drop_eq_getElem_cons h]; simp [h]
theorem one_kinds {h : Int × Nat} (e : oneB h = true) : h.1 = 1 ∨ h.1 = 2 ∨ h.1 = 3 ∨ h.1 = 4 := by
  unfold oneB at e
  by_cases h1 : h.1 = 1
  · exact .inl h1
  · by_cases h2 : h.1 = 2
    · exact .inr (.inl h2)
    · rw [if_neg h1, if_neg h2] at e
      by_cases h3 : h.1 = 3 ∨ h.1 = 4
      · omega
      · rw [if_neg h3] at e; cases e
theorem mays_one {hs : List (Int × Nat)} (h : maysB hs = true) {k : Nat} (hk' : k < hs.length) : oneB (hk hs k) = true := by
  unfold maysB at h
  rw [Bool.and_eq_true, List.all_eq_true] at h
  exact h.2 _ (hk_mem hk')

theorem Ten.far {B : Nat} {w : World} {a b : Option Addr} {n c m d g i : Nat} {S : List Int} {D : List Nat} {cs : Array Value} (t : Ten B w a n c b m d S D) (hg : w.heap[g]? = some (.cells cs 26 (0, 0))) (u : Value) : Ten B (w.setCell ⟨g, i, none⟩ u) a n c b m d S D := by
  constructor
  · refine row_keep t.1 fun g' c' _ hg' => Below.heap_setCell _ _ _ _ (fun e => ?_)
    have e' : g' = g := e
    rw [e', hg] at hg'
    injection hg' with h; injection h with _ h; exact absurd h (by decide)
  · refine row_keep t.2 fun g' c' _ hg' => Below.heap_setCell _ _ _ _ (fun e => ?_)
    have e' : g' = g := e
    rw [e', hg] at hg'
    injection hg' with h; injection h with _ h; exact absurd h (by decide)
theorem put_self {w : World} {g : Nat} {x y u v : Value} {t : TypeId} (h : w.heap[g]? = some (.cells #[x, y] t (0, 0))) : ((w.setCell ⟨g, 0, none⟩ u).setCell ⟨g, 1, none⟩ v).heap[g]? = some (.cells #[u, v] t (0, 0)) :=
  heap_setCell_same _ g 1 _ t v (heap_setCell_same w g 0 _ t u h)
theorem put_ten {B : Nat} {w : World} {a b : Option Addr} {n c m d g : Nat} {S : List Int} {D : List Nat} {x y : Value} (t : Ten B w a n c b m d S D) (hg : w.heap[g]? = some (.cells #[x, y] 26 (0, 0))) (u v : Value) : Ten B ((w.setCell ⟨g, 0, none⟩ u).setCell ⟨g, 1, none⟩ v) a n c b m d S D :=
  (t.far hg u).far (heap_setCell_same w g 0 _ _ u hg) v

set_option maxHeartbeats 8000000 in
theorem do_any (p : Option Addr) (len cap : Nat) (hs : List (Int × Nat)) (a : Option Addr) (n c : Nat) (b : Option Addr) (m d : Nat) (S : List Int) (D : List Nat) (w : World) (hH : Hks w p len cap hs) (hS : Isl w .i64 a n c S) (hD : Fl.Sl w b m d D) (hl : len ≤ 1099511627776) (hn : n ≤ 1099511627776) (hm : m ≤ 1099511627776) :
    Calls Try.prog 9 #[.slice p len cap, .agg #[.slice a n c, .slice b m d]] w fun e w' => Did w.heap.size w' e (resC hs S (D.map Fl.can)) ∧ Below w.heap.size w w' := by
  have hb0 : Below w.heap.size w ((w.alloc (.cells #[.slice a n c, .slice b m d] 26)).alloc (.cells #[.slice none 0 0, .slice none 0 0] 26)) := ((Below.refl _ _).alloc (Nat.le_refl _) _).alloc (by simp) _
  have x0 : ((w.alloc (.cells #[.slice a n c, .slice b m d] 26)).alloc (.cells #[.slice none 0 0, .slice none 0 0] 26)).cell? ⟨w.heap.size, 0, none⟩ = some (.slice a n c) := by simp
  have x1 : ((w.alloc (.cells #[.slice a n c, .slice b m d] 26)).alloc (.cells #[.slice none 0 0, .slice none 0 0] 26)).cell? ⟨w.heap.size, 1, none⟩ = some (.slice b m d) := by simp
  have r0 : ((w.alloc (.cells #[.slice a n c, .slice b m d] 26)).alloc (.cells #[.slice none 0 0, .slice none 0 0] 26)).heap[w.heap.size + 1]? = some (.cells #[.slice none 0 0, .slice none 0 0] 26 (0, 0)) := by
    have := heap_alloc_new (w.alloc (.cells #[.slice a n c, .slice b m d] 26)) (.cells #[.slice none 0 0, .slice none 0 0] 26)
    simpa using this
  have l0 : ((w.alloc (.cells #[.slice a n c, .slice b m d] 26)).alloc (.cells #[.slice none 0 0, .slice none 0 0] 26)).heap.size = w.heap.size + 2 := by simp
  have HH := hide (hH.later hb0)
  have HS := hide (hS.later hb0)
  have HD := hide (hD.later hb0)
  have HHL := hide hH.1
  have HDL := hide hD.1
  clear hH hS hD
  go_enter Try.func9, Try.ntmps9
  go_wp2_with fail
  generalize (w.alloc (.cells #[.slice a n c, .slice b m d] 26)).alloc (.cells #[.slice none 0 0, .slice none 0 0] 26) = W0 at hb0 x0 x1 r0 l0 HH HS HD ⊢
  have HB0 := hide hb0
  have HR0 := hide r0
  have HL0 := hide l0
  have HX := hide (And.intro x0 x1)
  clear hb0 r0 l0 x0 x1
  cases hmy : maysB hs with
  | false =>
    have C := hide (mays_any p len cap hs W0 HH.out hl)
    rw [hmy] at C
    refine C.out.mono ?_
    rintro e w1 ⟨rfl, hb1⟩
    obtain ⟨o0, o1, o2, o3⟩ := two_cells ((hb1.block (w.heap.size + 1) (by rw [HL0.out]; omega)).trans HR0.out)
    have HB1 := hide (HB0.out.trans (hb1.mono HB0.out.size))
    have HRES := hide (show resC hs S (D.map Fl.can) = (8, [], []) by unfold resC; rw [if_pos hmy])
    clear hb1
    go_wp2_with fail
    (try simp only [Exit.inBlock, Exit.then])
    refine bodyPost_ret (v := .tuple #[.agg #[.slice none 0 0, .slice none 0 0], .int .i64 8]) (by simp [results, Try.results9, go_sem, o0, o1]) rfl ?_
    rw [HRES.out]
    exact ⟨⟨none, 0, 0, none, 0, 0, [], rfl, ten_none _ _, rfl⟩, (HB1.out.setCell (by simp) _).setCell (by simp) _⟩
  | true =>
    have C := hide (mays_any p len cap hs W0 HH.out hl)
    rw [hmy] at C
    refine C.out.mono ?_
    rintro e w1 ⟨rfl, hb1⟩
    have y0 := cell_later hb1 HX.out.1
    have y1 := cell_later hb1 HX.out.2
    have HB1 := hide hb1
    have HS1 := hide (HS.out.later hb1)
    have HD1 := hide (HD.out.later hb1)
    have HMY := hide hmy
    clear hb1 hmy
    go_wp2_with fail
    have C2 := hide (may_any a n c b m d S w1 HS1.out hn)
    cases hmt : mayB S m with
    | false =>
      rw [hmt] at C2
      refine C2.out.mono ?_
      rintro e w2 ⟨rfl, hb2⟩
      obtain ⟨o0, o1, o2, o3⟩ := two_cells (((HB1.out.trans (hb2.mono HB1.out.size)).block (w.heap.size + 1) (by rw [HL0.out]; omega)).trans HR0.out)
      have HB2 := hide (HB0.out.trans ((HB1.out.trans (hb2.mono HB1.out.size)).mono HB0.out.size))
      have HRES := hide (show resC hs S (D.map Fl.can) = (2, [], []) by unfold resC; rw [if_neg (by rw [HMY.out]; simp), List.length_map, HDL.out, if_pos hmt])
      clear hb2 y0 y1
      go_wp2_with fail
      (try simp only [Exit.inBlock, Exit.then])
      refine bodyPost_ret (v := .tuple #[.agg #[.slice none 0 0, .slice none 0 0], .int .i64 2]) (by simp [results, Try.results9, go_sem, o0, o1]) rfl ?_
      rw [HRES.out]
      exact ⟨⟨none, 0, 0, none, 0, 0, [], rfl, ten_none _ _, rfl⟩, (HB2.out.setCell (by simp) _).setCell (by simp) _⟩
    | true =>
      rw [hmt] at C2
      refine C2.out.mono ?_
      rintro e w2 ⟨rfl, hb2⟩
      have z0 := cell_later hb2 y0
      have z1 := cell_later hb2 y1
      have HB2 := hide (HB1.out.trans (hb2.mono HB1.out.size))
      have HMT := hide hmt
      have HS2 := hide (HS1.out.later hb2)
      have HD2 := hide (HD1.out.later hb2)
      clear hb2 hmt y0 y1
      go_wp2_with fail
      refine (copy_any a n c b m d S D w2 HS2.out HD2.out hn hm).mono ?_
      rintro e w3 ⟨a', c', b', d', rfl, ht3, hb3⟩
      have hl3 : w.heap.size + 2 ≤ w2.heap.size := by have := HB2.out.size; have := HL0.out; omega
      have hr3 := (hb3.block (w.heap.size + 1) (by omega)).trans ((HB2.out.block (w.heap.size + 1) (by rw [HL0.out]; omega)).trans HR0.out)
      have hs3 : w2.heap.size ≤ w3.heap.size := hb3.size
      have HB3 := hide (HB2.out.trans (hb3.mono HB2.out.size))
      have HT3 := hide (ht3.mono hl3)
      have hr6 : (w3.alloc (.cells #[.slice a' n c', .slice b' m d'] 26)).heap[w3.heap.size]? = some (.cells #[.slice a' n c', .slice b' m d'] 26 (0, 0)) := heap_alloc_new w3 _
      have hb6 : Below w3.heap.size w3 (w3.alloc (.cells #[.slice a' n c', .slice b' m d'] 26)) := (Below.refl _ _).alloc (Nat.le_refl _) _
      have hs6 : w3.heap.size < (w3.alloc (.cells #[.slice a' n c', .slice b' m d'] 26)).heap.size := by simp
      have hws : w.heap.size + 1 < w3.heap.size := by omega
      have HW := hide (And.intro hl3 hws)
      clear ht3 hb3 z0 z1 hl3 hs3
      go_wp2_with fail
      go_loopw [24] (fun i wr => ∃ (k : Nat) (a'' : Option Addr) (c'' : Nat) (b'' : Option Addr) (d'' : Nat) (D' : List Nat), k ≤ len ∧ i = .int .i64 k ∧ Ten (w.heap.size + 2) wr a'' n c'' b'' m d'' S D' ∧ wr.heap[w3.heap.size]? = some (.cells #[.slice a'' n c'', .slice b'' m d''] 26 (0, 0)) ∧ wr.heap[w.heap.size + 1]? = some (.cells #[.slice none 0 0, .slice none 0 0] 26 (0, 0)) ∧ Below W0.heap.size W0 wr ∧ w3.heap.size < wr.heap.size ∧ Hid (doC hs (D.map Fl.can) = doC (hs.drop k) (D'.map Fl.can))) (fun i _ => len - (intOf i).toNat)
      case atStart => exact ⟨0, a', c', b', d', D, Nat.zero_le _, rfl, HT3.out.below hb6, hr6, (hb6.block _ hws).trans hr3, HB3.out.trans (hb6.mono HB3.out.size), hs6, by unfold Hid; rw [List.drop_zero]⟩
      case round =>
        obtain ⟨k, a'', c'', b'', d'', D', hk', rfl, ht, hr6', hr4, hbel, hsz, HU⟩ := hrel
        clear hr6 hb6 hs6 hr3
        by_cases hlt : k < len
        · obtain ⟨g, off, rfl, hc0, hc1⟩ := HH.out.2.2 k hlt
          have hr0 := cell_later hbel hc0
          have hr1 := cell_later hbel hc1
          have hone := mays_one HMY.out (k := k) (by rw [HHL.out]; exact hlt)
          have hdrop := hk_drop (hs := hs) (k := k) (by rw [HHL.out]; exact hlt)
          obtain ⟨⟨E, x⟩, hx⟩ : ∃ x, hk hs k = x := ⟨_, rfl⟩
          rw [hx] at hr0 hr1 hone hdrop
          have HDR := hide hdrop
          have hw0 : W0.heap.size = w.heap.size + 2 := HL0.out
          have HT := hide ht
          have HSZ := hide (And.intro hsz (HW.out))
          have HR := hide (And.intro hr6' hr4)
          have HBE := hide hbel
          have hkinds := one_kinds hone
          simp only at hkinds
          clear hx hc0 hc1 hone hdrop ht hr6' hr4 hbel hsz hw0
          have hb8 : ∀ v : Value, Below wr.heap.size wr ((wr.alloc (.cells #[v, .float .f64 x] 48)).alloc (.cells #[.float .f64 x] 52)) := fun v => ((Below.refl _ _).alloc (Nat.le_refl _) _).alloc (by simp) _
          obtain ⟨p0, p1, p2, p3⟩ := two_cells HR.out.1
          have hszr : w3.heap.size < wr.heap.size := HSZ.out.1
          have hszr2 : w3.heap.size ≠ wr.heap.size := by omega
          rcases hkinds with rfl | rfl | rfl | rfl
          · go_wp2_with fail
            refine (map_scale x (fun c => Fl.opC .mul c (Fl.can x)) (scale_any x) a'' n c'' b'' m d'' S D' ((wr.alloc (.cells #[.int .i64 1, .float .f64 x] 48)).alloc (.cells #[.float .f64 x] 52)) (HT.out.below (hb8 _)).isl (HT.out.below (hb8 _)).sl hn hm HMT.out).mono ?_
            rintro e w5 ⟨a5, c5, b5, d5, D5, rfl, ht5, hcan5, hb5⟩
            have hall := (hb8 (.int .i64 1)).trans (hb5.mono (hb8 (.int .i64 1)).size)
            have HT5 := hide (ht5.mono (Nat.le_trans (by have := HSZ.out.1; have := HSZ.out.2.2; omega : w.heap.size + 2 ≤ wr.heap.size) (hb8 (.int .i64 1)).size))
            have HR5 := hide ((hall.block _ HSZ.out.1).trans HR.out.1)
            have HR4 := hide ((hall.block _ (by have := HSZ.out.1; have := HSZ.out.2.2; omega)).trans HR.out.2)
            have HB5 := hide (HBE.out.trans (hall.mono HBE.out.size))
            have HS5 := hide (Nat.lt_of_lt_of_le HSZ.out.1 hall.size)
            have HCAN := hide hcan5
            obtain ⟨o0, o1, o2, o3⟩ := two_cells HR5.out
            clear ht5 hcan5 hb5 hall p0 p1 p2 p3
            go_wp2_with fail
            go_roundw
            case rel => exact ⟨k + 1, a5, c5, b5, d5, D5, by omega, by go_num, put_ten HT5.out HR5.out _ _, put_self HR5.out, (Below.heap_setCell _ _ _ _ (show w.heap.size + 1 ≠ w3.heap.size by have := HSZ.out.2.2; omega)).trans ((Below.heap_setCell _ _ _ _ (show w.heap.size + 1 ≠ w3.heap.size by have := HSZ.out.2.2; omega)).trans HR4.out), (HB5.out.setCell (show W0.heap.size ≤ w3.heap.size by rw [HL0.out]; have := HSZ.out.2.2; omega) _).setCell (show W0.heap.size ≤ w3.heap.size by rw [HL0.out]; have := HSZ.out.2.2; omega) _, by have := HS5.out; simpa using this, by unfold Hid; rw [HU.out, HDR.out, HCAN.out]; rfl⟩
            case measure => simp [intOf]; omega
          · go_wp2_with fail
            refine (map_clip x (Fl.clipC x) (clip_any x) a'' n c'' b'' m d'' S D' ((wr.alloc (.cells #[.int .i64 2, .float .f64 x] 48)).alloc (.cells #[.float .f64 x] 52)) (HT.out.below (hb8 _)).isl (HT.out.below (hb8 _)).sl hn hm HMT.out).mono ?_
            rintro e w5 ⟨a5, c5, b5, d5, D5, rfl, ht5, hcan5, hb5⟩
            have hall := (hb8 (.int .i64 2)).trans (hb5.mono (hb8 (.int .i64 2)).size)
            have HT5 := hide (ht5.mono (Nat.le_trans (by have := HSZ.out.1; have := HSZ.out.2.2; omega : w.heap.size + 2 ≤ wr.heap.size) (hb8 (.int .i64 2)).size))
            have HR5 := hide ((hall.block _ HSZ.out.1).trans HR.out.1)
            have HR4 := hide ((hall.block _ (by have := HSZ.out.1; have := HSZ.out.2.2; omega)).trans HR.out.2)
            have HB5 := hide (HBE.out.trans (hall.mono HBE.out.size))
            have HS5 := hide (Nat.lt_of_lt_of_le HSZ.out.1 hall.size)
            have HCAN := hide hcan5
            obtain ⟨o0, o1, o2, o3⟩ := two_cells HR5.out
            clear ht5 hcan5 hb5 hall p0 p1 p2 p3
            go_wp2_with fail
            go_roundw
            case rel => exact ⟨k + 1, a5, c5, b5, d5, D5, by omega, by go_num, put_ten HT5.out HR5.out _ _, put_self HR5.out, (Below.heap_setCell _ _ _ _ (show w.heap.size + 1 ≠ w3.heap.size by have := HSZ.out.2.2; omega)).trans ((Below.heap_setCell _ _ _ _ (show w.heap.size + 1 ≠ w3.heap.size by have := HSZ.out.2.2; omega)).trans HR4.out), (HB5.out.setCell (show W0.heap.size ≤ w3.heap.size by rw [HL0.out]; have := HSZ.out.2.2; omega) _).setCell (show W0.heap.size ≤ w3.heap.size by rw [HL0.out]; have := HSZ.out.2.2; omega) _, by have := HS5.out; simpa using this, by unfold Hid; rw [HU.out, HDR.out, HCAN.out]; rfl⟩
            case measure => simp [intOf]; omega
          · go_wp2_with fail
            refine (map_zero x (fun _ => some 0) (zero_any x) a'' n c'' b'' m d'' S D' ((wr.alloc (.cells #[.int .i64 3, .float .f64 x] 48)).alloc (.cells #[.float .f64 x] 52)) (HT.out.below (hb8 _)).isl (HT.out.below (hb8 _)).sl hn hm HMT.out).mono ?_
            rintro e w5 ⟨a5, c5, b5, d5, D5, rfl, ht5, hcan5, hb5⟩
            have hall := (hb8 (.int .i64 3)).trans (hb5.mono (hb8 (.int .i64 3)).size)
            have HT5 := hide (ht5.mono (Nat.le_trans (by have := HSZ.out.1; have := HSZ.out.2.2; omega : w.heap.size + 2 ≤ wr.heap.size) (hb8 (.int .i64 3)).size))
            have HR5 := hide ((hall.block _ HSZ.out.1).trans HR.out.1)
            have HR4 := hide ((hall.block _ (by have := HSZ.out.1; have := HSZ.out.2.2; omega)).trans HR.out.2)
            have HB5 := hide (HBE.out.trans (hall.mono HBE.out.size))
            have HS5 := hide (Nat.lt_of_lt_of_le HSZ.out.1 hall.size)
            have HCAN := hide hcan5
            obtain ⟨o0, o1, o2, o3⟩ := two_cells HR5.out
            clear ht5 hcan5 hb5 hall p0 p1 p2 p3
            go_wp2_with fail
            go_roundw
            case rel => exact ⟨k + 1, a5, c5, b5, d5, D5, by omega, by go_num, put_ten HT5.out HR5.out _ _, put_self HR5.out, (Below.heap_setCell _ _ _ _ (show w.heap.size + 1 ≠ w3.heap.size by have := HSZ.out.2.2; omega)).trans ((Below.heap_setCell _ _ _ _ (show w.heap.size + 1 ≠ w3.heap.size by have := HSZ.out.2.2; omega)).trans HR4.out), (HB5.out.setCell (show W0.heap.size ≤ w3.heap.size by rw [HL0.out]; have := HSZ.out.2.2; omega) _).setCell (show W0.heap.size ≤ w3.heap.size by rw [HL0.out]; have := HSZ.out.2.2; omega) _, by have := HS5.out; simpa using this, by unfold Hid; rw [HU.out, HDR.out, HCAN.out]; rfl⟩
            case measure => simp [intOf]; omega
          · have C := hide (finite_any a'' n c'' b'' m d'' S D' ((wr.alloc (.cells #[.int .i64 4, .float .f64 x] 48)).alloc (.cells #[.float .f64 x] 52)) (HT.out.below (hb8 _)).isl (HT.out.below (hb8 _)).sl hn hm HMT.out)
            cases hodd : Fl.oddAny D' with
            | true =>
              rw [hodd] at C
              have HO := hide hodd
              clear hodd
              go_wp2_with fail
              refine C.out.mono ?_
              rintro e w5 ⟨rfl, hb5⟩
              have hall := (hb8 (.int .i64 4)).trans (hb5.mono (hb8 (.int .i64 4)).size)
              obtain ⟨o0, o1, o2, o3⟩ := two_cells ((hall.block _ (by have := HSZ.out.1; have := HSZ.out.2.2; omega)).trans HR.out.2)
              have HB5 := hide (HB0.out.trans ((HBE.out.trans (hall.mono HBE.out.size)).mono HB0.out.size))
              have HRES := hide (show resC hs S (D.map Fl.can) = (8, [], []) by
                unfold resC
                rw [if_neg (by rw [HMY.out]; simp), List.length_map, HDL.out, if_neg (by rw [HMT.out]; simp), HU.out, HDR.out]
                have h1 : stepC (4, x) (D'.map Fl.can) = none := if_pos (show (D'.map Fl.can).any Fl.oddC = true from HO.out)
                show (match (stepC (4, x) (D'.map Fl.can)).bind (doC (hs.drop (k + 1))) with | none => _ | some r => _) = _
                rw [h1]; rfl)
              clear hb5 hall p0 p1 p2 p3
              go_wp2_with fail
              (try simp only [Exit.inBlock, Exit.then])
              refine bodyPost_ret (v := .tuple #[.agg #[.slice none 0 0, .slice none 0 0], .int .i64 8]) (by simp [results, Try.results9, go_sem, o0, o1]) rfl ?_
              rw [HRES.out]
              exact ⟨⟨none, 0, 0, none, 0, 0, [], rfl, ten_none _ _, rfl⟩, (HB5.out.setCell (by simp) _).setCell (by simp) _⟩
            | false =>
              rw [hodd] at C
              have HO := hide hodd
              clear hodd
              go_wp2_with fail
              refine C.out.mono ?_
              rintro e w5 ⟨rfl, hb5⟩
              have hall := (hb8 (.int .i64 4)).trans (hb5.mono (hb8 (.int .i64 4)).size)
              have HALL := hide hall
              have HST := hide (show stepC (4, x) (D'.map Fl.can) = some (D'.map Fl.can) from if_neg (show ¬ (D'.map Fl.can).any Fl.oddC = true by rw [show (D'.map Fl.can).any Fl.oddC = false from HO.out]; simp))
              clear hb5 hall p0 p1 p2 p3
              go_wp2_with fail
              go_roundw
              case rel => exact ⟨k + 1, a'', c'', b'', d'', D', by omega, by go_num, HT.out.below HALL.out, (HALL.out.block _ HSZ.out.1).trans HR.out.1, (HALL.out.block _ (by have := HSZ.out.1; have := HSZ.out.2.2; omega)).trans HR.out.2, HBE.out.trans (HALL.out.mono HBE.out.size), Nat.lt_of_lt_of_le HSZ.out.1 HALL.out.size, by unfold Hid; rw [HU.out, HDR.out]; show (stepC (4, x) (D'.map Fl.can)).bind (doC (hs.drop (k + 1))) = _; rw [HST.out]; rfl⟩
              case measure => simp [intOf]; omega
        · obtain rfl : len = k := by omega
          obtain ⟨p0, p1, p2, p3⟩ := two_cells hr6'
          obtain ⟨o0, o1, o2, o3⟩ := two_cells hr4
          have HT := hide ht
          have HBE := hide (HB0.out.trans (hbel.mono HB0.out.size))
          have HRES := hide (show resC hs S (D.map Fl.can) = (0, S, D'.map Fl.can) by unfold resC; rw [if_neg (by rw [HMY.out]; simp), List.length_map, HDL.out, if_neg (by rw [HMT.out]; simp), HU.out, List.drop_eq_nil_of_le (Nat.le_of_eq HHL.out)]; rfl)
          clear ht hbel hr6' hr4
          go_wp2_with fail
          (try simp only [Exit.inBlock, Exit.then])
          refine bodyPost_ret (v := .tuple #[.agg #[.slice a'' n c'', .slice b'' m d''], .int .i64 0]) (by simp [results, Try.results9, go_sem, o0, o1]) rfl ?_
          rw [HRES.out]
          exact ⟨⟨a'', n, c'', b'', m, d'', D', rfl, ((HT.out.set (by simp) _).set (by simp) _).mono (by omega), rfl⟩, (HBE.out.setCell (by simp) _).setCell (by simp) _⟩
end Go.Proofs.Ytegofhmkebbinaa
