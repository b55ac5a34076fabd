/-
  Package graph's seven looks at a node. No condition.
-/
import Derived.Test.YtedpppkknmeheaaG1
namespace Go.Proofs.Ytedpppkknmeheaa
open Go.RowKit

/-- Rows of shapes. -/
def Vs (w : World) (a : Option Addr) (len cap : Nat) (V : List (List Int)) : Prop :=
  V.length = len ∧ len ≤ cap ∧ ∀ i, i < len → ∃ b off, a = some ⟨b, off, none⟩ ∧ ∃ c n d, w.cell? ⟨b, off + i, none⟩ = some (.slice c n d) ∧ Isl w .i64 c n d (V.getD i []) ∧ n ≤ 140737488355328
theorem Vs.later {w w' : World} {a : Option Addr} {len cap : Nat} {V : List (List Int)} (h : Vs w a len cap V) (hb : Below w.heap.size w w') : Vs w' a len cap V :=
  ⟨h.1, h.2.1, fun i hi => by
    obtain ⟨b, off, e, c, n, d, hc, hI, hn⟩ := h.2.2 i hi
    exact ⟨b, off, e, c, n, d, cell_later hb hc, hI.later hb, hn⟩⟩
def shB (S : List Int) : Bool := (sz S).2 == 0
def lookv (la : Option Addr) (ll lc : Nat) (va : Option Addr) (vl vc : Nat) (n : Nd) (at' : Int) : Value := .agg #[.slice la ll lc, .slice va vl vc, .int .i64 n.op, .slice n.ia n.il n.ic, .slice n.ta n.tl n.tc, .int .i64 n.no, .slice n.sa n.sl n.sc, .slice n.da n.dl n.dc, .slice n.ha n.hl n.hc, .int .i64 at']
theorem shapemay_any (a : Option Addr) (len cap : Nat) (S : List Int) (w : World) (h : Isl w .i64 a len cap S) (hl : len ≤ 140737488355328) (b : Bool) (hb : shB S = b) :
    Calls Try.prog 44 #[.slice a len cap] w fun e w' => e = .returned (.bool b) ∧ w = w' := by
  subst hb
  have C := hide (size_any a len cap S w h hl)
  clear h
  unfold shB
  generalize (sz S).1 = x at C ⊢
  generalize (sz S).2 = y at C ⊢
  cases hy : (y == 0) with
  | true =>
    go_enter Try.func44, Try.ntmps44
    go_wp2_with (go_at_call 52; (with_reducible refine C.out.mono ?_); rintro e w2 ⟨rfl, rfl⟩)
    go_ret
    exact ⟨rfl, rfl⟩
  | false =>
    go_enter Try.func44, Try.ntmps44
    go_wp2_with (go_at_call 52; (with_reducible refine C.out.mono ?_); rintro e w2 ⟨rfl, rfl⟩)
    go_ret
    exact ⟨rfl, rfl⟩
theorem shapemay_ref (a : Option Addr) (len cap : Nat) (S : List Int) (w : World) (h : Isl w .i64 a len cap S) (hl : len ≤ 140737488355328) (b : Bool) (hb : shB S = b) :
    Calls Try.prog 33 #[.slice a len cap] w fun e w' => e = .returned (.bool b) ∧ Below w.heap.size w w' := by
  subst hb
  have C := hide (size_ref a len cap S w h hl)
  clear h
  unfold shB
  generalize (sz S).1 = x at C ⊢
  generalize (sz S).2 = y at C ⊢
  cases hy : (y == 0) with
  | true =>
    go_enter Try.func33, Try.ntmps33
    go_wp2_with (go_at_call 47; (with_reducible refine C.out.mono ?_); rintro e w2 ⟨rfl, hb2⟩)
    go_ret
    exact ⟨rfl, hb2⟩
  | false =>
    go_enter Try.func33, Try.ntmps33
    go_wp2_with (go_at_call 47; (with_reducible refine C.out.mono ?_); rintro e w2 ⟨rfl, hb2⟩)
    go_ret
    exact ⟨rfl, hb2⟩

theorem known_any (la : Option Addr) (ll lc : Nat) (va : Option Addr) (vl vc : Nat) (n : Nd) (at' : Int) (w : World) (b : Bool) (hb : opmay n.op = b) :
    Calls Try.prog 25 #[lookv la ll lc va vl vc n at'] w fun e w' => e = .returned (.int .i64 (cond b 0 4)) ∧ Below w.heap.size w w' := by
  have C : Hid (∀ w', Calls Try.prog 39 #[.int .i64 n.op] w' fun e w2 => e = .returned (.bool b) ∧ w' = w2) := hide (fun w' => opmay_any n.op w' b hb)
  clear hb
  unfold lookv
  cases b
  all_goals (
    go_enter Try.func25, Try.ntmps25
    go_wp2_with (go_at_call 39; (with_reducible refine (C.out _).mono ?_); rintro e w2 ⟨rfl, rfl⟩)
    go_ret
    exact ⟨rfl, (Below.refl _ _).alloc (Nat.le_refl _) _⟩)
theorem hooks_any (la : Option Addr) (ll lc : Nat) (va : Option Addr) (vl vc : Nat) (n : Nd) (at' : Int) (w : World) (hok : n.ok w) (hs : n.small) (b : Bool) (hb : maysB n.hs = b) :
    Calls Try.prog 31 #[lookv la ll lc va vl vc n at'] w fun e w' => e = .returned (.int .i64 (cond b 0 8)) ∧ Below w.heap.size w w' := by
  have C : Hid (∀ w', Below w.heap.size w w' → Calls Try.prog 46 #[.slice n.ha n.hl n.hc] w' fun e w2 => e = .returned (.bool b) ∧ Below w.heap.size w w2) := hide (fun w' hbw => (mays_any n.ha n.hl n.hc n.hs w' (hok.2.2.later hbw) hs.2.2).mono (fun e w2 h => ⟨by rw [h.1, hb], hbw.trans (h.2.mono hbw.size)⟩))
  clear hb hok hs
  unfold lookv
  cases b
  all_goals (
    go_enter Try.func31, Try.ntmps31
    go_wp2_with (go_at_call 46; (with_reducible refine (C.out _ ((Below.refl _ _).alloc (Nat.le_refl _) _)).mono ?_); rintro e w2 ⟨rfl, hbw⟩)
    go_ret
    exact ⟨rfl, hbw⟩)
theorem below_any (la : Option Addr) (ll lc : Nat) (va : Option Addr) (vl vc : Nat) (n : Nd) (at' : Int) (w : World) (hok : n.ok w) (hs : n.small) (b : Bool) (hb : n.ins.any (fun x => decide (at' ≤ x)) = b) :
    Calls Try.prog 27 #[lookv la ll lc va vl vc n at'] w fun e w' => e = .returned (.int .i64 (cond b 5 0)) ∧ Below w.heap.size w w' := by
  have C : Hid (∀ w', Below w.heap.size w w' → w'.cell? ⟨w.heap.size, 9, none⟩ = some (.int .i64 at') → Calls Try.prog 41 #[.slice n.ia n.il n.ic, .func (.func 42) #[] #[.pointer (some ⟨w.heap.size, 0, none⟩)]] w' fun e w2 => e = .returned (.bool b) ∧ w' = w2) :=
    hide (fun w' hbw h9 => (any_ge at' w.heap.size n.ia n.il n.ic n.ins w' h9 (hok.1.later hbw) hs.1).mono (fun e w2 h => ⟨by rw [h.1, hb], h.2⟩))
  clear hb hok hs
  unfold lookv
  cases b
  all_goals (
    go_enter Try.func27, Try.ntmps27
    go_wp2_with (go_at_call 41; (with_reducible refine (C.out _ ((Below.refl _ _).alloc (Nat.le_refl _) _) ?_).mono ?_); (go_simp); rintro e w2 ⟨rfl, rfl⟩)
    go_ret
    exact ⟨rfl, (Below.refl _ _).alloc (Nat.le_refl _) _⟩)

def argB (n : Nd) (at' : Int) : Bool := decide ((n.il : Int) ≠ many n.op ∨ (n.op = 3 ∧ 0 < at'))
def grB (L : Nat) (n : Nd) : Bool := decide (n.op = 16 ∧ (n.no < 0 ∨ (L : Int) ≤ n.no))
def leafB (V : Nat) (n : Nd) : Bool := decide (n.op = 1 ∧ (n.no < 0 ∨ (V : Int) ≤ n.no))
def shapeB (V : List (List Int)) (n : Nd) : Bool := if n.op = 1 then !shB (V.getD n.no.toNat []) else if n.op = 2 then !mayB n.S n.dl else false
set_option maxHeartbeats 16000000 in
theorem inputs_any (la : Option Addr) (ll lc : Nat) (va : Option Addr) (vl vc : Nat) (n : Nd) (at' : Int) (w : World) :
    Calls Try.prog 26 #[lookv la ll lc va vl vc n at'] w fun e w' => e = .returned (.int .i64 (cond (argB n at') 1 0)) ∧ Below w.heap.size w w' := by
  have C : Hid (∀ w', Calls Try.prog 40 #[.int .i64 n.op] w' fun e w2 => e = .returned (.int .i64 (many n.op)) ∧ w' = w2) := hide (fun w' => many_any n.op w')
  unfold lookv
  unfold argB
  obtain ⟨m, hm⟩ : ∃ m, many n.op = m := ⟨_, rfl⟩
  rw [hm] at C ⊢
  clear hm
  generalize n.op = op at C ⊢
  by_cases h1 : (n.il : Int) = m
  · subst h1
    by_cases h3 : op = 3
    · subst h3
      by_cases h0 : 0 < at'
      · rw [decide_eq_true (.inr ⟨rfl, h0⟩)]
        go_enter Try.func26, Try.ntmps26
        go_wp2_with fail
        go_quiet ((go_at_call 40; exact Calls.quiet_of_same ((C.out _).mono fun _ _ h => ⟨h.1, h.2.symm⟩)))
        all_goals (
          go_wp2_with fail
          go_ret
          exact ⟨rfl, below_drewN ((Below.refl _ _).alloc (Nat.le_refl _) _) _⟩)
      · rw [decide_eq_false (fun h => h.elim (fun h => h rfl) (fun h => h0 h.2))]
        go_enter Try.func26, Try.ntmps26
        go_wp2_with fail
        go_quiet ((go_at_call 40; exact Calls.quiet_of_same ((C.out _).mono fun _ _ h => ⟨h.1, h.2.symm⟩)))
        all_goals (
          go_wp2_with fail
          go_ret
          exact ⟨rfl, below_drewN ((Below.refl _ _).alloc (Nat.le_refl _) _) _⟩)
    · rw [decide_eq_false (fun h => h.elim (fun h => h rfl) (fun h => h3 h.1))]
      have e3 : (op == 3) = false := by simpa using h3
      go_enter Try.func26, Try.ntmps26
      go_wp2_with fail
      go_quiet ((go_at_call 40; exact Calls.quiet_of_same ((C.out _).mono fun _ _ h => ⟨h.1, h.2.symm⟩)))
      all_goals (
        go_wp2_with fail
        go_ret
        exact ⟨rfl, below_drewN ((Below.refl _ _).alloc (Nat.le_refl _) _) _⟩)
  · rw [decide_eq_true (.inl h1)]
    have e1 : ((n.il : Int) == m) = false := by simpa using h1
    go_enter Try.func26, Try.ntmps26
    go_wp2_with fail
    go_quiet ((go_at_call 40; exact Calls.quiet_of_same ((C.out _).mono fun _ _ h => ⟨h.1, h.2.symm⟩)))
    all_goals (
      go_wp2_with fail
      go_ret
      exact ⟨rfl, below_drewN ((Below.refl _ _).alloc (Nat.le_refl _) _) _⟩)

set_option maxHeartbeats 16000000 in
theorem graphs_any (la : Option Addr) (ll lc : Nat) (va : Option Addr) (vl vc : Nat) (n : Nd) (at' : Int) (w : World) (hok : n.ok w) (hs : n.small) :
    Calls Try.prog 28 #[lookv la ll lc va vl vc n at'] w fun e w' => e = .returned (.int .i64 (cond (n.ins.any (fun x => decide (x < 0)) || grB ll n) 6 0)) ∧ Below w.heap.size w w' := by
  obtain ⟨b, hb⟩ : ∃ b, n.ins.any (fun x => decide (x < 0)) = b := ⟨_, rfl⟩
  have C : Hid (∀ w', Below w.heap.size w w' → Calls Try.prog 41 #[.slice n.ia n.il n.ic, .func (.func 43) #[] #[]] w' fun e w2 => e = .returned (.bool b) ∧ w' = w2) :=
    hide (fun w' hbw => (any_neg n.ia n.il n.ic n.ins w' (hok.1.later hbw) hs.1).mono (fun e w2 h => ⟨by rw [h.1, hb], h.2⟩))
  rw [hb]
  clear hb hok hs
  unfold lookv grB
  generalize n.op = op
  generalize n.no = no
  cases b with
  | true =>
    go_enter Try.func28, Try.ntmps28
    go_wp2_with (go_at_call 41; (with_reducible refine (C.out _ ((Below.refl _ _).alloc (Nat.le_refl _) _)).mono ?_); rintro e w2 ⟨rfl, rfl⟩)
    go_ret
    exact ⟨rfl, (Below.refl _ _).alloc (Nat.le_refl _) _⟩
  | false =>
    by_cases h16 : op = 16
    · subst h16
      by_cases h0 : no < 0
      · rw [decide_eq_true ⟨rfl, .inl h0⟩]
        go_enter Try.func28, Try.ntmps28
        go_wp2_with (go_at_call 41; (with_reducible refine (C.out _ ((Below.refl _ _).alloc (Nat.le_refl _) _)).mono ?_); rintro e w2 ⟨rfl, rfl⟩)
        go_ret
        exact ⟨rfl, (Below.refl _ _).alloc (Nat.le_refl _) _⟩
      · by_cases hl : (ll : Int) ≤ no
        · rw [decide_eq_true ⟨rfl, .inr hl⟩]
          go_enter Try.func28, Try.ntmps28
          go_wp2_with (go_at_call 41; (with_reducible refine (C.out _ ((Below.refl _ _).alloc (Nat.le_refl _) _)).mono ?_); rintro e w2 ⟨rfl, rfl⟩)
          go_ret
          exact ⟨rfl, (Below.refl _ _).alloc (Nat.le_refl _) _⟩
        · rw [decide_eq_false (fun h => h.2.elim h0 hl)]
          go_enter Try.func28, Try.ntmps28
          go_wp2_with (go_at_call 41; (with_reducible refine (C.out _ ((Below.refl _ _).alloc (Nat.le_refl _) _)).mono ?_); rintro e w2 ⟨rfl, rfl⟩)
          go_ret
          exact ⟨rfl, (Below.refl _ _).alloc (Nat.le_refl _) _⟩
    · rw [decide_eq_false (fun h => h16 h.1)]
      have e16 : (op == 16) = false := by simpa using h16
      go_enter Try.func28, Try.ntmps28
      go_wp2_with (go_at_call 41; (with_reducible refine (C.out _ ((Below.refl _ _).alloc (Nat.le_refl _) _)).mono ?_); rintro e w2 ⟨rfl, rfl⟩)
      go_ret
      exact ⟨rfl, (Below.refl _ _).alloc (Nat.le_refl _) _⟩


set_option maxHeartbeats 16000000 in
theorem leaf_any (la : Option Addr) (ll lc : Nat) (va : Option Addr) (vl vc : Nat) (n : Nd) (at' : Int) (w : World) :
    Calls Try.prog 29 #[lookv la ll lc va vl vc n at'] w fun e w' => e = .returned (.int .i64 (cond (leafB vl n) 7 0)) ∧ Below w.heap.size w w' := by
  unfold lookv leafB
  generalize n.op = op
  generalize n.no = no
  by_cases h16 : op = 1
  · subst h16
    by_cases h0 : no < 0
    · rw [decide_eq_true ⟨rfl, .inl h0⟩]
      go_enter Try.func29, Try.ntmps29
      go_wp2_with fail
      go_ret
      exact ⟨rfl, (Below.refl _ _).alloc (Nat.le_refl _) _⟩
    · by_cases hl : (vl : Int) ≤ no
      · rw [decide_eq_true ⟨rfl, .inr hl⟩]
        go_enter Try.func29, Try.ntmps29
        go_wp2_with fail
        go_ret
        exact ⟨rfl, (Below.refl _ _).alloc (Nat.le_refl _) _⟩
      · rw [decide_eq_false (fun h => h.2.elim h0 hl)]
        go_enter Try.func29, Try.ntmps29
        go_wp2_with fail
        go_ret
        exact ⟨rfl, (Below.refl _ _).alloc (Nat.le_refl _) _⟩
  · rw [decide_eq_false (fun h => h16 h.1)]
    have e1 : (op == 1) = false := by simpa using h16
    go_enter Try.func29, Try.ntmps29
    go_wp2_with fail
    go_ret
    exact ⟨rfl, (Below.refl _ _).alloc (Nat.le_refl _) _⟩


theorem lt_of_cell {w : World} {g k : Nat} {v : Value} (h : w.cell? ⟨g, k, none⟩ = some v) : g < w.heap.size := by
  unfold World.cell? at h
  cases hg : w.heap[g]? with
  | none => simp [hg] at h
  | some o =>
    rcases Nat.lt_or_ge g w.heap.size with h' | h'
    · exact h'
    · rw [Array.getElem?_eq_none h'] at hg; cases hg
set_option maxHeartbeats 16000000 in
theorem shapes_any (la : Option Addr) (ll lc : Nat) (va : Option Addr) (vl vc : Nat) (n : Nd) (at' : Int) (w : World) (V : List (List Int)) (hok : n.ok w) (hs : n.small) (hV : Vs w va vl vc V) (hl : leafB vl n = false) :
    Calls Try.prog 30 #[lookv la ll lc va vl vc n at'] w fun e w' => e = .returned (.int .i64 (cond (shapeB V n) 2 0)) ∧ Below w.heap.size w w' := by
  unfold lookv shapeB
  unfold leafB at hl
  by_cases h1 : n.op = 1
  · rw [if_pos h1]
    have hno : 0 ≤ n.no ∧ n.no < vl := by
      have := of_decide_eq_false hl
      constructor
      · rcases Int.lt_or_le n.no 0 with h | h
        · exact absurd ⟨h1, .inl h⟩ this
        · exact h
      · rcases Int.lt_or_le n.no vl with h | h
        · exact h
        · exact absurd ⟨h1, .inr h⟩ this
    obtain ⟨k, hk⟩ : ∃ k : Nat, n.no = k := ⟨n.no.toNat, by omega⟩
    obtain ⟨b, off, rfl, c, m, d, hc, hI, hm⟩ := hV.2.2 k (by omega)
    rw [hk]
    obtain ⟨r, hr⟩ : ∃ r, shB (V.getD k []) = r := ⟨_, rfl⟩
    have C : Hid (∀ w', Below w.heap.size w w' → Calls Try.prog 44 #[.slice c m d] w' fun e w2 => e = .returned (.bool r) ∧ w2 = w') :=
      hide (fun w' hbw => (shapemay_any c m d _ w' (hI.later hbw) hm r hr).mono (fun e w2 h => ⟨h.1, h.2.symm⟩))
    rw [Int.toNat_natCast, hr]
    have hlt := lt_of_cell hc
    have hne : b ≠ w.heap.size := by omega
    have hkl : k < vl := by omega
    clear hr hI hm hV hl hok hs hno hk
    generalize n.op = op at h1 ⊢
    subst h1
    cases r
    all_goals (
      go_enter Try.func30, Try.ntmps30
      go_wp2_with (go_at_call 44; (with_reducible refine (C.out _ ((Below.refl _ _).alloc (Nat.le_refl _) _)).mono ?_); rintro e w2 ⟨rfl, rfl⟩)
      go_ret
      exact ⟨rfl, (Below.refl _ _).alloc (Nat.le_refl _) _⟩)
  · rw [if_neg h1]
    by_cases h2 : n.op = 2
    · rw [if_pos h2]
      obtain ⟨r, hr⟩ : ∃ r, mayB n.S n.dl = r := ⟨_, rfl⟩
      have C : Hid (∀ w', Below w.heap.size w w' → Calls Try.prog 45 #[.agg #[.slice n.sa n.sl n.sc, .slice n.da n.dl n.dc]] w' fun e w2 => e = .returned (.bool r) ∧ Below w.heap.size w w2) :=
        hide (fun w' hbw => (may_any n.sa n.sl n.sc n.da n.dl n.dc n.S w' (hok.2.1.later hbw) hs.2.1).mono (fun e w2 h => ⟨by rw [h.1, hr], hbw.trans (h.2.mono hbw.size)⟩))
      rw [hr]
      clear hr hV hl hok hs h1
      generalize n.op = op at h2 ⊢
      subst h2
      cases r
      all_goals (
        go_enter Try.func30, Try.ntmps30
        go_wp2_with (go_at_call 45; (with_reducible refine (C.out _ ((Below.refl _ _).alloc (Nat.le_refl _) _)).mono ?_); rintro e w2 ⟨rfl, hbw⟩)
        go_ret
        exact ⟨rfl, hbw⟩)
    · rw [if_neg h2]
      have e1 : (n.op == 1) = false := by simpa using h1
      have e2 : (n.op == 2) = false := by simpa using h2
      clear hok hs hV hl h1 h2
      go_enter Try.func30, Try.ntmps30
      go_wp2_with fail
      go_ret
      exact ⟨rfl, (Below.refl _ _).alloc (Nat.le_refl _) _⟩
end Go.Proofs.Ytedpppkknmeheaa
