/-
  Package graph's closed and deep. No condition.
-/
import Derived.Test.YtedpppkknmeheaaG8
import Derived.Test.YtedpppkknmeheaaGq
import Derived.Deep.OwnRows
import Derived.Deep.LoopGhost
namespace Go.Proofs.Ytedpppkknmeheaa
open Go.RowKit

/-- It tells whether P, and what was there stays. -/
def SaysB (P : Prop) (w : World) (e : Ending) (w' : World) : Prop := ∃ b, e = .returned (.bool b) ∧ (b = true ↔ P) ∧ Below w.heap.size w w'
theorem below_grown {w w' : World} (h : Below w.heap.size w w') : w.grownBy w' none := ⟨h.os, h.tape, h.output, h.size, fun k hk _ => h.block k hk⟩
theorem called_here (la : Option Addr) (ll lc : Nat) (gs : List Gr) (k b : Nat) (w w' : World) (hG : Gc w la ll lc gs) (hF : Fits ll gs) (hk : k < ll) (hb : Below w.heap.size w w') (hc : w'.cell? ⟨b, 0, none⟩ = some (.int .i64 k)) :
    Calls Try.prog 36 #[.slice la ll lc, .slice (some ⟨b, 0, none⟩) 1 1] w' (Told w' ll gs [(k : Int)]) :=
  called_any la ll lc gs _ 1 1 [(k : Int)] w' (hG.later hb) ⟨rfl, Nat.le_refl _, fun i hi => ⟨b, 0, rfl, (by obtain rfl : i = 0 := (by omega); exact hc)⟩⟩ (by intro z hz; rw [List.mem_singleton] at hz; subst hz; omega) hF (by omega)

def unseen (ll : Nat) (s : Nat → Bool) : Nat := ((List.range ll).filter (fun i => !s i)).length
theorem unseen_none (ll : Nat) : unseen ll (fun _ => false) = ll := by
  unfold unseen
  rw [List.filter_eq_self.2 (by simp), List.length_range]
theorem unseen_le (ll : Nat) (s : Nat → Bool) : unseen ll s ≤ ll := by
  have := List.length_filter_le (fun i => !s i) (List.range ll)
  rwa [List.length_range] at this
theorem unseen_set {ll : Nat} {s : Nat → Bool} {k : Nat} (hk : k < ll) (h : s k = false) : unseen ll (fun j => if j = k then true else s j) + 1 = unseen ll s := by
  unfold unseen
  induction ll with
  | zero => omega
  | succ n ih =>
    rw [List.range_succ, List.filter_append, List.filter_append, List.length_append, List.length_append]
    by_cases e : k = n
    · subst e
      have : (List.range k).filter (fun i => !(if i = k then true else s i)) = (List.range k).filter (fun i => !s i) := by
        refine List.filter_congr fun i hi => ?_
        rw [List.mem_range] at hi
        rw [if_neg (by omega)]
      rw [this]
      simp [h]
    · have := ih (by omega)
      have e2 : ([n].filter (fun i => !(if i = k then true else s i))) = [n].filter (fun i => !s i) := by
        refine List.filter_congr fun i hi => ?_
        rw [List.mem_singleton] at hi
        rw [if_neg (by omega)]
      rw [e2]
      omega
theorem told_yes {w : World} {ll : Nat} {gs : List Gr} {k : Nat} {e : Ending} {w' : World} (h : Told w ll gs [(k : Int)] e w') (hv : Wk.Vl ll (cs gs) k) :
    ∃ a n c out, e = .returned (.tuple #[.slice a n c, .bool true]) ∧ Isl w' .i64 a n c out ∧ (a = none → n = 0) ∧ n ≤ ll ∧ Hid (∀ x, x ∈ out ↔ x ∈ cs gs k) ∧ Below w.heap.size w w' := by
  obtain ⟨hb, ⟨a, n, c, out, e1, hI, hno, hp, hm, _⟩ | ⟨_, z, hz, hn⟩⟩ := h
  · have hm' : ∀ x, x ∈ out ↔ x ∈ cs gs k := fun x => by rw [hm]; simp
    refine ⟨a, n, c, out, e1, hI, hno, ?_, hm', hb⟩
    have := Wk.short (n := ll) hp (fun x hx => hv x ((hm' x).1 hx))
    rw [hI.1] at this
    exact this
  · rw [List.mem_singleton] at hz
    subst hz
    exact absurd hv hn
theorem told_no {w : World} {ll : Nat} {gs : List Gr} {k : Nat} {e : Ending} {w' : World} (h : Told w ll gs [(k : Int)] e w') (hv : ¬ Wk.Vl ll (cs gs) k) :
    e = .returned (.tuple #[.slice none 0 0, .bool false]) ∧ Below w.heap.size w w' := by
  obtain ⟨hb, ⟨a, n, c, out, e1, hI, hno, hp, hm, h2⟩ | ⟨h1, _⟩⟩ := h
  · exact absurd (h2 (k : Int) (by simp)) hv
  · exact ⟨h1, hb⟩
theorem que_on {wr w2 : World} {base B k : Nat} {u : Value} {o : Obj} {v : Value} {zs : List Int} (hq : Que wr base v zs) (hB : B < base) (hb : Below ((wr.setCell ⟨B, k, none⟩ u).alloc o).heap.size ((wr.setCell ⟨B, k, none⟩ u).alloc o) w2) : Que w2 base v zs := by
  have h1 : Que (wr.setCell ⟨B, k, none⟩ u) base v zs := hq.kept (setCells_grown B [u] k wr) (fun e => by have := (hq.lt e).1; omega)
  exact (h1.alloc o).kept (below_grown hb) (by obtain ⟨g, off, c, rfl, _⟩ := hq; simp [Value.ownBlock])
structure Seen (ll : Nat) (gs : List Gr) (g : Nat) (zs : List Int) (s : Nat → Bool) : Prop where
  wait : ∀ z ∈ zs, 0 ≤ z ∧ z < ll ∧ Wk.Rc (cs gs) g z.toNat
  done : ∀ x, s x = true → x < ll ∧ Wk.Vl ll (cs gs) x ∧ ∀ c ∈ cs gs x, s c.toNat = true ∨ c ∈ zs
  first : s g = true ∨ (g : Int) ∈ zs
theorem Seen.start {ll : Nat} {gs : List Gr} {g : Nat} (hg : g < ll) : Seen ll gs g [(g : Int)] (fun _ => false) :=
  ⟨fun z hz => by rw [List.mem_singleton] at hz; subst hz; exact ⟨by omega, by omega, by rw [Int.toNat_natCast]; exact Wk.Rc.refl g⟩, fun x h => by simp at h, .inr (by simp)⟩
theorem Seen.finish {ll : Nat} {gs : List Gr} {g : Nat} {s : Nat → Bool} (h : Seen ll gs g [] s) : Wk.Closed ll (cs gs) g := by
  intro x hx
  have : s x = true := Wk.bfs_end (s := fun x => s x = true) (h.first.resolve_right (by simp)) (fun y hy c hc => by
    have := ((h.done y hy).2.2 _ hc).resolve_right (by simp)
    rwa [Int.toNat_natCast] at this) hx
  exact (h.done x this).2.1
theorem Seen.again {ll : Nat} {gs : List Gr} {g k : Nat} {zs : List Int} {s : Nat → Bool} (h : Seen ll gs g ((k : Int) :: zs) s) (hk : s k = true) : Seen ll gs g zs s := by
  refine ⟨fun z hz => h.wait z (by simp [hz]), fun x hx => ⟨(h.done x hx).1, (h.done x hx).2.1, fun c hc => ?_⟩, ?_⟩
  · rcases (h.done x hx).2.2 c hc with e | e
    · exact .inl e
    · rcases List.mem_cons.1 e with e | e
      · subst e; left; rwa [Int.toNat_natCast]
      · exact .inr e
  · rcases h.first with e | e
    · exact .inl e
    · rcases List.mem_cons.1 e with e | e
      · left; have : g = k := by omega
        rw [this]; exact hk
      · exact .inr e
theorem Seen.new {ll : Nat} {gs : List Gr} {g k : Nat} {zs out : List Int} {s : Nat → Bool} (h : Seen ll gs g ((k : Int) :: zs) s) (hv : Wk.Vl ll (cs gs) k) (ho : ∀ x, x ∈ out ↔ x ∈ cs gs k) : Seen ll gs g (zs ++ out) (fun j => if j = k then true else s j) := by
  have hw := h.wait k (by simp)
  rw [Int.toNat_natCast] at hw
  refine ⟨fun z hz => ?_, fun x hx => ?_, ?_⟩
  · rcases List.mem_append.1 hz with e | e
    · exact h.wait z (by simp [e])
    · have hc := (ho z).1 e
      have := hv z hc
      exact ⟨this.1, this.2, hw.2.2.step (by rwa [Int.toNat_of_nonneg this.1])⟩
  · by_cases e : x = k
    · subst e
      refine ⟨by omega, hv, fun c hc => .inr (List.mem_append.2 (.inr ((ho c).2 hc)))⟩
    · rw [if_neg e] at hx
      refine ⟨(h.done x hx).1, (h.done x hx).2.1, fun c hc => ?_⟩
      rcases (h.done x hx).2.2 c hc with e2 | e2
      · left; split
        · rfl
        · exact e2
      · rcases List.mem_cons.1 e2 with e3 | e3
        · left; subst e3; rw [if_pos (by rw [Int.toNat_natCast])]
        · right; exact List.mem_append.2 (.inl e3)
  · rcases h.first with e | e
    · left; split
      · rfl
      · exact e
    · rcases List.mem_cons.1 e with e | e
      · left; rw [if_pos (by omega)]
      · right; exact List.mem_append.2 (.inl e)

theorem bool_info : (Try.prog.info? 4).map (fun i => (i.zero, i.size, i.bytes)) = some (some (.bool false), 1, 1) := by kernel_rfl
theorem meas {u l n m : Nat} (hm : m ≤ l) : u * (l + 1) + (n + m) < (u + 1) * (l + 1) + (n + 1) := by rw [Nat.add_mul]; omega
theorem meas_b {l n : Nat} (hl : l ≤ 1048576) (hn : n ≤ l * (l + 1) + 1) : n ≤ 1099512676353 := by
  have := Nat.mul_le_mul hl (show l + 1 ≤ 1048577 by omega)
  omega
set_option maxRecDepth 100000 in
set_option maxHeartbeats 16000000 in
theorem closed_any (la : Option Addr) (ll lc : Nat) (gs : List Gr) (g : Nat) (w : World) (hG : Gc w la ll lc gs) (hF : Fits ll gs) (hg : g < ll) :
    Calls Try.prog 21 #[.slice la ll lc, .int .i64 g] w (SaysB (Wk.Closed ll (cs gs) g) w) := by
  obtain ⟨i0, hi, hz0, hz1, hz2⟩ := parts_of int_info
  have hll := hF.1
  have hmk := run_make_row' (P := Try.prog) 68 4 (.bool false) 1 Try.underlying68 bool_info rfl .i64 .i64 ll (by omega) (by omega)
  have HG := hide hG
  have HF := hide hF
  have HGL := hide hg
  clear hG hF
  go_enter Try.func21, Try.ntmps21
  go_wp2_with fail
  have hrow0 : ((w.alloc (.cells (madeCells #[.bool false] ll) 4)).alloc (.cells #[.int .i64 g] 3)).rowIs w.heap.size 4 ll (fun i => .bool ((fun _ => false : Nat → Bool) i)) := (World.rowIs_made w (.bool false) ll _).alloc _
  have hque0 : Que ((w.alloc (.cells (madeCells #[.bool false] ll) 4)).alloc (.cells #[.int .i64 g] 3)) (w.heap.size + 1) (.slice (some ⟨w.heap.size + 1, 0, none⟩) 1 1) [(g : Int)] := by
    have e : w.heap.size + 1 = (w.alloc (.cells (madeCells #[.bool false] ll) 4)).heap.size := by simp
    refine Que.of_own (e := 3) (n := 1) ⟨rfl, .inr ⟨_, 1, #[.int .i64 g], rfl, Nat.le_refl _, ?_, Nat.le_refl _, by unfold maxLen; omega, rfl, rfl⟩⟩ (by simp)
    rw [e]; exact heap_alloc_new _ _
  have hbel0 : Below w.heap.size w ((w.alloc (.cells (madeCells #[.bool false] ll) 4)).alloc (.cells #[.int .i64 g] 3)) := ((Below.refl _ _).alloc (Nat.le_refl _) _).alloc (by simp) _
  have HROW := hide hrow0
  have HQUE := hide hque0
  have HBEL := hide hbel0
  clear hrow0 hque0 hbel0 hmk
  go_loopg [6] (ll * (ll + 1) + 1) (fun gk q wr => ∃ (zs : List Int) (s : Nat → Bool), Que wr (w.heap.size + 1) q zs ∧ wr.rowIs w.heap.size 4 ll (fun i => .bool (s i)) ∧ Below w.heap.size w wr ∧ w.heap.size + 1 ≤ wr.heap.size ∧ Hid (Seen ll gs g zs s) ∧ Hid (gk = unseen ll s * (ll + 1) + zs.length) ∧ Hid (gk ≤ ll * (ll + 1) + 1))
  case atStart =>
    refine ⟨[(g : Int)], fun _ => false, HQUE.out, HROW.out, HBEL.out, by simp, Seen.start HGL.out, ?_, Nat.le_refl _⟩
    unfold Hid
    rw [unseen_none]; simp
  case round =>
    obtain ⟨zs, s, hq, hrow, hbel, hsz, HS, HK, HKB⟩ := hrel
    clear HQUE HROW HBEL
    cases zs with
    | nil =>
      obtain ⟨gq, off, c, rfl, -⟩ := hq
      have HB := hide hbel
      have HC := hide HS.out.finish
      clear hrow hbel
      go_wp2_with fail
      go_ret
      exact ⟨true, rfl, by simp [HC.out], HB.out⟩
    | cons x rest =>
      obtain ⟨gq, off, c, hv, hrest⟩ := id hq
      subst hv
      obtain ⟨g', off', e, hn, hnc, hx, ht1, ht2⟩ := hq.tail
      cases e
      have hw := HS.out.wait x (by simp)
      obtain ⟨k, rfl⟩ : ∃ k : Nat, x = k := ⟨x.toNat, by omega⟩
      have hkl : k < ll := by omega
      have hsk := hrow.cell hkl
      have hfz := hrow.frozen k
      have hne : gq ≠ w.heap.size := by have := hrest.1; omega
      have hgl := hrest.2.1
      have HROW := hide hrow
      have HB := hide hbel
      have HQ1 := hide ht1
      have HQ2 := hide ht2
      have hcl : rest.length + 1 ≤ c := by simpa using hnc
      clear hw hrest hrow hbel hq ht1 ht2 hn hnc
      cases hs : s k with
      | true =>
        rw [hs] at hsk
        have HS2 := hide (HS.out.again hs)
        have hlen : rest.length + 1 = (((k : Nat) : Int) :: rest).length := rfl
        have HK2 : Hid (gk = unseen ll s * (ll + 1) + rest.length + 1) := by have h := HK.out; unfold Hid; rw [h, ← hlen]; omega
        clear hs hlen HS HK
        by_cases hc : c = 1
        · subst hc
          obtain rfl : rest = [] := List.eq_nil_of_length_eq_zero (by omega)
          have HQ := hide (HQ1.out rfl)
          go_wp2_with fail
          go_roundg (unseen ll s * (ll + 1) + 0)
          case measure => have h := HK2.out; simp at h; omega
          case rel => exact ⟨[], s, HQ.out, HROW.out, HB.out, hsz, HS2.out, rfl, by have h := HK2.out; have h2 := HKB.out; unfold Hid; omega⟩
        · have HQ := hide (HQ2.out hc)
          have hc0 : ¬ c = 0 := by omega
          go_wp2_with fail
          go_roundg (unseen ll s * (ll + 1) + rest.length)
          case measure => have h := HK2.out; omega
          case rel => exact ⟨rest, s, HQ.out, HROW.out, HB.out, hsz, HS2.out, rfl, by have h := HK2.out; have h2 := HKB.out; unfold Hid; omega⟩
      | false =>
        rw [hs] at hsk
        have HU := hide (unseen_set hkl hs)
        have hlen : rest.length + 1 = (((k : Nat) : Int) :: rest).length := rfl
        have HK2 : Hid (gk = unseen ll s * (ll + 1) + rest.length + 1) := by have h := HK.out; unfold Hid; rw [h, ← hlen]; omega
        have HROW2 := hide (HROW.out.set k (.bool true))
        have hb2 : Below w.heap.size w (wr.setCell ⟨w.heap.size, k, none⟩ (.bool true)) := HB.out.setCell (Nat.le_refl _) _
        have hb3 : Below w.heap.size w ((wr.setCell ⟨w.heap.size, k, none⟩ (.bool true)).alloc (.cells #[.int .i64 k] 3)) := hb2.alloc (by simp [World.setCell]; omega) _
        have hsz3 : w.heap.size < ((wr.setCell ⟨w.heap.size, k, none⟩ (.bool true)).alloc (.cells #[.int .i64 k] 3)).heap.size := by simp [World.setCell]; omega
        have HROW3 : Hid (∀ w2, Below ((wr.setCell ⟨w.heap.size, k, none⟩ (.bool true)).alloc (.cells #[.int .i64 k] 3)).heap.size ((wr.setCell ⟨w.heap.size, k, none⟩ (.bool true)).alloc (.cells #[.int .i64 k] 3)) w2 → w2.rowIs w.heap.size 4 ll (fun j => if j = k then .bool true else .bool (s j))) := hide (fun w2 hb => (HROW2.out.alloc _).of_block (hb.block _ hsz3))
        have HB4 : Hid (∀ w2, Below ((wr.setCell ⟨w.heap.size, k, none⟩ (.bool true)).alloc (.cells #[.int .i64 k] 3)).heap.size ((wr.setCell ⟨w.heap.size, k, none⟩ (.bool true)).alloc (.cells #[.int .i64 k] 3)) w2 → Below w.heap.size w w2 ∧ w.heap.size + 1 ≤ w2.heap.size) := hide (fun w2 hb => ⟨hb3.trans (hb.mono hb3.size), by have := hb.size; omega⟩)
        have HB3 := hide hb3
        by_cases hv : Wk.Vl ll (cs gs) k
        · have C : Hid (∀ w' b, Below w.heap.size w w' → w'.cell? ⟨b, 0, none⟩ = some (.int .i64 k) → Calls Try.prog 36 #[.slice la ll lc, .slice (some ⟨b, 0, none⟩) 1 1] w' fun e w2 => ∃ a n c out, e = .returned (.tuple #[.slice a n c, .bool true]) ∧ Isl w2 .i64 a n c out ∧ (a = none → n = 0) ∧ n ≤ ll ∧ Hid (∀ x, x ∈ out ↔ x ∈ cs gs k) ∧ Below w'.heap.size w' w2) := hide (fun w' b hb hc => (called_here la ll lc gs k b w w' HG.out HF.out hkl hb hc).mono fun e w2 h => told_yes h hv)
          have HV := hide hv
          have hrl : rest.length ≤ 1099512676353 := by
            have h := HK2.out
            have h2 := HKB.out
            exact meas_b hll (by omega)
          clear hs hlen hb2 hb3 HK hv hsz3
          by_cases hc : c = 1
          · subst hc
            obtain rfl : rest = [] := List.eq_nil_of_length_eq_zero (by omega)
            have HQ := hide (HQ1.out rfl)
            go_wp2_with (first | (go_at_call 36; (with_reducible refine (C.out _ _ HB3.out ?_).mono ?_); (go_simp); rintro e w2 ⟨a, n, c', out, rfl, hI, hno, hnl, HM, hb4⟩; have HI := hide hI; have HNO := hide hno; have HQW := hide (que_on HQ.out (Nat.lt_succ_self _) hb4); have HR := hide (HROW3.out _ hb4); have hs4 := (HB4.out _ hb4).2; have HBW := hide (HB4.out _ hb4).1; clear hI hno hb4) | (at_builtin; refine wpl_append_que rfl _ _ 35 rfl (w.heap.size + 1) 3 i0 Try.underlying35 hi hz0 hz1 hz2 _ ([] : List Int) rfl HQW.out _ _ _ out rfl HI.out HNO.out ?bd ?bs ?_))
            case bd => simp; omega
            case bs => exact hs4
            intro v' w3 hq3 hg3 hl3
            have HQ3 := hide hq3
            have HR3 := hide (HR.out.of_block (hg3.block _ (by omega) (fun e => hne (by simpa [Value.ownBlock] using e.symm))))
            have HB5 := hide (HBW.out.grown hg3 (by omega) (fun j hj => by have := (HQW.out.lt hj).1; omega))
            have hs5 : w.heap.size + 1 ≤ w3.heap.size := Nat.le_trans hs4 hg3.size
            have HLO : Hid (out.length = n) := HI.out.1
            clear hq3 hg3 hl3
            go_wp2_with fail
            go_roundg (unseen ll (fun j => if j = k then true else s j) * (ll + 1) + (([] : List Int) ++ out).length)
            case measure =>
              have h := HK2.out
              rw [h, ← HU.out, List.length_append, HLO.out, Nat.add_assoc]
              exact meas hnl
            case rel =>
              refine ⟨([] : List Int) ++ out, fun j => if j = k then true else s j, HQ3.out, ?_, HB5.out, hs5, HS.out.new HV.out HM.out, rfl, ?_⟩
              · refine HR3.out.congr fun i hi => ?_
                by_cases e : i = k
                · simp [e]
                · simp [e]
              · have h := HK2.out
                have h2 := HKB.out
                unfold Hid
                rw [h, ← HU.out] at h2
                rw [List.length_append, HLO.out]
                have := meas (u := unseen ll (fun j => if j = k then true else s j)) (l := ll) (n := ([] : List Int).length) (m := n) hnl
                omega
          · have HQ := hide (HQ2.out hc)
            have hc0 : ¬ c = 0 := by omega
            go_wp2_with (first | (go_at_call 36; (with_reducible refine (C.out _ _ HB3.out ?_).mono ?_); (go_simp); rintro e w2 ⟨a, n, c', out, rfl, hI, hno, hnl, HM, hb4⟩; have HI := hide hI; have HNO := hide hno; have HQW := hide (que_on HQ.out (Nat.lt_succ_self _) hb4); have HR := hide (HROW3.out _ hb4); have hs4 := (HB4.out _ hb4).2; have HBW := hide (HB4.out _ hb4).1; clear hI hno hb4) | (at_builtin; refine wpl_append_que rfl _ _ 35 rfl (w.heap.size + 1) 3 i0 Try.underlying35 hi hz0 hz1 hz2 _ rest rfl HQW.out _ _ _ out rfl HI.out HNO.out ?bd ?bs ?_))
            case bd => omega
            case bs => exact hs4
            intro v' w3 hq3 hg3 hl3
            have HQ3 := hide hq3
            have HR3 := hide (HR.out.of_block (hg3.block _ (by omega) (fun e => hne (by simpa [Value.ownBlock] using e.symm))))
            have HB5 := hide (HBW.out.grown hg3 (by omega) (fun j hj => by have := (HQW.out.lt hj).1; omega))
            have hs5 : w.heap.size + 1 ≤ w3.heap.size := Nat.le_trans hs4 hg3.size
            have HLO : Hid (out.length = n) := HI.out.1
            clear hq3 hg3 hl3
            go_wp2_with fail
            go_roundg (unseen ll (fun j => if j = k then true else s j) * (ll + 1) + (rest ++ out).length)
            case measure =>
              have h := HK2.out
              rw [h, ← HU.out, List.length_append, HLO.out, Nat.add_assoc]
              exact meas hnl
            case rel =>
              refine ⟨rest ++ out, fun j => if j = k then true else s j, HQ3.out, ?_, HB5.out, hs5, HS.out.new HV.out HM.out, rfl, ?_⟩
              · refine HR3.out.congr fun i hi => ?_
                by_cases e : i = k
                · simp [e]
                · simp [e]
              · have h := HK2.out
                have h2 := HKB.out
                unfold Hid
                rw [h, ← HU.out] at h2
                rw [List.length_append, HLO.out]
                have := meas (u := unseen ll (fun j => if j = k then true else s j)) (l := ll) (n := rest.length) (m := n) hnl
                omega
        · have C : Hid (∀ w' b, Below w.heap.size w w' → w'.cell? ⟨b, 0, none⟩ = some (.int .i64 k) → Calls Try.prog 36 #[.slice la ll lc, .slice (some ⟨b, 0, none⟩) 1 1] w' fun e w2 => e = .returned (.tuple #[.slice none 0 0, .bool false]) ∧ Below w'.heap.size w' w2) := hide (fun w' b hb hc => (called_here la ll lc gs k b w w' HG.out HF.out hkl hb hc).mono fun e w2 h => told_no h hv)
          have HEND : Hid (¬ Wk.Closed ll (cs gs) g) := fun h => by
            have h2 := (HS.out.wait (k : Int) (by simp)).2.2
            rw [Int.toNat_natCast] at h2
            exact hv (h k h2)
          clear hs hlen hb2 hb3 HK hv hsz3
          by_cases hc : c = 1
          · subst hc
            go_wp2_with (go_at_call 36; (with_reducible refine (C.out _ _ HB3.out ?_).mono ?_); (go_simp); rintro e w2 ⟨rfl, hb4⟩; have HBW := hide (HB4.out _ hb4).1; clear hb4)
            go_ret
            exact ⟨false, rfl, by simp [HEND.out], HBW.out⟩
          · have hc0 : ¬ c = 0 := by omega
            go_wp2_with (go_at_call 36; (with_reducible refine (C.out _ _ HB3.out ?_).mono ?_); (go_simp); rintro e w2 ⟨rfl, hb4⟩; have HBW := hide (HB4.out _ hb4).1; clear hb4)
            go_ret
            exact ⟨false, rfl, by simp [HEND.out], HBW.out⟩

/-! ### deep -/
/-- A level: the graphs that so many steps lead to. -/
def Level (ll : Nat) (gs : List Gr) (g k : Nat) (zs : List Int) : Prop := (∀ x : Nat, (x : Int) ∈ zs ↔ Wk.Lv (cs gs) g k x) ∧ (∀ z ∈ zs, 0 ≤ z ∧ z < ll)
theorem Level.next {ll : Nat} {gs : List Gr} {g k : Nat} {zs out : List Int} (h : Level ll gs g k zs) (hm : ∀ x, x ∈ out ↔ ∃ z ∈ zs, x ∈ cs gs z.toNat) (hv : ∀ z ∈ zs, Wk.Vl ll (cs gs) z.toNat) : Level ll gs g (k + 1) out := by
  refine ⟨fun x => ?_, fun z hz => ?_⟩
  · rw [hm]
    constructor
    · rintro ⟨z, hz, hx⟩
      have h0 := (h.2 z hz).1
      exact ⟨z.toNat, (h.1 _).1 (by rwa [Int.toNat_of_nonneg h0]), hx⟩
    · rintro ⟨y, hy, hx⟩
      exact ⟨y, (h.1 y).2 hy, by rwa [Int.toNat_natCast]⟩
  · obtain ⟨y, hy, hz⟩ := (hm z).1 hz
    exact hv y hy z hz
theorem Level.vl {ll : Nat} {gs : List Gr} {g k : Nat} {zs : List Int} (h : Level ll gs g k zs) (hc : Wk.Closed ll (cs gs) g) : ∀ z ∈ zs, Wk.Vl ll (cs gs) z.toNat := by
  intro z hz
  have h0 := (h.2 z hz).1
  exact hc _ ⟨k, (h.1 _).1 (by rwa [Int.toNat_of_nonneg h0])⟩
theorem Level.end {ll : Nat} {gs : List Gr} {g : Nat} {zs : List Int} (h : Level ll gs g 9 zs) : decide ((0 : Int) < (zs.length : Int)) = true ↔ ¬ Wk.NP (cs gs) 9 g := by
  rw [decide_eq_true_iff]
  constructor
  · intro hl hn
    cases zs with
    | nil => simp at hl
    | cons z zs =>
      have h0 := (h.2 z (by simp)).1
      exact hn z.toNat ((h.1 _).1 (by rw [Int.toNat_of_nonneg h0]; simp))
  · intro hn
    cases zs with
    | nil =>
      refine absurd (fun x hx => ?_) hn
      have := (h.1 x).2 hx
      simp at this
    | cons z zs => simp
theorem told_level {w : World} {ll : Nat} {gs : List Gr} {zs : List Int} {e : Ending} {w' : World} (h : Told w ll gs zs e w') (hv : ∀ z ∈ zs, Wk.Vl ll (cs gs) z.toNat) :
    ∃ a n c out, e = .returned (.tuple #[.slice a n c, .bool true]) ∧ Isl w' .i64 a n c out ∧ n ≤ ll ∧ Hid (∀ x, x ∈ out ↔ ∃ z ∈ zs, x ∈ cs gs z.toNat) ∧ Below w.heap.size w w' := by
  obtain ⟨hb, ⟨a, n, c, out, e1, hI, _, hp, hm, _⟩ | ⟨_, z, hz, hn⟩⟩ := h
  · refine ⟨a, n, c, out, e1, hI, ?_, hm, hb⟩
    have := Wk.short (n := ll) hp (fun x hx => by obtain ⟨z, hz, hx⟩ := (hm x).1 hx; exact hv z hz x hx)
    rw [hI.1] at this
    exact this
  · exact absurd (hv z hz) hn
set_option maxRecDepth 100000 in
set_option maxHeartbeats 16000000 in
theorem deep_any (la : Option Addr) (ll lc : Nat) (gs : List Gr) (g : Nat) (w : World) (hG : Gc w la ll lc gs) (hF : Fits ll gs) (hg : g < ll) (hcl : Wk.Closed ll (cs gs) g) :
    Calls Try.prog 22 #[.slice la ll lc, .int .i64 g] w (SaysB (¬ Wk.NP (cs gs) 9 g) w) := by
  have hll := hF.1
  have C : Hid (∀ w' a n c zs k, Below w.heap.size w w' → Isl w' .i64 a n c zs → n ≤ ll → Level ll gs g k zs → Calls Try.prog 36 #[.slice la ll lc, .slice a n c] w' fun e w2 => ∃ a n c out, e = .returned (.tuple #[.slice a n c, .bool true]) ∧ Isl w2 .i64 a n c out ∧ n ≤ ll ∧ Hid (∀ x, x ∈ out ↔ ∃ z ∈ zs, x ∈ cs gs z.toNat) ∧ Below w'.heap.size w' w2) :=
    hide (fun w' a n c zs k hb hI hn hL => (called_any la ll lc gs a n c zs w' (hG.later hb) hI hL.2 hF (by omega)).mono fun e w2 h => told_level h (hL.vl hcl))
  have HCL := hide hcl
  have hb0 : Below w.heap.size w (w.alloc (.cells #[.int .i64 g] 3)) := (Below.refl _ _).alloc (Nat.le_refl _) _
  have hi0 : Isl (w.alloc (.cells #[.int .i64 g] 3)) .i64 (some ⟨w.heap.size, 0, none⟩) 1 1 [(g : Int)] := ⟨rfl, Nat.le_refl _, fun i hi => ⟨_, 0, rfl, (by obtain rfl : i = 0 := (by omega); exact World.cell?_alloc_new w #[.int .i64 g] 3 0)⟩⟩
  have hl0 : Level ll gs g 0 [(g : Int)] := ⟨fun x => by
    rw [List.mem_singleton]
    constructor
    · intro h; show g = x; omega
    · intro h; have : g = x := h
      omega, fun z hz => by rw [List.mem_singleton] at hz; subst hz; omega⟩
  have HB0 := hide hb0
  have HI0 := hide hi0
  have HL0 := hide hl0
  have hl1 : 1 ≤ ll := by omega
  clear hG hF hg hcl hb0 hi0 hl0
  go_enter Try.func22, Try.ntmps22
  go_wp2_with fail
  go_loopw [5, 8] (fun q i wr => ∃ (k n c : Nat) (a : Option Addr) (zs : List Int), q = .slice a n c ∧ i = .int .i64 k ∧ k ≤ 9 ∧ n ≤ ll ∧ Hid (Isl wr .i64 a n c zs) ∧ Hid (Below w.heap.size w wr) ∧ Hid (Level ll gs g k zs)) (fun _ i _ => 9 - (intOf i).toNat)
  case atStart => exact ⟨0, 1, 1, _, _, rfl, rfl, by omega, hl1, HI0.out, HB0.out, HL0.out⟩
  case round =>
    obtain ⟨k, n, c, a, zs, rfl, rfl, hk, hn, HI, HB, HL⟩ := hrel
    by_cases hlt : k < 9
    · go_wp2_with (go_at_call 36; (with_reducible refine (C.out _ _ _ _ zs k HB.out HI.out hn HL.out).mono ?_); rintro e w2 ⟨a2, n2, c2, out, rfl, hI, hn2, HM, hb2⟩; have HI2 := hide hI; have HB2 := hide (HB.out.trans (hb2.mono HB.out.size)); clear hI hb2)
      go_roundw
      case rel => exact ⟨k + 1, n2, c2, a2, out, rfl, by go_num, by omega, hn2, HI2.out, HB2.out, HL.out.next HM.out (HL.out.vl HCL.out)⟩
      case measure => simp [intOf]; omega
    · obtain rfl : k = 9 := by omega
      have HE := hide HL.out.end
      have HLZ : Hid (zs.length = n) := HI.out.1
      go_wp2_with fail
      go_ret
      refine ⟨_, rfl, ?_, HB.out⟩
      rw [← HE.out, HLZ.out, decide_eq_true_iff, decide_eq_true_iff]; omega
end Go.Proofs.Ytedpppkknmeheaa
