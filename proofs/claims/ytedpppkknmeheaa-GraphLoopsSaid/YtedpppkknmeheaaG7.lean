/-
  slices.Sort and slices.Compact over a row of the call's own; package graph's called. No condition.
-/
import Derived.Test.YtedpppkknmeheaaG4
import Derived.Test.YtedpppkknmeheaaGp
import Derived.Test.YtedpppkknmeheaaShelf
import Derived.Test.YtedpppkknmeheaaApp
import Derived.Sort.OwnSortedInts
import Derived.Lib.OwnBridge
namespace Go.Proofs.Ytedpppkknmeheaa
open Go.RowKit

theorem int_info : (Try.prog.info? 3).map (fun i => (i.zero, i.size, i.bytes)) = some (some (.int .i64 0), 1, 8) := by kernel_rfl
theorem parts_of {t : TypeId} {z : Value} {a b : Nat} (h : (Try.prog.info? t).map (fun i => (i.zero, i.size, i.bytes)) = some (some z, a, b)) : ∃ i, Try.prog.info? t = some i ∧ i.zero = some z ∧ i.size = a ∧ i.bytes = b := by
  obtain ⟨i, hi, he⟩ := Option.map_eq_some_iff.1 h
  simp at he
  exact ⟨i, hi, he.1, he.2.1, he.2.2⟩
def ivs (zs : List Int) : List Value := zs.map (Value.int .i64)
theorem ivs_one (zs : List Int) : ∀ u ∈ ivs zs, u.oneCell' = true := by
  intro u hu; obtain ⟨z, _, rfl⟩ := List.mem_map.1 hu; rfl
theorem Isl_of_own {w : World} {base : Nat} {e : TypeId} {v : Value} {n : Nat} {zs : List Int} (h : w.ownsRow base e 1 v n (ivs zs)) : ∃ a cap, v = .slice a n cap ∧ Isl w .i64 a n cap zs := by
  have hl : zs.length = n := by simpa [ivs] using h.1
  rcases h.2 with ⟨rfl, rfl⟩ | ⟨g, cap, cur, rfl, _, hg, hn, _, hs, ht⟩
  · exact ⟨none, 0, rfl, hl, Nat.le_refl _, fun i hi => by omega⟩
  · refine ⟨_, cap, rfl, hl, hn, fun i hi => ⟨g, 0, rfl, ?_⟩⟩
    rw [Nat.zero_add]
    have hc := h.cells (g := g) rfl i (.int .i64 (zs.getD i 0)) (by simp [ivs, show i < zs.length by omega])
    rwa [Go.WideShapes.add_plain, Nat.zero_add] at hc

def srt (zs : List Int) : List Int := zs.mergeSort fun x y => decide (x ≤ y)
theorem srt_length (zs : List Int) : (srt zs).length = zs.length := List.length_mergeSort zs
theorem own_shape {w : World} {base : Nat} {e : TypeId} {g n cap : Nat} {xs : List Value} (h : w.ownsRow base e 1 (.slice (some ⟨g, 0, none⟩) n cap) n xs) : ∃ cur, base ≤ g ∧ g < w.heap.size ∧ w.heap[g]? = some (.cells cur e (0, 0)) ∧ n ≤ cap ∧ cap ≤ maxLen ∧ cur.size = cap * 1 ∧ cur.toList.take (n * 1) = xs := by
  rcases h.2 with ⟨h0, _⟩ | ⟨g', cap', cur, hv, hbase, hb, h1, h2, h3, h4⟩
  · cases h0
  · cases hv
    exact ⟨cur, hbase, (Array.getElem?_eq_some_iff.1 hb).1, hb, h1, h2, h3, h4⟩
theorem sort_own {w : World} {base g n cap : Nat} {zs : List Int} (h : w.ownsRow base 3 1 (.slice (some ⟨g, 0, none⟩) n cap) n (ivs zs)) (hn : n ≤ 1099511627776) :
    Calls Try.prog 48 #[.slice (some ⟨g, 0, none⟩) n cap] w fun e w' => e = .returned (.tuple #[]) ∧ w'.ownsRow base 3 1 (.slice (some ⟨g, 0, none⟩) n cap) n (ivs (srt zs)) ∧ w.grownBy w' (some g) := by
  obtain ⟨cur, hbase, hlt, hb, h1, h2, h3, h4⟩ := own_shape h
  have hl : zs.length = n := by simpa [ivs] using h.1
  subst hl
  refine (Try.slices_Sort_int g 0 cap zs w (holds_of_blockI hb (by simpa [ivs] using h4)) hlt (by omega)).mono fun e w' hw => ?_
  obtain ⟨rfl, nn, os, rfl⟩ := hw
  exact ⟨rfl, ownsRow_sortedI (srt_length zs) hbase hb h1 h2 h3, grownBy_sortedI _⟩
theorem compact_own {w : World} {base g n cap : Nat} {zs : List Int} (h : w.ownsRow base 3 1 (.slice (some ⟨g, 0, none⟩) n cap) n (ivs zs)) (hn : n ≤ 1099511627776) :
    Calls Try.prog 49 #[.slice (some ⟨g, 0, none⟩) n cap] w fun e w' => e = .returned (.slice (some ⟨g, 0, none⟩) (Lib.compact zs).length cap) ∧ w'.ownsRow base 3 1 (.slice (some ⟨g, 0, none⟩) (Lib.compact zs).length cap) (Lib.compact zs).length (ivs (Lib.compact zs)) ∧ w.grownBy w' (some g) := by
  obtain ⟨cur, hbase, hlt, hb, h1, h2, h3, h4⟩ := own_shape h
  have hl : zs.length = n := by simpa [ivs] using h.1
  subst hl
  have hle := Lib.compact_length_le zs
  refine (Try.slices_Compact_int g 0 cap zs w (holds_of_blockI hb (by simpa [ivs] using h4)) (by omega) h1).mono fun e w' hw => ?_
  obtain ⟨rfl, q, rfl⟩ := hw
  have hc := Lib.ownsRow_putRow (enc := Value.int .i64) (q := q) (k := (Lib.compact zs).length) (ys := Lib.compact zs ++ List.replicate (zs.length - (Lib.compact zs).length) 0) h (by simp; omega) hle
  rw [List.take_left] at hc
  refine ⟨rfl, hc, ?_⟩
  have hg := grownBy_sortedI (w := w) (g := g) (n := q) (os := #[]) (Lib.compact zs ++ List.replicate (zs.length - (Lib.compact zs).length) 0).toArray
  rwa [Sort.grow_empty] at hg

/-! ### graphs, as far as Work looks at them -/
def Ndw (w : World) (a : Option Addr) (len cap : Nat) (l : List Nd) : Prop :=
  l.length = len ∧ len ≤ cap ∧ ∀ i, i < len → ∃ b off, a = some ⟨b, off, none⟩ ∧
    (w.cell? ⟨b, off + i * 7, none⟩ = some (.int .i64 (l.getD i default).op) ∧ w.cell? ⟨b, off + i * 7 + 1, none⟩ = some (.slice (l.getD i default).ia (l.getD i default).il (l.getD i default).ic) ∧ w.cell? ⟨b, off + i * 7 + 2, none⟩ = some (.slice (l.getD i default).ta (l.getD i default).tl (l.getD i default).tc) ∧ w.cell? ⟨b, off + i * 7 + 3, none⟩ = some (.int .i64 (l.getD i default).no) ∧ w.cell? ⟨b, off + i * 7 + 4, none⟩ = some (.slice (l.getD i default).sa (l.getD i default).sl (l.getD i default).sc) ∧ w.cell? ⟨b, off + i * 7 + 5, none⟩ = some (.slice (l.getD i default).da (l.getD i default).dl (l.getD i default).dc) ∧ w.cell? ⟨b, off + i * 7 + 6, none⟩ = some (.slice (l.getD i default).ha (l.getD i default).hl (l.getD i default).hc))
theorem Ndw.later {w w' : World} {a : Option Addr} {len cap : Nat} {l : List Nd} (h : Ndw w a len cap l) (hb : Below w.heap.size w w') : Ndw w' a len cap l :=
  ⟨h.1, h.2.1, fun i hi => by
    obtain ⟨b, off, e, ⟨c0, c1, c2, c3, c4, c5, c6⟩⟩ := h.2.2 i hi
    exact ⟨b, off, e, ⟨cell_later hb c0, cell_later hb c1, cell_later hb c2, cell_later hb c3, cell_later hb c4, cell_later hb c5, cell_later hb c6⟩⟩⟩
def Gc (w : World) (a : Option Addr) (len cap : Nat) (gs : List Gr) : Prop :=
  gs.length = len ∧ len ≤ cap ∧ ∀ i, i < len → ∃ b off, a = some ⟨b, off, none⟩ ∧ w.cell? ⟨b, off + i, none⟩ = some (.slice (gs.getD i default).a (gs.getD i default).len (gs.getD i default).cap) ∧ Ndw w (gs.getD i default).a (gs.getD i default).len (gs.getD i default).cap (gs.getD i default).l
theorem Gc.later {w w' : World} {a : Option Addr} {len cap : Nat} {gs : List Gr} (h : Gc w a len cap gs) (hb : Below w.heap.size w w') : Gc w' a len cap gs :=
  ⟨h.1, h.2.1, fun i hi => by
    obtain ⟨b, off, e, c, hn⟩ := h.2.2 i hi
    exact ⟨b, off, e, cell_later hb c, hn.later hb⟩⟩
theorem Nds.c {w : World} {a : Option Addr} {len cap : Nat} {l : List Nd} (h : Nds w a len cap l) : Ndw w a len cap l :=
  ⟨h.1, h.2.1, fun i hi => by obtain ⟨b, off, e, c, _⟩ := h.2.2 i hi; exact ⟨b, off, e, c⟩⟩
theorem Grs.c {w : World} {a : Option Addr} {len cap : Nat} {gs : List Gr} (h : Grs w a len cap gs) : Gc w a len cap gs :=
  ⟨h.1, h.2.1, fun i hi => by obtain ⟨b, off, e, c, hn⟩ := h.2.2 i hi; exact ⟨b, off, e, c, hn.c⟩⟩

/-- The graphs that nodes call. -/
def csl (l : List Nd) : List Int := (l.filter (fun n => n.op == 16)).map Nd.no
def cs (gs : List Gr) (i : Nat) : List Int := csl (gs.getD i default).l
def ln (gs : List Gr) (i : Nat) : Nat := (gs.getD i default).len
def outL (gs : List Gr) (zs : List Int) : List Int := zs.flatMap (fun z => cs gs z.toNat)
/-- No graph has more nodes than that. -/
def Fits (ll : Nat) (gs : List Gr) : Prop := ll ≤ 1048576 ∧ ∀ i, i < ll → ln gs i ≤ 1048576
theorem csl_snoc (l : List Nd) (k : Nat) (h : k < l.length) (n : Nd) (hn : l.getD k default = n) : csl (l.take (k + 1)) = csl (l.take k) ++ (if n.op = 16 then [n.no] else []) := by
  have : l[k] = n := by rw [← hn, List.getD_eq_getElem?_getD, List.getElem?_eq_getElem h]; rfl
  unfold csl
  rw [List.take_succ_eq_append_getElem h, this, List.filter_append, List.map_append]
  by_cases e : n.op = 16 <;> simp [e]
theorem outL_snoc (gs : List Gr) (zs : List Int) (k : Nat) (h : k < zs.length) : outL gs (zs.take (k + 1)) = outL gs (zs.take k) ++ cs gs (zs.getD k 0).toNat := by
  unfold outL
  rw [List.take_succ_eq_append_getElem h, List.flatMap_append, List.getD_eq_getElem?_getD, List.getElem?_eq_getElem h]
  simp
theorem mem_outL {gs : List Gr} {zs : List Int} {x : Int} : x ∈ outL gs zs ↔ ∃ z ∈ zs, x ∈ cs gs z.toNat := by
  unfold outL; rw [List.mem_flatMap]

/-- What called tells. -/
def Told (w : World) (ll : Nat) (gs : List Gr) (zs : List Int) (e : Ending) (w' : World) : Prop :=
  Below w.heap.size w w' ∧
    ((∃ a n c out, e = .returned (.tuple #[.slice a n c, .bool true]) ∧ Isl w' .i64 a n c out ∧ (a = none → n = 0) ∧ out.Pairwise (· < ·) ∧ (∀ x, x ∈ out ↔ ∃ z ∈ zs, x ∈ cs gs z.toNat) ∧ (∀ z ∈ zs, Wk.Vl ll (cs gs) z.toNat)) ∨
     (e = .returned (.tuple #[.slice none 0 0, .bool false]) ∧ ∃ z ∈ zs, ¬ Wk.Vl ll (cs gs) z.toNat))
end Go.Proofs.Ytedpppkknmeheaa
