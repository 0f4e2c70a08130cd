/- The reference cache, its parts: how it lies in memory; Find; New. -/
import Derived.Test.YtgndkmdmpiiedaaBase
import Derived.Test.YtgndkmdmpiiedaaChecked
import Derived.Deep.RegionHeld3
import Derived.Deep.AppendLies
import Derived.Deep.RegionLaw
namespace Go.Proofs.Ytgndkmdmpiiedaa.Ref
open Go.RowKit

abbrev IT := It Int Int
def cells (x : IT) : List Value := [.int .i64 x.k, .int .i64 x.v, .bool x.d, .int .i64 x.p]
def flat (l : List IT) : List Value := l.flatMap cells

theorem flat_len (l : List IT) : (flat l).length = l.length * 4 := by
  induction l with
  | nil => rfl
  | cons x l ih => simp only [flat, List.flatMap_cons, List.length_append, List.length_cons] at ih ⊢; rw [ih]; simp [cells]; omega
theorem flat_app (l r : List IT) : flat (l ++ r) = flat l ++ flat r := by simp [flat]
theorem flat_at (l : List IT) {i f : Nat} (hi : i < l.length) (hf : f < 4) : (flat l)[i * 4 + f]? = (cells (l[i]))[f]? := by
  induction l generalizing i with
  | nil => simp at hi
  | cons x l ih =>
    cases i with
    | zero =>
      simp only [flat, List.flatMap_cons]
      rw [List.getElem?_append_left (by simp [cells]; omega)]; simp
    | succ i =>
      simp only [flat, List.flatMap_cons]
      rw [List.getElem?_append_right (by simp [cells]; omega)]
      have := ih (i := i) (by simpa using hi)
      simp only [flat] at this
      rw [show (i + 1) * 4 + f - (cells x).length = i * 4 + f by simp [cells]; omega, this]; simp

/-- The reference cache at r: at most M things, those of l. Its row is its own, from block 'base' on. -/
structure RRep (w : World) (base r : Nat) (M : Int) (lv : Value) (l : List IT) : Prop where
  base_le : base ≤ r
  blk : w.heap[r]? = some (.cells #[.int .i64 M, lv] 94 (0, 0))
  own : w.ownsRow base 116 4 lv l.length (flat l)
  apart : lv.ownBlock ≠ some r

abbrev rfoot (r : Nat) (lv : Value) : List Nat := r :: lv.ownBlock.toList

theorem RRep.keep {w w' : World} {base r : Nat} {M : Int} {lv : Value} {l : List IT} (h : RRep w base r M lv l) {F : List Nat} (u : Upd F w w') (hF : ∀ k ∈ rfoot r lv, k ∉ F) : RRep w' base r M lv l :=
  ⟨h.base_le, by rw [u.block r (lt_of_blk h.blk) (hF r (by simp))]; exact h.blk, own_upd h.own u (fun k hk q => hF k (by simp [q]) hk), h.apart⟩

theorem RRep.lt {w : World} {base r : Nat} {M : Int} {lv : Value} {l : List IT} (h : RRep w base r M lv l) {k : Nat} (hk : k ∈ rfoot r lv) : base ≤ k ∧ k < w.heap.size := by
  simp at hk
  rcases hk with rfl | hk
  · exact ⟨h.base_le, lt_of_blk h.blk⟩
  · exact h.own.lt k hk

theorem RRep.cellsR {w : World} {base r : Nat} {M : Int} {lv : Value} {l : List IT} (h : RRep w base r M lv l) :
    w.cell? ⟨r, 0, none⟩ = some (.int .i64 M) ∧ w.cell? ⟨r, 1, none⟩ = some lv ∧ ∀ o, w.frozen? ⟨r, o, none⟩ = false :=
  ⟨cell_blk h.blk 0, cell_blk h.blk 1, frozen_blk h.blk⟩

/-- The row of a list that is not empty. -/
theorem RRep.row {w : World} {base r : Nat} {M : Int} {lv : Value} {l : List IT} (h : RRep w base r M lv l) {j : Nat} (hj : j < l.length) :
    ∃ g cap cur, lv = .slice (some ⟨g, 0, none⟩) l.length cap ∧ w.heap[g]? = some (.cells cur 116 (0, 0)) ∧ l.length ≤ cap ∧ cap ≤ maxLen ∧ cur.size = cap * 4 ∧ base ≤ g ∧ cur.toList.take (l.length * 4) = flat l := by
  obtain ⟨_, h2⟩ := h.own
  rcases h2 with ⟨_, h2⟩ | ⟨g, cap, cur, hv, hg, hh, r1, r2, r3, r4⟩
  · omega
  · exact ⟨g, cap, cur, hv, hh, r1, r2, r3, hg, r4⟩

theorem row_cell {w : World} {g : Nat} {cur : Array Value} {l : List IT} (hb : w.heap[g]? = some (.cells cur 116 (0, 0))) (hc : cur.toList.take (l.length * 4) = flat l) {i : Nat} (hi : i < l.length) :
    w.cell? ⟨g, i * 4, none⟩ = some (.int .i64 l[i].k) ∧ w.cell? ⟨g, i * 4 + 1, none⟩ = some (.int .i64 l[i].v) ∧ w.cell? ⟨g, i * 4 + 2, none⟩ = some (.bool l[i].d) ∧ w.cell? ⟨g, i * 4 + 3, none⟩ = some (.int .i64 l[i].p) := by
  have key : ∀ f, f < 4 → w.cell? ⟨g, i * 4 + f, none⟩ = (cells l[i])[f]? := fun f hf => by
    rw [cell_blk hb, ← Array.getElem?_toList, ← flat_at l hi hf, ← hc, List.getElem?_take_of_lt (by omega)]
  exact ⟨key 0 (by omega), key 1 (by omega), key 2 (by omega), key 3 (by omega)⟩

def NewPost (most : Int) (base : Nat) (w : World) (e : Ending) (w' : World) : Prop :=
  ∃ r, e = .returned (.tuple #[.pointer (some ⟨r, 0, none⟩), .int .i64 0]) ∧ RRep w' base r most (.slice none 0 0) [] ∧ Upd [] w w' ∧ w.heap.size ≤ r

theorem new_ok (most : Int) (base : Nat) (w : World) (hb : base ≤ w.heap.size) (h1 : 1 ≤ most) (h2 : most ≤ 1024) : Calls Try.prog 18 #[.int .i64 most] w (NewPost most base w) := by
  go_enter Try.func18, Try.ntmps18
  go_wp2
  go_ret2
  exact ⟨_, rfl, ⟨hb, by rw [heap_alloc, if_pos rfl], World.ownsRow_nil _ _ _ _, by simp [Value.ownBlock]⟩, (Upd.refl _ _).alloc _, Nat.le_refl _⟩

theorem new_bad (most : Int) (w : World) (h : most < 1 ∨ 1024 < most) : Calls Try.prog 18 #[.int .i64 most] w (fun e w' => e = .returned (.tuple #[.pointer none, .int .i64 1]) ∧ w = w') := by
  rcases h with h | h
  · go_enter Try.func18, Try.ntmps18
    go_wp2
    go_ret2
    exact ⟨rfl, rfl⟩
  · have h' : ¬ most < 1 := by omega
    go_enter Try.func18, Try.ntmps18
    go_wp2
    go_ret2
    exact ⟨rfl, rfl⟩

/-- Where a key is: it is nowhere ahead. -/
theorem find_hit (w : World) {base r : Nat} {M : Int} {lv : Value} {l1 l2 : List IT} {x : IT} (h : RRep w base r M lv (l1 ++ x :: l2)) (hl : (l1 ++ x :: l2).length ≤ 1024) (k : Int) (hk : x.k = k) (hn : ∀ y ∈ l1, y.k ≠ k) :
    Calls Try.prog 58 #[.pointer (some ⟨r, 0, none⟩), .int .i64 k] w fun e w' => e = .returned (.int .i64 l1.length) ∧ w = w' := by
  obtain ⟨-, r1, -⟩ := h.cellsR
  obtain ⟨g, cap, cur, rfl, hb, -, -, -, -, hc⟩ := h.row (j := 0) (by simp; try omega)
  have hcell := fun (i : Nat) (hi : i < (l1 ++ x :: l2).length) => (row_cell hb hc hi).1
  have hlen : l1.length < (l1 ++ x :: l2).length := by simp
  have hkey : ∀ i, i < l1.length → ∃ q, w.cell? ⟨g, i * 4, none⟩ = some (.int .i64 q) ∧ q ≠ k := fun i hi => by
    refine ⟨_, hcell i (by omega), ?_⟩
    rw [List.getElem_append_left hi]
    exact hn _ (List.getElem_mem hi)
  have hat : w.cell? ⟨g, l1.length * 4, none⟩ = some (.int .i64 k) := by
    rw [hcell l1.length hlen]
    simp [hk]
  have HK := Lib.hid hkey
  generalize (l1 ++ x :: l2).length = n at hl hlen r1
  generalize l1.length = m at *
  clear h hb hc hcell hkey hn hk
  go_enter Try.func58, Try.ntmps58
  go_wp2_with fail
  go_loopg [5] m (fun q i wr => wr = w ∧ ∃ j : Nat, i = .int .i64 j ∧ j ≤ m ∧ q = m - j)
  case atStart => exact ⟨rfl, 0, rfl, by omega, rfl⟩
  case round =>
    obtain ⟨rfl, j, rfl, hj, rfl⟩ := hrel
    by_cases hjm : j < m
    · obtain ⟨q, hq, hqk⟩ := HK.out j hjm
      have hqb : (q == k) = false := by simpa using hqk
      clear hqk hat
      go_wp2_with fail
      go_roundg (m - (j + 1))
      case measure => omega
      case rel => exact ⟨rfl, j + 1, by go_num, by omega, rfl⟩
    · obtain rfl : j = m := by omega
      have hkb : (k == k) = true := by simp
      go_wp2_with fail
      go_ret
      exact ⟨rfl, rfl⟩

theorem find_miss (w : World) {base r : Nat} {M : Int} {lv : Value} {l : List IT} (h : RRep w base r M lv l) (hl : l.length ≤ 1024) (k : Int) (hn : ∀ y ∈ l, y.k ≠ k) :
    Calls Try.prog 58 #[.pointer (some ⟨r, 0, none⟩), .int .i64 k] w fun e w' => e = .returned (.int .i64 (-1)) ∧ w = w' := by
  obtain ⟨-, r1, -⟩ := h.cellsR
  have hkey : ∀ i, i < l.length → ∃ g cap q, lv = .slice (some ⟨g, 0, none⟩) l.length cap ∧ w.cell? ⟨g, i * 4, none⟩ = some (.int .i64 q) ∧ q ≠ k := fun i hi => by
    obtain ⟨g, cap, cur, hv, hb, -, -, -, -, hc⟩ := h.row hi
    exact ⟨g, cap, _, hv, (row_cell hb hc hi).1, hn _ (List.getElem_mem hi)⟩
  obtain ⟨a, cap, hv⟩ : ∃ a cap, lv = .slice a l.length cap := by
    obtain ⟨_, h2⟩ := h.own
    rcases h2 with ⟨e, h2⟩ | ⟨g, cap, cur, hv, _⟩
    · rw [h2]; exact ⟨_, _, e⟩
    · exact ⟨_, _, hv⟩
  subst hv
  have HK := Lib.hid hkey
  generalize l.length = n at *
  clear h hkey hn
  go_enter Try.func58, Try.ntmps58
  go_wp2_with fail
  go_loopg [5] n (fun q i wr => wr = w ∧ ∃ j : Nat, i = .int .i64 j ∧ j ≤ n ∧ q = n - j)
  case atStart => exact ⟨rfl, 0, rfl, by omega, rfl⟩
  case round =>
    obtain ⟨rfl, j, rfl, hj, rfl⟩ := hrel
    by_cases hjm : j < n
    · obtain ⟨g, cap', q, hv, hq, hqk⟩ := HK.out j hjm
      simp only [Value.slice.injEq, true_and] at hv
      obtain ⟨rfl, rfl⟩ := hv
      have hqb : (q == k) = false := by simpa using hqk
      clear hqk
      go_wp2_with fail
      go_roundg (n - (j + 1))
      case measure => omega
      case rel => exact ⟨rfl, j + 1, by go_num, by omega, rfl⟩
    · go_wp2_with fail
      go_ret
      exact ⟨rfl, rfl⟩
end Go.Proofs.Ytgndkmdmpiiedaa.Ref
