/- The chapter's example, in memory. -/
import Derived.Test.YtnokekoojmljaaaDoorGDf
namespace Go.Proofs.YtnokekoojmljaaaDoor
open Go.RowKit

abbrev tN : ByteArray := ⟨#[110]⟩
abbrev tLeft : ByteArray := ⟨#[108, 101, 102, 116]⟩
abbrev tNothing : ByteArray := ⟨#[110, 111, 116, 104, 105, 110, 103]⟩
abbrev tEmpty : ByteArray := ⟨#[101, 109, 112, 116, 121]⟩
abbrev tTaken : ByteArray := ⟨#[116, 97, 107, 101, 110]⟩
abbrev tTake : ByteArray := ⟨#[116, 97, 107, 101]⟩
abbrev nilV : Value := .slice none 0 0
abbrev slV (b n : Nat) : Value := .slice (some ⟨b, 0, none⟩) n n
abbrev xN : Xp := ⟨4, 0, tN, nilV, .nil⟩
abbrev xLeft : Xp := ⟨3, 0, tLeft, nilV, .nil⟩
abbrev xOne : Xp := ⟨1, 1, eB, nilV, .nil⟩
abbrev xMinus (v : Value) : Xp := ⟨7, 0, eB, v, .cons 3 0 tLeft nilV .nil (.cons 4 0 tN nilV .nil .nil)⟩

def tHs (q1 q2 q3 q4 q5 q6 : Value) : List Hdl :=
  [⟨tTake, q1, [⟨tN, false⟩], q2, [⟨q3, [⟨2, false, xN, xOne⟩], tNothing, nilV, []⟩, ⟨q4, [⟨2, false, xLeft, xN⟩], tEmpty, nilV, []⟩, ⟨nilV, [], eB, q5, [⟨tTaken, q6, [⟨tN, xN⟩]⟩]⟩]⟩]
def tEs (q7 q8 : Value) : List Evo := [⟨tTaken, q7, [⟨tLeft, xMinus q8⟩], nilV, []⟩]

theorem kids_nil (w : World) : KidsAt w nilV .nil := ⟨none, 0, rfl, Nat.le_refl _, by unfold maxLen; omega, trivial⟩
theorem sl_nil {α : Type} {k : Nat} {At : World → Nat → Nat → α → Prop} (w : World) : SlAt k At w nilV [] := ⟨none, 0, rfl, Nat.le_refl _, by unfold maxLen; omega, fun i hi => absurd hi (by simp)⟩
theorem sl_one {α : Type} {k : Nat} {At : World → Nat → Nat → α → Prop} {w : World} {B : Nat} {x : α} (h : At w B 0 x) : SlAt k At w (slV B 1) [x] := by
  refine ⟨_, 1, rfl, Nat.le_refl _, by unfold maxLen; omega, fun i hi => ⟨B, 0, rfl, ?_⟩⟩
  have hi' : i < 1 := hi
  obtain rfl : i = 0 := by omega
  rw [Nat.zero_mul, Nat.add_zero]
  exact h

theorem table_at {W : World} {B3 B5 B7 B8 B10 B11 B13 B15 B16 B17 : Nat}
    (h3 : W.heap[B3]? = some (.cells #[.int .i64 2, .bool false, .int .i64 4, .int .i64 0, .string tN, nilV, .int .i64 1, .int .i64 1, .string eB, nilV] 56 (0, 0)))
    (h5 : W.heap[B5]? = some (.cells #[.int .i64 2, .bool false, .int .i64 3, .int .i64 0, .string tLeft, nilV, .int .i64 4, .int .i64 0, .string tN, nilV] 56 (0, 0)))
    (h7 : W.heap[B7]? = some (.cells #[.string tN, .int .i64 4, .int .i64 0, .string tN, nilV] 89 (0, 0)))
    (h8 : W.heap[B8]? = some (.cells #[.string tTaken, slV B7 1] 102 (0, 0)))
    (h10 : W.heap[B10]? = some (.cells #[.string tN, .bool false] 70 (0, 0)))
    (h11 : W.heap[B11]? = some (.cells #[slV B3 1, .string tNothing, nilV, slV B5 1, .string tEmpty, nilV, nilV, .string eB, slV B8 1] 75 (0, 0)))
    (h13 : W.heap[B13]? = some (.cells #[.int .i64 3, .int .i64 0, .string tLeft, nilV, .int .i64 4, .int .i64 0, .string tN, nilV] 54 (0, 0)))
    (h15 : W.heap[B15]? = some (.cells #[.string tTake, slV B10 1, slV B11 3] 49 (0, 0)))
    (h16 : W.heap[B16]? = some (.cells #[.string tLeft, .int .i64 7, .int .i64 0, .string eB, slV B13 2] 89 (0, 0)))
    (h17 : W.heap[B17]? = some (.cells #[.string tTaken, slV B16 1, nilV] 79 (0, 0))) :
    HdlsAt W (slV B15 1) (tHs (slV B10 1) (slV B11 3) (slV B3 1) (slV B5 1) (slV B8 1) (slV B7 1)) ∧ EvosAt W (slV B17 1) (tEs (slV B16 1) (slV B13 2)) := by
  have c3 := cell_blk h3
  have c5 := cell_blk h5
  have c7 := cell_blk h7
  have c8 := cell_blk h8
  have c10 := cell_blk h10
  have c11 := cell_blk h11
  have c13 := cell_blk h13
  have c15 := cell_blk h15
  have c16 := cell_blk h16
  have c17 := cell_blk h17
  have hk : KidsAt W (slV B13 2) (xMinus (slV B13 2)).kids := by
    refine ⟨_, 2, rfl, Nat.le_refl _, by unfold maxLen; omega, ⟨B13, 0, rfl, c13 0, c13 1, c13 2, c13 3⟩, kids_nil W, ⟨B13, 0, rfl, c13 4, c13 5, c13 6, c13 7⟩, kids_nil W, trivial⟩
  refine ⟨sl_one ⟨⟨c15 0, c15 1, c15 2⟩, sl_one ⟨c10 0, c10 1⟩, ?_⟩, sl_one ⟨⟨c17 0, c17 1, c17 2⟩, sl_one ⟨c16 0, ⟨c16 1, c16 2, c16 3, c16 4⟩, hk⟩, sl_nil W⟩⟩
  refine ⟨_, 3, rfl, Nat.le_refl 3, by unfold maxLen; omega, fun i hi => ⟨B11, 0, rfl, ?_⟩⟩
  have hi' : i < 3 := hi
  match i, hi' with
  | 0, _ => exact ⟨⟨c11 0, c11 1, c11 2⟩, sl_one ⟨⟨c3 0, c3 1, ⟨c3 2, c3 3, c3 4, c3 5⟩, c3 6, c3 7, c3 8, c3 9⟩, kids_nil W, kids_nil W⟩, sl_nil W⟩
  | 1, _ => exact ⟨⟨c11 3, c11 4, c11 5⟩, sl_one ⟨⟨c5 0, c5 1, ⟨c5 2, c5 3, c5 4, c5 5⟩, c5 6, c5 7, c5 8, c5 9⟩, kids_nil W, kids_nil W⟩, sl_nil W⟩
  | 2, _ => exact ⟨⟨c11 6, c11 7, c11 8⟩, sl_nil W, sl_one ⟨⟨c8 0, c8 1⟩, sl_one ⟨c7 0, ⟨c7 1, c7 2, c7 3, c7 4⟩, kids_nil W⟩⟩⟩

theorem table_post {w : World} {W : World} {B3 B5 B7 B8 B10 B11 B13 B15 B16 B17 : Nat}
    (h3 : W.heap[B3]? = some (.cells #[.int .i64 2, .bool false, .int .i64 4, .int .i64 0, .string tN, nilV, .int .i64 1, .int .i64 1, .string eB, nilV] 56 (0, 0)))
    (h5 : W.heap[B5]? = some (.cells #[.int .i64 2, .bool false, .int .i64 3, .int .i64 0, .string tLeft, nilV, .int .i64 4, .int .i64 0, .string tN, nilV] 56 (0, 0)))
    (h7 : W.heap[B7]? = some (.cells #[.string tN, .int .i64 4, .int .i64 0, .string tN, nilV] 89 (0, 0)))
    (h8 : W.heap[B8]? = some (.cells #[.string tTaken, slV B7 1] 102 (0, 0)))
    (h10 : W.heap[B10]? = some (.cells #[.string tN, .bool false] 70 (0, 0)))
    (h11 : W.heap[B11]? = some (.cells #[slV B3 1, .string tNothing, nilV, slV B5 1, .string tEmpty, nilV, nilV, .string eB, slV B8 1] 75 (0, 0)))
    (h13 : W.heap[B13]? = some (.cells #[.int .i64 3, .int .i64 0, .string tLeft, nilV, .int .i64 4, .int .i64 0, .string tN, nilV] 54 (0, 0)))
    (h15 : W.heap[B15]? = some (.cells #[.string tTake, slV B10 1, slV B11 3] 49 (0, 0)))
    (h16 : W.heap[B16]? = some (.cells #[.string tLeft, .int .i64 7, .int .i64 0, .string eB, slV B13 2] 89 (0, 0)))
    (h17 : W.heap[B17]? = some (.cells #[.string tTaken, slV B16 1, nilV] 79 (0, 0))) (u : Upd [] w W) :
    ∃ hv ev q1 q2 q3 q4 q5 q6 q7 q8, (Ending.returned (.agg #[slV B15 1, slV B17 1])) = .returned (.agg #[hv, ev]) ∧ HdlsAt W hv (tHs q1 q2 q3 q4 q5 q6) ∧ EvosAt W ev (tEs q7 q8) ∧ Upd [] w W := by
  have H := table_at h3 h5 h7 h8 h10 h11 h13 h15 h16 h17
  exact ⟨_, _, _, _, _, _, _, _, _, _, rfl, H.1, H.2, u⟩

set_option maxRecDepth 100000 in
set_option maxHeartbeats 4000000 in
theorem table_ok (w : World) : Calls Tryd.prog 25 #[] w fun e w' => ∃ hv ev q1 q2 q3 q4 q5 q6 q7 q8, e = .returned (.agg #[hv, ev]) ∧ HdlsAt w' hv (tHs q1 q2 q3 q4 q5 q6) ∧ EvosAt w' ev (tEs q7 q8) ∧ Upd [] w w' := by
  go_enter Tryd.func25, Tryd.ntmps25
  go_wp2_with fail
  refine bodyPost_ret (by simp [results, Tryd.results25, go_sem]; try rfl) rfl ?_
  refine table_post (B3 := w.heap.size + 1 + 1 + 1) (B5 := w.heap.size + 1 + 1 + 1 + 1 + 1) (B7 := w.heap.size + 1 + 1 + 1 + 1 + 1 + 1 + 1) (B8 := w.heap.size + 1 + 1 + 1 + 1 + 1 + 1 + 1 + 1) (B10 := w.heap.size + 1 + 1 + 1 + 1 + 1 + 1 + 1 + 1 + 1 + 1) (B11 := w.heap.size + 1 + 1 + 1 + 1 + 1 + 1 + 1 + 1 + 1 + 1 + 1) (B13 := w.heap.size + 1 + 1 + 1 + 1 + 1 + 1 + 1 + 1 + 1 + 1 + 1 + 1 + 1) (B15 := w.heap.size + 1 + 1 + 1 + 1 + 1 + 1 + 1 + 1 + 1 + 1 + 1 + 1 + 1 + 1 + 1) (B16 := w.heap.size + 1 + 1 + 1 + 1 + 1 + 1 + 1 + 1 + 1 + 1 + 1 + 1 + 1 + 1 + 1 + 1) (B17 := w.heap.size + 1 + 1 + 1 + 1 + 1 + 1 + 1 + 1 + 1 + 1 + 1 + 1 + 1 + 1 + 1 + 1 + 1) ?h3 ?h5 ?h7 ?h8 ?h10 ?h11 ?h13 ?h15 ?h16 ?h17 ?u
  case u => repeat' first | exact Upd.refl _ _ | apply Upd.alloc
  case h3 =>
    rw [heap_alloc, if_neg (by simp only [World.size_alloc]; omega)]
    rw [heap_alloc, if_neg (by simp only [World.size_alloc]; omega)]
    rw [heap_alloc, if_neg (by simp only [World.size_alloc]; omega)]
    rw [heap_alloc, if_neg (by simp only [World.size_alloc]; omega)]
    rw [heap_alloc, if_neg (by simp only [World.size_alloc]; omega)]
    rw [heap_alloc, if_neg (by simp only [World.size_alloc]; omega)]
    rw [heap_alloc, if_neg (by simp only [World.size_alloc]; omega)]
    rw [heap_alloc, if_neg (by simp only [World.size_alloc]; omega)]
    rw [heap_alloc, if_neg (by simp only [World.size_alloc]; omega)]
    rw [heap_alloc, if_neg (by simp only [World.size_alloc]; omega)]
    rw [heap_alloc, if_neg (by simp only [World.size_alloc]; omega)]
    rw [heap_alloc, if_neg (by simp only [World.size_alloc]; omega)]
    rw [heap_alloc, if_neg (by simp only [World.size_alloc]; omega)]
    rw [heap_alloc, if_neg (by simp only [World.size_alloc]; omega)]
    rw [heap_alloc, if_pos (by simp only [World.size_alloc])]
    all_goals rfl
  case h5 =>
    rw [heap_alloc, if_neg (by simp only [World.size_alloc]; omega)]
    rw [heap_alloc, if_neg (by simp only [World.size_alloc]; omega)]
    rw [heap_alloc, if_neg (by simp only [World.size_alloc]; omega)]
    rw [heap_alloc, if_neg (by simp only [World.size_alloc]; omega)]
    rw [heap_alloc, if_neg (by simp only [World.size_alloc]; omega)]
    rw [heap_alloc, if_neg (by simp only [World.size_alloc]; omega)]
    rw [heap_alloc, if_neg (by simp only [World.size_alloc]; omega)]
    rw [heap_alloc, if_neg (by simp only [World.size_alloc]; omega)]
    rw [heap_alloc, if_neg (by simp only [World.size_alloc]; omega)]
    rw [heap_alloc, if_neg (by simp only [World.size_alloc]; omega)]
    rw [heap_alloc, if_neg (by simp only [World.size_alloc]; omega)]
    rw [heap_alloc, if_neg (by simp only [World.size_alloc]; omega)]
    rw [heap_alloc, if_pos (by simp only [World.size_alloc])]
    all_goals rfl
  case h7 =>
    rw [heap_alloc, if_neg (by simp only [World.size_alloc]; omega)]
    rw [heap_alloc, if_neg (by simp only [World.size_alloc]; omega)]
    rw [heap_alloc, if_neg (by simp only [World.size_alloc]; omega)]
    rw [heap_alloc, if_neg (by simp only [World.size_alloc]; omega)]
    rw [heap_alloc, if_neg (by simp only [World.size_alloc]; omega)]
    rw [heap_alloc, if_neg (by simp only [World.size_alloc]; omega)]
    rw [heap_alloc, if_neg (by simp only [World.size_alloc]; omega)]
    rw [heap_alloc, if_neg (by simp only [World.size_alloc]; omega)]
    rw [heap_alloc, if_neg (by simp only [World.size_alloc]; omega)]
    rw [heap_alloc, if_neg (by simp only [World.size_alloc]; omega)]
    rw [heap_alloc, if_pos (by simp only [World.size_alloc])]
    all_goals rfl
  case h8 =>
    rw [heap_alloc, if_neg (by simp only [World.size_alloc]; omega)]
    rw [heap_alloc, if_neg (by simp only [World.size_alloc]; omega)]
    rw [heap_alloc, if_neg (by simp only [World.size_alloc]; omega)]
    rw [heap_alloc, if_neg (by simp only [World.size_alloc]; omega)]
    rw [heap_alloc, if_neg (by simp only [World.size_alloc]; omega)]
    rw [heap_alloc, if_neg (by simp only [World.size_alloc]; omega)]
    rw [heap_alloc, if_neg (by simp only [World.size_alloc]; omega)]
    rw [heap_alloc, if_neg (by simp only [World.size_alloc]; omega)]
    rw [heap_alloc, if_neg (by simp only [World.size_alloc]; omega)]
    rw [heap_alloc, if_pos (by simp only [World.size_alloc])]
    all_goals rfl
  case h10 =>
    rw [heap_alloc, if_neg (by simp only [World.size_alloc]; omega)]
    rw [heap_alloc, if_neg (by simp only [World.size_alloc]; omega)]
    rw [heap_alloc, if_neg (by simp only [World.size_alloc]; omega)]
    rw [heap_alloc, if_neg (by simp only [World.size_alloc]; omega)]
    rw [heap_alloc, if_neg (by simp only [World.size_alloc]; omega)]
    rw [heap_alloc, if_neg (by simp only [World.size_alloc]; omega)]
    rw [heap_alloc, if_neg (by simp only [World.size_alloc]; omega)]
    rw [heap_alloc, if_pos (by simp only [World.size_alloc])]
    all_goals rfl
  case h11 =>
    rw [heap_alloc, if_neg (by simp only [World.size_alloc]; omega)]
    rw [heap_alloc, if_neg (by simp only [World.size_alloc]; omega)]
    rw [heap_alloc, if_neg (by simp only [World.size_alloc]; omega)]
    rw [heap_alloc, if_neg (by simp only [World.size_alloc]; omega)]
    rw [heap_alloc, if_neg (by simp only [World.size_alloc]; omega)]
    rw [heap_alloc, if_neg (by simp only [World.size_alloc]; omega)]
    rw [heap_alloc, if_pos (by simp only [World.size_alloc])]
    all_goals rfl
  case h13 =>
    rw [heap_alloc, if_neg (by simp only [World.size_alloc]; omega)]
    rw [heap_alloc, if_neg (by simp only [World.size_alloc]; omega)]
    rw [heap_alloc, if_neg (by simp only [World.size_alloc]; omega)]
    rw [heap_alloc, if_neg (by simp only [World.size_alloc]; omega)]
    rw [heap_alloc, if_pos (by simp only [World.size_alloc])]
    all_goals rfl
  case h15 =>
    rw [heap_alloc, if_neg (by simp only [World.size_alloc]; omega)]
    rw [heap_alloc, if_neg (by simp only [World.size_alloc]; omega)]
    rw [heap_alloc, if_pos (by simp only [World.size_alloc])]
    all_goals rfl
  case h16 =>
    rw [heap_alloc, if_neg (by simp only [World.size_alloc]; omega)]
    rw [heap_alloc, if_pos (by simp only [World.size_alloc])]
    all_goals rfl
  case h17 =>
    rw [heap_alloc, if_pos (by simp only [World.size_alloc])]
    all_goals rfl
end Go.Proofs.YtnokekoojmljaaaDoor
