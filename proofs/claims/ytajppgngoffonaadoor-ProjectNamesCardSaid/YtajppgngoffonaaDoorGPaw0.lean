/- The chapter's example, in mind and in memory. -/
import Derived.Test.YtajppgngoffonaaDoorGPtk
import Derived.Test.YtajppgngoffonaaDoorGPnw
import Derived.Test.YtajppgngoffonaaDoorGPck
namespace Go.Proofs.YtajppgngoffonaaDoor
open Go.RowKit

abbrev bTaken : ByteArray := ⟨#[116, 97, 107, 101, 110]⟩
abbrev bSums : ByteArray := ⟨#[115, 117, 109, 115]⟩
abbrev bAcc : ByteArray := ⟨#[97, 99, 99]⟩
abbrev nilS0 : Value := .slice none 0 0
abbrev aSum : Sm := ⟨bTaken, ⟨5, 0, ByteArray.empty, nilS0, .nil⟩, ⟨4, 0, nB, nilS0, .nil⟩⟩
abbrev aFd (n : Int) : Fd := ⟨nB, false, n, ByteArray.empty⟩
abbrev aNt (pos n : Int) (B : Nat) : Nt := ⟨pos, bAcc, 0, bTaken, 0, .slice (some ⟨B, 0, none⟩) 1 1, [aFd n]⟩

theorem a_fit : FitS aSum := by
  refine ⟨by show (5 : Nat) ≤ _; omega, ⟨⟨?_, ?_, ?_⟩, trivial⟩, ⟨⟨?_, ?_, ?_⟩, trivial⟩⟩
  · show In64 5; unfold In64; omega
  · show In64 0; unfold In64; omega
  · show (0 : Nat) ≤ _; omega
  · show In64 4; unfold In64; omega
  · show In64 0; unfold In64; omega
  · show (1 : Nat) ≤ _; omega

theorem a_fitNt (pos n : Int) (B : Nat) (hp : In64 pos) (hn : In64 n) : FitNt (aNt pos n B) := by
  refine ⟨hp, by show (3 : Nat) ≤ _; omega, by show In64 0; unfold In64; omega, by show (max 1 16 + 1) * 48 ≤ 140737488355328; decide, fun f hf => ?_⟩
  obtain rfl := List.mem_singleton.1 hf
  exact ⟨by show (0 : Nat) ≤ _; omega, hn⟩

theorem a_check : checkPj bSums [aSum] = 0 := by kernel_rfl

theorem a_step (L : List Rw) (n : Int) : takeR bAcc bTaken [aFd n] [aSum] L = addR L bAcc n := by
  have h1 : valueX ⟨bAcc, [], [aFd n]⟩ aSum.key = .ok (txF bAcc) := by simp [valueX, cntX, Ex.cnt, formX, Ex.form, Ex.list, arityN, evalX, evalV]
  have h2 : valueX ⟨bAcc, [], [aFd n]⟩ aSum.add = .ok ⟨eB, false, n, ByteArray.empty⟩ := by simp [valueX, cntX, Ex.cnt, formX, Ex.form, Ex.list, arityN, evalX, evalV, fieldV, getF]
  show stepR bAcc bTaken [aFd n] L aSum = _
  unfold stepR
  rw [if_pos rfl, h1, h2]
  rfl

theorem a_one : addR [] bAcc 2 = [⟨bAcc, 2⟩] := by
  have h : ¬ (200 < bAcc.size ∨ withinB 2 = false) := by decide
  unfold addR
  rw [if_neg h]
  rfl
theorem a_get (n : Int) : getR [⟨bAcc, n⟩] bAcc = some n := by simp [getR]
theorem a_two : addR [⟨bAcc, 2⟩] bAcc 3 = [⟨bAcc, 5⟩] := by
  have h : ¬ (200 < bAcc.size ∨ withinB 3 = false) := by decide
  have h5 : withinB (2 + 3) = true := by decide
  unfold addR
  rw [if_neg h, a_get]
  dsimp only
  rw [if_pos h5]
  unfold putR
  rw [if_neg (by rw [ltB_irrefl]; simp), if_pos rfl]
  rfl

theorem like_fitS {s t : Sm} (h : LikeS s t) (hs : FitS s) : FitS t := by
  obtain ⟨h1, h2, h3⟩ := h
  refine ⟨by rw [h1]; exact hs.1, ?_, ?_⟩
  · rw [← fit_bare, h2]; exact fit_own _ _ hs.2.1
  · rw [← fit_bare, h3]; exact fit_own _ _ hs.2.2

theorem ViewAt.keep {W0 w w' : World} {vb mb : Nat} {nm : ByteArray} {sv lv : Value} {sums : List Sm} {us : List U.Up} {cur : Int} {L : List Rw} (h : ViewAt W0 w vb mb nm sv lv sums us cur L) (u : Upd [] w w') : ViewAt W0 w' vb mb nm sv lv sums us cur L :=
  ⟨h.v0, h.m0, h.ne, h.upd.trans u, h.sums, h.ups, (u.block vb (lt_of_blk h.box) (by simp)).trans h.box, h.rows.upd u (by simp), h.good⟩

theorem sums_at {w : World} {B : Nat} (h : w.heap[B]? = some (.cells #[.string bTaken, .int .i64 5, .int .i64 0, .string ByteArray.empty, nilS0, .int .i64 4, .int .i64 0, .string nB, nilS0] 47 (0, 0))) : SumsAt w (.slice (some ⟨B, 0, none⟩) 1 1) [aSum] :=
  sl_one0 ⟨Sm9.of (cell_blk h 0) ⟨cell_blk h 1, cell_blk h 2, cell_blk h 3, cell_blk h 4⟩ ⟨cell_blk h 5, cell_blk h 6, cell_blk h 7, cell_blk h 8⟩, KidsIn.at (KidsIn.nil _ 0 0), KidsIn.at (KidsIn.nil _ 0 0)⟩

theorem rec_at1 {w : World} {B : Nat} {n : Int} (h : w.heap[B]? = some (.cells #[.string nB, .bool false, .int .i64 n, .string ByteArray.empty] 55 (0, 0))) : RecAt w (.slice (some ⟨B, 0, none⟩) 1 1) [aFd n] := by
  refine ⟨_, 1, rfl, Nat.le_refl _, by unfold maxLen; omega, fun i hi => ⟨B, 0, rfl, ?_⟩⟩
  obtain rfl : i = 0 := by simpa using hi
  exact ⟨cell_blk h 0, cell_blk h 1, cell_blk h 2, cell_blk h 3⟩

set_option maxRecDepth 100000 in
theorem sums_ok (w : World) : Calls Tryd.prog 6 #[] w fun e w' => ∃ B, e = .returned (.agg #[.string bSums, .slice (some ⟨B, 0, none⟩) 1 1]) ∧ SumsAt w' (.slice (some ⟨B, 0, none⟩) 1 1) [aSum] ∧ Upd [] w w' := by
  go_enter Tryd.func6, Tryd.ntmps6
  go_wp2_with fail
  refine bodyPost_ret (by simp [results, Tryd.results6, go_sem]; try rfl) rfl ?_
  exact ⟨w.heap.size + 1, rfl, sums_at (by rw [heap_alloc, if_pos (by simp)]; rfl), ((Upd.refl [] w).alloc _).alloc _⟩

set_option maxRecDepth 100000 in
theorem taken_ok (pos n : Int) (w : World) : Calls Tryd.prog 8 #[.int .i64 pos, .string bAcc, .int .i64 n] w fun e w' => ∃ B, e = .returned (aggNt (aNt pos n B)) ∧ RecAt w' (.slice (some ⟨B, 0, none⟩) 1 1) [aFd n] ∧ Upd [] w w' := by
  go_enter Tryd.func8, Tryd.ntmps8
  go_wp2_with fail
  refine bodyPost_ret (by simp [results, Tryd.results8, go_sem]; try rfl) rfl ?_
  exact ⟨w.heap.size + 1, rfl, rec_at1 (by rw [heap_alloc, if_pos (by simp)]; rfl), ((Upd.refl [] w).alloc _).alloc _⟩
end Go.Proofs.YtajppgngoffonaaDoor
