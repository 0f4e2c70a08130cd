/- The chapter's example, in mind and in memory. Calls whose answers the document fixes: awake. -/
import Derived.Test.YtajppgngoffonaaGreatDoorGPtk
import Derived.Test.YtajppgngoffonaaGreatDoorGPnw
import Derived.Test.YtajppgngoffonaaGreatDoorGPck
namespace Go.Proofs.YtajppgngoffonaaGreatDoor
open Go.RowKit

abbrev bTaken : ByteArray := ⟨#[116, 97, 107, 101, 110]⟩
abbrev bSums : ByteArray := ⟨#[115, 117, 109, 115]⟩
abbrev bAcc : ByteArray := ⟨#[97, 99, 99]⟩
abbrev nilS0 : Value := .slice none 0 0
abbrev aSum : Sm := ⟨bTaken, ⟨5, 0, ByteArray.empty, nilS0, .nil⟩, ⟨4, 0, nB, nilS0, .nil⟩⟩
abbrev aFd (n : Int) : Fd := ⟨nB, false, n, ByteArray.empty⟩
abbrev aNt (pos n : Int) (B : Nat) : Nt := ⟨pos, bAcc, 0, bTaken, 0, .slice (some ⟨B, 0, none⟩) 1 1, [aFd n]⟩

theorem a_fit : FitS aSum := by
  refine ⟨by show (5 : Nat) ≤ _; omega, ⟨⟨?_, ?_, ?_⟩, trivial⟩, ⟨⟨?_, ?_, ?_⟩, trivial⟩⟩
  · show In64 5; unfold In64; omega
  · show In64 0; unfold In64; omega
  · show (0 : Nat) ≤ _; omega
  · show In64 4; unfold In64; omega
  · show In64 0; unfold In64; omega
  · show (1 : Nat) ≤ _; omega

theorem a_fitNt (pos n : Int) (B : Nat) (hp : In64 pos) (hn : In64 n) : FitNt (aNt pos n B) := by
  refine ⟨hp, by show (3 : Nat) ≤ _; omega, by show In64 0; unfold In64; omega, by show (max 1 16 + 1) * 48 ≤ 140737488355328; decide, fun f hf => ?_⟩
  obtain rfl := List.mem_singleton.1 hf
  exact ⟨by show (0 : Nat) ≤ _; omega, hn⟩

theorem a_check : checkPj bSums [aSum] = 0 := by kernel_rfl

theorem a_step (L : List Rw) (n : Int) : takeR bAcc bTaken [aFd n] [aSum] L = addR L bAcc n := by
  have h1 : valueX ⟨bAcc, [], [aFd n]⟩ aSum.key = .ok (txF bAcc) := by simp [valueX, cntX, Ex.cnt, formX, Ex.form, Ex.list, arityN, evalX, evalV]
  have h2 : valueX ⟨bAcc, [], [aFd n]⟩ aSum.add = .ok ⟨eB, false, n, ByteArray.empty⟩ := by simp [valueX, cntX, Ex.cnt, formX, Ex.form, Ex.list, arityN, evalX, evalV, fieldV, getF]
  show stepR bAcc bTaken [aFd n] L aSum = _
  unfold stepR
  rw [if_pos rfl, h1, h2]
  rfl

theorem a_one : addR [] bAcc 2 = [⟨bAcc, 2⟩] := by
  have h : ¬ (200 < bAcc.size ∨ withinB 2 = false) := by decide
  unfold addR
  rw [if_neg h]
  rfl
theorem a_get (n : Int) : getR [⟨bAcc, n⟩] bAcc = some n := by simp [getR]
theorem a_two : addR [⟨bAcc, 2⟩] bAcc 3 = [⟨bAcc, 5⟩] := by
  have h : ¬ (200 < bAcc.size ∨ withinB 3 = false) := by decide
  have h5 : withinB (2 + 3) = true := by decide
  unfold addR
  rw [if_neg h, a_get]
  dsimp only
  rw [if_pos h5]
  unfold putR
  rw [if_neg (by rw [ltB_irrefl]; simp), if_pos rfl]
  rfl

theorem like_fitS {s t : Sm} (h : LikeS s t) (hs : FitS s) : FitS t := by
  obtain ⟨h1, h2, h3⟩ := h
  refine ⟨by rw [h1]; exact hs.1, ?_, ?_⟩
  · rw [← fit_bare, h2]; exact fit_own _ _ hs.2.1
  · rw [← fit_bare, h3]; exact fit_own _ _ hs.2.2

theorem ViewAt.keep {W0 w w' : World} {vb mb : Nat} {nm : ByteArray} {sv lv : Value} {sums : List Sm} {us : List U.Up} {cur : Int} {L : List Rw} (h : ViewAt W0 w vb mb nm sv lv sums us cur L) (u : Upd [] w w') : ViewAt W0 w' vb mb nm sv lv sums us cur L :=
  ⟨h.v0, h.m0, h.ne, h.upd.trans u, h.sums, h.ups, (u.block vb (lt_of_blk h.box) (by simp)).trans h.box, h.rows.upd u (by simp), h.good⟩

theorem sums_at {w : World} {B : Nat} (h : w.heap[B]? = some (.cells #[.string bTaken, .int .i64 5, .int .i64 0, .string ByteArray.empty, nilS0, .int .i64 4, .int .i64 0, .string nB, nilS0] 56 (0, 0))) : SumsAt w (.slice (some ⟨B, 0, none⟩) 1 1) [aSum] :=
  sl_one0 ⟨Sm9.of (cell_blk h 0) ⟨cell_blk h 1, cell_blk h 2, cell_blk h 3, cell_blk h 4⟩ ⟨cell_blk h 5, cell_blk h 6, cell_blk h 7, cell_blk h 8⟩, KidsIn.at (KidsIn.nil _ 0 0), KidsIn.at (KidsIn.nil _ 0 0)⟩

theorem rec_at1 {w : World} {B : Nat} {n : Int} (h : w.heap[B]? = some (.cells #[.string nB, .bool false, .int .i64 n, .string ByteArray.empty] 64 (0, 0))) : RecAt w (.slice (some ⟨B, 0, none⟩) 1 1) [aFd n] := by
  refine ⟨_, 1, rfl, Nat.le_refl _, by unfold maxLen; omega, fun i hi => ⟨B, 0, rfl, ?_⟩⟩
  obtain rfl : i = 0 := by simpa using hi
  exact ⟨cell_blk h 0, cell_blk h 1, cell_blk h 2, cell_blk h 3⟩

set_option maxRecDepth 100000 in
theorem sums_ok (w : World) : Calls Tryz.prog 15 #[] w fun e w' => ∃ B, e = .returned (.agg #[.string bSums, .slice (some ⟨B, 0, none⟩) 1 1]) ∧ SumsAt w' (.slice (some ⟨B, 0, none⟩) 1 1) [aSum] ∧ Upd [] w w' := by
  go_enter Tryz.func15, Tryz.ntmps15
  go_wp2_with fail
  refine bodyPost_ret (by simp [results, Tryz.results15, go_sem]; try rfl) rfl ?_
  exact ⟨w.heap.size + 1, rfl, sums_at (by rw [heap_alloc, if_pos (by simp)]; rfl), ((Upd.refl [] w).alloc _).alloc _⟩

set_option maxRecDepth 100000 in
theorem taken_ok (pos n : Int) (w : World) : Calls Tryz.prog 16 #[.int .i64 pos, .string bAcc, .int .i64 n] w fun e w' => ∃ B, e = .returned (aggNt (aNt pos n B)) ∧ RecAt w' (.slice (some ⟨B, 0, none⟩) 1 1) [aFd n] ∧ Upd [] w w' := by
  go_enter Tryz.func16, Tryz.ntmps16
  go_wp2_with fail
  refine bodyPost_ret (by simp [results, Tryz.results16, go_sem]; try rfl) rfl ?_
  exact ⟨w.heap.size + 1, rfl, rec_at1 (by rw [heap_alloc, if_pos (by simp)]; rfl), ((Upd.refl [] w).alloc _).alloc _⟩
end Go.Proofs.YtajppgngoffonaaGreatDoor

namespace Go.Proofs.YtajppgngoffonaaGreatDoor
open Go.RowKit

set_option maxRecDepth 100000 in
set_option maxHeartbeats 4000000 in
theorem awake_ok (w : World) (hT : Tab w) : Calls Tryz.prog 4 #[] w fun e w' => e = .returned (.bool true) ∧ Upd [] w w' := by
  have HT := Lib.hid hT
  clear hT
  go_enter Tryz.func4, Tryz.ntmps4
  go_wp2_with fail
  refine (sums_ok _).mono ?_
  rintro e w1 ⟨B1, rfl, hs1, hu1⟩
  have HN := Lib.hid (new_walk bSums (.slice (some ⟨B1, 0, none⟩) 1 1) (.slice none 0 0) [aSum] [] w1 hs1 ⟨none, 0, rfl, Nat.le_refl _, by unfold maxLen; omega, fun i hi => absurd hi (by simp)⟩ (by simp) (by simp) (by simp))
  have HU1 := Lib.hid hu1
  clear hs1 hu1
  go_wp2_with fail
  refine HN.out.mono ?_
  rintro e w2 ⟨W0, vb, mb, sv', lv', sums', us', rfl, hV, hls, hlk, hlu, hlk2, hu2, hW0⟩
  obtain rfl : us' = [] := List.eq_nil_of_length_eq_zero (by simpa using hlu)
  have hfs : ∀ s ∈ sums', FitS s := fun s hs => by
    obtain ⟨i, hi, rfl⟩ := List.mem_iff_getElem.1 hs
    have hi1 : i < [aSum].length := by rw [← hls]; exact hi
    have h0 : i = 0 := by simpa using hi1
    subst h0
    exact like_fitS (hlk 0 hi1 hi) a_fit
  have htk : ∀ L n, takeR bAcc bTaken [aFd n] sums' L = addR L bAcc n := fun L n => by
    rw [← a_step]
    exact like_take hls (fun i h => hlk i h (by omega)) L
  have hTW : Tab W0 := HT.out.upd (HU1.out.trans hW0)
  have H2 := Lib.hid (And.intro hV (And.intro hfs (And.intro htk (And.intro hTW (And.intro ((HU1.out.trans hW0).size) (HU1.out.trans hu2))))))
  clear hV hfs htk hTW hu2 hlk hlk2 hls hlu HN
  go_wp2_with fail
  refine (taken_ok 0 2 w2).mono ?_
  rintro e w3 ⟨B3, rfl, hr3, hu3⟩
  have HK1 := Lib.hid (take_on (H2.out.1.keep hu3) (aNt 0 2 B3) (by omega) rfl hr3 (a_fitNt 0 2 B3 (by unfold In64; omega) (by unfold In64; omega)) H2.out.2.1 (by simp) (by simp) H2.out.2.2.2.1)
  have HU3 := Lib.hid (H2.out.2.2.2.2.2.trans hu3)
  have hm0 := H2.out.1.v0
  have hm1 := H2.out.1.m0
  clear hr3 hu3
  go_wp2_with fail
  refine HK1.out.mono ?_
  rintro e w4 ⟨rfl, hu4, hV4⟩
  have he4 : entryR [] sums' [] (aNt 0 2 B3) = [⟨bAcc, 2⟩] := by rw [← a_one, ← H2.out.2.2.1]; rfl
  rewrite [he4] at hV4
  have H4 := Lib.hid (And.intro hV4 (HU3.out.next hu4 (fun k hk hlt => by have := H2.out.2.2.2.2.1; simp at hk; omega)))
  clear hu4 hV4 he4 HK1
  go_wp2_with fail
  refine (taken_ok 7 2 w4).mono ?_
  rintro e w5 ⟨B5, rfl, hr5, hu5⟩
  have HK2 := Lib.hid (take_skip (H4.out.1.keep hu5) (aNt 7 2 B5) ⟨_, _, _, rfl⟩ (by show (7 : Int) ≠ 0 + 1; decide))
  have H5 := Lib.hid (And.intro (H4.out.1.keep hu5) (H4.out.2.trans hu5))
  clear hr5 hu5
  go_wp2_with fail
  refine HK2.out.mono ?_
  rintro e w6 ⟨rfl, hu6⟩
  have H6 := Lib.hid (And.intro (H5.out.1.keep hu6) (H5.out.2.trans hu6))
  clear hu6 HK2 H5
  go_wp2_with fail
  refine (taken_ok 1 3 w6).mono ?_
  rintro e w7 ⟨B7, rfl, hr7, hu7⟩
  have HK3 := Lib.hid (take_on (H6.out.1.keep hu7) (aNt 1 3 B7) (by omega) rfl hr7 (a_fitNt 1 3 B7 (by unfold In64; omega) (by unfold In64; omega)) H2.out.2.1 (by simp) (by simp) H2.out.2.2.2.1)
  have HU7 := Lib.hid (H6.out.2.trans hu7)
  clear hr7 hu7
  go_wp2_with fail
  refine HK3.out.mono ?_
  rintro e w8 ⟨rfl, hu8, hV8⟩
  have he8 : entryR [] sums' [⟨bAcc, 2⟩] (aNt 1 3 B7) = [⟨bAcc, 5⟩] := by rw [← a_two, ← H2.out.2.2.1]; rfl
  rewrite [he8] at hV8
  have H8 := Lib.hid (And.intro hV8 (HU7.out.next hu8 (fun k hk hlt => by have := H2.out.2.2.2.2.1; simp at hk; omega)))
  have HG := Lib.hid (vget_ok hV8 bAcc (by unfold maxLen; decide))
  have HC := Lib.hid (vcursor_ok hV8)
  clear hu8 hV8 he8 HK3
  go_wp2_with fail
  refine HG.out.mono ?_
  rintro e w9 ⟨rfl, hw9⟩
  subst hw9
  rewrite [a_get]
  go_wp2_with fail
  refine HC.out.mono ?_
  rintro e w9 ⟨rfl, hw9⟩
  subst hw9
  go_wp2_with fail
  refine (sums_ok _).mono ?_
  rintro e w10 ⟨B10, rfl, hs10, hu10⟩
  have HK := Lib.hid (pcheck_ok bSums (.slice (some ⟨B10, 0, none⟩) 1 1) [aSum] w10 (by show (4 : Nat) ≤ _; omega) hs10 (fun s hs => by obtain rfl := List.mem_singleton.1 hs; exact a_fit))
  rewrite [a_check] at HK
  have HU10 := Lib.hid (H8.out.2.trans hu10)
  clear hs10 hu10
  go_wp2_with fail
  refine HK.out.mono ?_
  rintro e w11 ⟨rfl, hu11⟩
  have HU11 := Lib.hid (HU10.out.trans hu11)
  clear hu11
  go_wp2_with fail
  go_ret
  exact ⟨rfl, HU11.out⟩
end Go.Proofs.YtajppgngoffonaaGreatDoor
