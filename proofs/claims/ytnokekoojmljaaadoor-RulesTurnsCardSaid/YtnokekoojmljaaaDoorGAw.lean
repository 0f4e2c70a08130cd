/- The chapter's example, reckoned. Awake. -/
import Derived.Test.YtnokekoojmljaaaDoorGTb
import Derived.Test.YtnokekoojmljaaaDoorGXs
import Derived.Test.YtnokekoojmljaaaDoorGLkG
import Derived.Test.YtnokekoojmljaaaDoorGFo
import Derived.Test.YtnokekoojmljaaaDoorGDf
import Derived.Test.YtnokekoojmljaaaDoorGVt
namespace Go.Proofs.YtnokekoojmljaaaDoor
open Go.RowKit

abbrev tS : ByteArray := ⟨#[115]⟩
abbrev fLeft (n : Int) : Fd := ⟨tLeft, false, n, eB⟩
abbrev fN : Fd := ⟨tN, false, 2, eB⟩
abbrev tPl : Pl := ⟨tS, [fLeft 5], [fN]⟩

theorem t_decide (q1 q2 q3 q4 q5 q6 : Value) : decideX (tHs q1 q2 q3 q4 q5 q6) tPl tTake = .ok (.events [⟨tTaken, [fN]⟩]) := by rfl
theorem t_fold (q7 q8 : Value) : foldX (tEs q7 q8) tPl tTaken = [fLeft 3] := by rfl
theorem t_check (q1 q2 q3 q4 q5 q6 q7 q8 : Value) : checkR (tHs q1 q2 q3 q4 q5 q6) (tEs q7 q8) = 0 := by rfl
theorem t_fitP : FitP tPl := by
  refine ⟨by decide, ?_, ?_⟩
  · intro f hf
    simp only [List.mem_cons, List.not_mem_nil, or_false] at hf
    subst hf
    exact ⟨by decide, by unfold In64; decide⟩
  · intro f hf
    simp only [List.mem_cons, List.not_mem_nil, or_false] at hf
    subst hf
    exact ⟨by decide, by unfold In64; decide⟩

theorem fit_leaf {kd n : Int} {s : ByteArray} (v : Value) (h1 : In64 kd) (h2 : In64 n) (h3 : s.size ≤ 140737488355328) : fitX ⟨kd, n, s, v, .nil⟩ := ⟨⟨h1, h2, h3⟩, trivial⟩
theorem fit_n : fitX xN := fit_leaf _ (by unfold In64; decide) (by unfold In64; decide) (by decide)
theorem fit_left : fitX xLeft := fit_leaf _ (by unfold In64; decide) (by unfold In64; decide) (by decide)
theorem fit_one : fitX xOne := fit_leaf _ (by unfold In64; decide) (by unfold In64; decide) (by decide)
theorem fit_minus (v : Value) : fitX (xMinus v) := ⟨⟨by show In64 7; unfold In64; decide, by show In64 0; unfold In64; decide, by show eB.size ≤ _; decide⟩, fit_left.1, trivial, fit_n.1, trivial, trivial⟩

theorem t_fitR (q1 q2 q3 q4 q5 q6 q7 q8 : Value) : FitR (tHs q1 q2 q3 q4 q5 q6) (tEs q7 q8) := by
  refine ⟨by show 1 * 64 ≤ _; omega, by show 1 * 64 ≤ _; omega, ?_, ?_⟩
  · intro h hh
    simp only [tHs, List.mem_cons, List.not_mem_nil, or_false] at hh
    subst hh
    refine ⟨by show tTake.size ≤ _; decide, by show 1 * 24 ≤ _; omega, ?_, ?_⟩
    · intro n hn
      simp only [List.mem_cons, List.not_mem_nil, or_false] at hn
      subst hn
      show tN.size ≤ _
      decide
    · intro c hc
      simp only [List.mem_cons, List.not_mem_nil, or_false] at hc
      rcases hc with rfl | rfl | rfl
      · refine ⟨by show tNothing.size ≤ _; decide, by show 0 * 40 ≤ _; omega, ?_, ?_⟩
        · intro x hx
          simp only [List.mem_cons, List.not_mem_nil, or_false] at hx
          subst hx
          exact ⟨by show In64 2; unfold In64; decide, fit_n, fit_one⟩
        · intro m hm; simp at hm
      · refine ⟨by show tEmpty.size ≤ _; decide, by show 0 * 40 ≤ _; omega, ?_, ?_⟩
        · intro x hx
          simp only [List.mem_cons, List.not_mem_nil, or_false] at hx
          subst hx
          exact ⟨by show In64 2; unfold In64; decide, fit_left, fit_n⟩
        · intro m hm; simp at hm
      · refine ⟨by show eB.size ≤ _; decide, by show 1 * 40 ≤ _; omega, ?_, ?_⟩
        · intro x hx; simp at hx
        · intro m hm
          simp only [List.mem_cons, List.not_mem_nil, or_false] at hm
          subst hm
          refine ⟨by show tTaken.size ≤ _; decide, by show 1 * 72 ≤ _; omega, ?_⟩
          intro a ha
          simp only [List.mem_cons, List.not_mem_nil, or_false] at ha
          subst ha
          exact ⟨by show tN.size ≤ _; decide, fit_n⟩
  · intro e he
    simp only [tEs, List.mem_cons, List.not_mem_nil, or_false] at he
    subst he
    refine ⟨by show tTaken.size ≤ _; decide, by show 1 * 72 ≤ _; omega, by show 0 * 16 ≤ _; omega, ?_, ?_⟩
    · intro a ha
      simp only [List.mem_cons, List.not_mem_nil, or_false] at ha
      subst ha
      exact ⟨by show tLeft.size ≤ _; decide, fit_minus _⟩
    · intro x hx; simp at hx
end Go.Proofs.YtnokekoojmljaaaDoor

namespace Go.Proofs.YtnokekoojmljaaaDoor
open Go.RowKit

theorem rec_one {w : World} {b : Nat} {x : Fd} (h : w.heap[b]? = some (boxF x)) : RecAt w (slV b 1) [x] :=
  ⟨_, 1, rfl, Nat.le_refl _, by unfold maxLen; omega, fun i hi => ⟨b, 0, rfl, by
    have hi' : i < 1 := hi
    obtain rfl : i = 0 := by omega
    exact ⟨cell_blk h 0, cell_blk h 1, cell_blk h 2, cell_blk h 3⟩⟩⟩

set_option maxRecDepth 100000 in
set_option maxHeartbeats 1600000 in
theorem awake_ok (w : World) (hT : Tab w) : Calls Tryd.prog 10 #[] w fun e w' => e = .returned (.bool true) ∧ Upd [] w w' := by
  have HT := Lib.hid hT
  clear hT
  have hu0 : Upd [] w ((w.alloc (boxF (fLeft 5))).alloc (boxF fN)) := ((Upd.refl [] w).alloc _).alloc _
  have hpl : PlAt ((w.alloc (boxF (fLeft 5))).alloc (boxF fN)) tPl (slV w.heap.size 1) (slV (w.heap.size + 1) 1) :=
    ⟨rec_one (blk_alloc (by rw [heap_alloc, if_pos rfl])), rec_one (by rw [heap_alloc, if_pos (by simp)])⟩
  have H0 := Lib.hid (And.intro hu0 hpl)
  clear hu0 hpl
  go_enter Tryd.func10, Tryd.ntmps10
  go_wp2_with fail
  refine (table_ok _).mono ?_
  rintro e w1 ⟨hv, ev, q1, q2, q3, q4, q5, q6, q7, q8, rfl, hh, he, hu1⟩
  have HU1 : Hid (Upd [] w w1 ∧ PlAt w1 tPl (slV w.heap.size 1) (slV (w.heap.size + 1) 1)) := Lib.hid ⟨H0.out.1.trans hu1, H0.out.2.keep hu1⟩
  obtain ⟨ea, ec, rfl, -, -⟩ := he.isSlice
  obtain ⟨ha, hc, rfl, -, -⟩ := hh.isSlice
  have hD := decide_ok tPl t_fitP (slV w.heap.size 1) (slV (w.heap.size + 1) 1) (.slice ha (tHs q1 q2 q3 q4 q5 q6).length hc) (.slice ea (tEs q7 q8).length ec) (tHs q1 q2 q3 q4 q5 q6) tTake w1 (HT.out.upd HU1.out.1) HU1.out.2 hh (t_fitR q1 q2 q3 q4 q5 q6 q7 q8).2.2.1 ⟨ea, _, ec, rfl⟩
  rw [t_decide] at hD
  have HD := Lib.hid hD
  clear hh he hu1 hD H0
  go_wp2_with fail
  refine HD.out.mono ?_
  rintro e w2 ⟨dv, rfl, ho, hu2⟩
  have HU2 : Hid (Upd [] w w2 ∧ PlAt w2 tPl (slV w.heap.size 1) (slV (w.heap.size + 1) 1)) := Lib.hid ⟨HU1.out.1.trans hu2, HU1.out.2.keep hu2⟩
  obtain ⟨lv, hlv, hat, hown⟩ := evs_at ho
  have h1 : lv.length = 1 := by simpa using (congrArg List.length hlv).symm
  obtain ⟨⟨x, fv⟩, rfl⟩ : ∃ p, lv = [p] := by
    match lv, h1 with
    | [p], _ => exact ⟨p, rfl⟩
  simp only [List.map_cons, List.map_nil, List.cons.injEq, and_true] at hlv
  subst hlv
  obtain ⟨va, vc, rfl, v1, v2, v3⟩ := hat
  obtain ⟨b, off, rfl, ⟨c0, c1, c2⟩, hfs⟩ := v3 0 (by show 0 < 1; omega)
  obtain ⟨fa, fc, hfv, -, -⟩ := hfs.isSlice
  have hfv2 : fv = .slice fa 1 fc := hfv
  subst hfv2
  rw [Nat.zero_mul] at c0 c1 c2
  have d0 : w2.cell? ⟨b, off, none⟩ = some (.string tTaken) := c0
  have d1 : w2.cell? ⟨b, off + 1, none⟩ = some (.int .i64 0) := c1
  have d2 : w2.cell? ⟨b, off + 2, none⟩ = some (.slice fa 1 fc) := c2
  have hblt : b < w2.heap.size := World.block_lt_of_cell? _ _ d0
  clear c0 c1 c2
  have hne : ¬ b = w2.heap.size := by omega
  have HF : Hid (RecAt w2 (.slice fa 1 fc) [fN]) := Lib.hid hfs
  have hst : (tTaken.toList == tTaken.toList) = true := by simp
  clear HD ho hu2 v1 v2 v3 hown h1 hfs hfv
  dsimp only [decT, List.map_cons, List.map_nil, List.length_cons, List.length_nil]
  go_upto_region 6 with (fail)
  have u3 : Upd [] w2 (w2.alloc (.cells #[.bool false, .string eB, .slice (some ⟨b, off, none⟩) 1 vc] 41)) := (Upd.refl [] w2).alloc _
  have e0 := cell_keep u3 d0
  have e1 := cell_keep u3 d1
  have e2 := cell_keep u3 d2
  have e3 : (w2.alloc (.cells #[.bool false, .string eB, .slice (some ⟨b, off, none⟩) 1 vc] 41)).cell? ⟨w2.heap.size, 2, none⟩ = some (.slice (some ⟨b, off, none⟩) 1 vc) := cell_blk (c := #[.bool false, .string eB, .slice (some ⟨b, off, none⟩) 1 vc]) (e := 41) (f := (0, 0)) (by rw [heap_alloc, if_pos rfl]) 2
  have HU3 : Hid (Upd [] w (w2.alloc (.cells #[.bool false, .string eB, .slice (some ⟨b, off, none⟩) 1 vc] 41)) ∧
      PlAt (w2.alloc (.cells #[.bool false, .string eB, .slice (some ⟨b, off, none⟩) 1 vc] 41)) tPl (slV w.heap.size 1) (.slice fa 1 fc)) := Lib.hid ⟨HU2.out.1.trans u3, HU2.out.2.1.keep u3, HF.out.keep u3⟩
  clear d0 d1 d2 hblt hne u3 HU2 HF
  generalize (w2.alloc (.cells #[.bool false, .string eB, .slice (some ⟨b, off, none⟩) 1 vc] 41)) = W at *
  generalize w2.heap.size = B at *
  have HX : Hid (∀ (W' : World) (hv ev q7 q8 : Value), Upd [] W W' → EvosAt W' ev (tEs q7 q8) → (∃ a n c, hv = .slice a n c) →
      Calls Tryd.prog 13 #[.agg #[hv, ev], .string tS, slV w.heap.size 1, aggV tTaken 0 (.slice fa 1 fc)] W' (OwnPost [fLeft 3] W')) := Lib.hid fun W' hv ev q7 q8 u he hh => by
    have := fold_ok tPl t_fitP (slV w.heap.size 1) (.slice fa 1 fc) hv ev (tEs q7 q8) tTaken 0 W' (HT.out.upd (HU3.out.1.trans u)) (HU3.out.2.keep u) he (t_fitR nilV nilV nilV nilV nilV nilV q7 q8).2.2.2 hh (by decide)
    rw [t_fold] at this
    exact this
  go_region_held3 (fun w' => w'.cell? ⟨b, off, none⟩ = some (.string tTaken) ∧ w'.cell? ⟨b, off + 1, none⟩ = some (.int .i64 0) ∧ w'.cell? ⟨b, off + 2, none⟩ = some (.slice fa 1 fc) ∧ w'.cell? ⟨B, 2, none⟩ = some (.slice (some ⟨b, off, none⟩) 1 vc))
    (first | go_keep | exact ⟨cell_keep hu3 (by exact e0), cell_keep hu3 (by exact e1), cell_keep hu3 (by exact e2), cell_keep hu3 (by exact e3)⟩ | exact ⟨cell_keep hu4 (cell_keep hu3 (by exact e0)), cell_keep hu4 (cell_keep hu3 (by exact e1)), cell_keep hu4 (cell_keep hu3 (by exact e2)), cell_keep hu4 (cell_keep hu3 (by exact e3))⟩)
    (first
      | (go_at_call 25; (with_reducible refine (table_ok _).mono ?_); rintro e w3 ⟨hv2, ev2, p1, p2, p3, p4, p5, p6, p7, p8, rfl, hh2, he2, hu3⟩)
      | (go_at_call 13; refine (HX.out _ hv2 ev2 p7 p8 (by exact ⟨hu3.os, hu3.output, hu3.size, hu3.block⟩) (by exact he2) (by obtain ⟨a, c, e, -, -⟩ := hh2.isSlice; exact ⟨_, _, _, e⟩)).mono ?_; rintro e w4 ⟨v4, rfl, ho4, hu4⟩))
  have HU4 : Hid (Upd [] w w4) := Lib.hid ((HU3.out.1.trans ⟨hu3.os, hu3.output, hu3.size, hu3.block⟩).trans ⟨hu4.os, hu4.output, hu4.size, hu4.block⟩)
  obtain ⟨na, nc, hv4, -, -, n3⟩ := Own.recAt ho4
  obtain ⟨nb, noff, rfl, f0, f1, f2, f3⟩ := n3 0 (by show 0 < 1; omega)
  have hv5 : v4 = .slice (some ⟨nb, noff, none⟩) 1 nc := hv4
  subst hv5
  rw [Nat.zero_mul] at f0 f1 f2 f3
  have g2 : w4.cell? ⟨nb, noff + 2, none⟩ = some (.int .i64 3) := f2
  clear f0 f1 f2 f3 n3 hv4 ho4 hu4 hu3 he2 hh2 HX HU3
  go_wp2_with fail
  refine (table_ok _).mono ?_
  rintro e w5 ⟨hv3, ev3, r1, r2, r3, r4, r5, r6, r7, r8, rfl, hh3, he3, hu5⟩
  have HU5 : Hid (Upd [] w w5) := Lib.hid (HU4.out.trans ⟨hu5.os, hu5.output, hu5.size, hu5.block⟩)
  have hC := check_ok hv3 ev3 _ _ w5 hh3 he3 (t_fitR r1 r2 r3 r4 r5 r6 r7 r8)
  rw [t_check] at hC
  have HC := Lib.hid hC
  clear hC hh3 he3 hu5
  go_wp2_with fail
  refine HC.out.mono ?_
  rintro e w6 ⟨rfl, hu6⟩
  have HU6 : Hid (Upd [] w w6) := Lib.hid (HU5.out.trans hu6)
  clear hu6
  go_wp2_with fail
  go_ret
  exact ⟨rfl, HU6.out⟩
end Go.Proofs.YtnokekoojmljaaaDoor
