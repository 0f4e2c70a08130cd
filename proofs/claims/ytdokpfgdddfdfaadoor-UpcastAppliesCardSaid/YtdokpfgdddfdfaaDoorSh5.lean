/- The sheet: slices.Insert of one field, as a contract; Set. -/
import Derived.Test.YtdokpfgdddfdfaaDoorSh4
namespace Go.Proofs.YtdokpfgdddfdfaaDoor
open Go.RowKit

theorem overlaps_apart (w : World) (B g o p c : Nat) (x : Fd) (X : List Value) (hB : w.heap[B]? = some (boxF x)) (hX : Blk w g X) (hne : B ≠ g) (hX0 : X.length ≠ 0) :
    (callFunc 59 #[.slice (some ⟨B, 0, none⟩) 1 1, .slice (some ⟨g, o, none⟩) p c]).run Tryd.prog w = .ok (.value (.bool false)) w := by
  rw [run_callFunc_extern Tryd.func59 (by kernel_rfl) (by kernel_rfl) (by kernel_rfl) (e := Extern.SlicesOverlaps.overlaps #[24, 24] #[4]) (by kernel_rfl),
    Lib.run_overlaps_apart w 24 4 30 Tryd.underlying24 4 (fun w => by kernel_rfl) ⟨B, 0, none⟩ ⟨g, o, none⟩ 1 1 p c hne 30 30 4 X.length (by simp [World.shape?, hB, boxF]) (by have := hX; unfold Blk at this; simp [World.shape?, this]) hX0 (frozen_blk hB 0) (frozen_blk hB 4)]
  rfl

set_option maxRecDepth 100000 in
set_option maxHeartbeats 1600000 in
theorem insert_end (w : World) {base B : Nat} {v : Value} {l : List Fd} {x : Fd} (h : Own w base v l) (hB : w.heap[B]? = some (boxF x)) (hbase : base ≤ w.heap.size) (hl : (l.length + 1) * 48 ≤ 140737488355328) :
    Calls Tryd.prog 47 #[v, .int .i64 l.length, .slice (some ⟨B, 0, none⟩) 1 1] w fun e w' => ∃ v', e = .returned v' ∧ Own w' base v' (l ++ [x]) ∧ w.grownBy w' v.ownBlock := by
  obtain ⟨A, c, hs, -⟩ := rec_lo h.recAt l [] (by simp)
  obtain ⟨a, cap, rfl, h1, h2⟩ := h.recAt.isSlice
  have HO := Lib.hid h
  clear h
  have HB := Lib.hid hB
  clear hB
  go_enter Tryd.func47, Tryd.ntmps47
  go_wp2_with (at_builtin; refine wpList_append_rec rfl _ _ rfl (r := [x]) rfl HO.out rfl (src_box HB.out) ?c1 ?c2 ?_)
  case c1 => simpa using hl
  case c2 => exact hbase
  intro v' w1 hown hgrow
  have HF := Lib.hid (And.intro hown hgrow)
  clear hown hgrow
  go_wp2_with fail
  go_ret
  exact ⟨v', rfl, HF.out.1, HF.out.2⟩

theorem slice_lh (g n cap lo : Nat) (h1 : lo ≤ n) (_h2 : n ≤ cap) (W : World) (h3 : lo < cap) : (Instr.slice 24 (.slice (some ⟨g, 0, none⟩) n cap) (some (.int .i64 lo)) none none).run Tryd.prog W = .ok (.slice (some ⟨g, lo * 4, none⟩) (n - lo) (cap - lo)) W := by
  rw [slice_lo ⟨g, 0, none⟩ n cap lo h1 W, if_neg (by omega), Go.WideShapes.add_plain, Nat.zero_add]

theorem slice_h0 (g n cap hi : Nat) (h1 : hi ≤ cap) (W : World) : (Instr.slice 24 (.slice (some ⟨g, 0, none⟩) n cap) none (some (.int .i64 hi)) none).run Tryd.prog W = .ok (.slice (some ⟨g, 0, none⟩) hi cap) W := by
  rw [slice_hi ⟨g, 0, none⟩ n cap hi h1 W, Go.WideShapes.add_plain, ite_self]

theorem src_one {w : World} {B : Nat} {x : Fd} (hB : w.heap[B]? = some (boxF x)) : Src w (some ⟨B, 0, none⟩) [x] := src_box hB

theorem insert_room (w : World) {base B g cap : Nat} {l1 l2 : List Fd} {x : Fd} (h : Own w base (.slice (some ⟨g, 0, none⟩) (l1 ++ l2).length cap) (l1 ++ l2)) (hB : w.heap[B]? = some (boxF x)) (hne : B ≠ g) (h2 : 0 < l2.length) (hroom : (l1 ++ l2).length + 1 ≤ cap) :
    Calls Tryd.prog 47 #[.slice (some ⟨g, 0, none⟩) (l1 ++ l2).length cap, .int .i64 l1.length, .slice (some ⟨B, 0, none⟩) 1 1] w fun e w' => e = .returned (.slice (some ⟨g, 0, none⟩) ((l1 ++ l2).length + 1) cap) ∧ Own w' base (.slice (some ⟨g, 0, none⟩) ((l1 ++ l2).length + 1) cap) (l1 ++ x :: l2) ∧ Upd [g] w w' := by
  obtain ⟨g', cap', X, hv, hbg, hX, r1, r2, r3, r4⟩ := h.blk (by simp; omega)
  simp only [Value.slice.injEq, Option.some.injEq, Addr.mk.injEq, and_true, true_and] at hv
  obtain ⟨rfl, rfl⟩ := hv
  have hlen : (l1 ++ l2).length = l1.length + l2.length := by simp
  have hc : cap ≤ 9223372036854775807 := by unfold maxLen at r2; omega
  have hov := overlaps_apart w B g ((l1.length + 1) * 4) l2.length (cap - (l1.length + 1)) x X hB hX hne (by omega)
  have hdX : Blk w.drew g X := hX
  have hsrc2 : Src w.drew (some ⟨g, l1.length * 4, none⟩) l2 := cells_src hdX (flat_mid r4 rfl)
  have hc1 := fun ty => run_copy_blk w.drew ty g ((l1.length + 1) * 4) l2.length (cap - (l1.length + 1)) X hdX ⟨g, l1.length * 4, none⟩ (l2.length + 1) (cap - l1.length) l2 hsrc2 (by simp only [Nat.min_def]; split <;> omega) (by omega)
  have hX1 := hdX.set (splice X ((l1.length + 1) * 4) (flatF l2))
  have hXl : (splice X ((l1.length + 1) * 4) (flatF l2)).length = X.length := length_splice _ _ _ (by rw [flatF_len]; omega)
  have hB1 : (w.drew.setRow g (splice X ((l1.length + 1) * 4) (flatF l2)).toArray).heap[B]? = some (boxF x) := by
    rw [setRow_other _ g B _ (fun e => hne e)]; exact hB
  have hc2 := fun ty => run_copy_blk _ ty g (l1.length * 4) (l2.length + 1) (cap - l1.length) _ hX1 ⟨B, 0, none⟩ 1 1 [x] (src_one hB1) (by simp only [Nat.min_def]; split <;> simp_all) (by rw [hXl]; simp; omega)
  have hwalk := insert_room_walk w g B (l1 ++ l2).length ((l1 ++ l2).length + 1) cap l1.length l2.length (l2.length + 1) (cap - l1.length) (cap - (l1.length + 1)) _ _ _ _ _ _ _ (by omega) hroom hc
    (fun W => slice_lh g _ cap l1.length (by omega) r1 W (by omega))
    (fun W => by have := slice_h0 g (l1 ++ l2).length cap ((l1 ++ l2).length + 1) hroom W; simpa using this)
    (fun W => by
      have := slice_lh g ((l1 ++ l2).length + 1) cap (l1.length + 1) (by omega) hroom W (by omega)
      rw [show (l1 ++ l2).length + 1 - (l1.length + 1) = l2.length by omega] at this
      exact this)
    (fun W => by
      have := slice_lh g ((l1 ++ l2).length + 1) cap l1.length (by omega) hroom W (by omega)
      rw [show (l1 ++ l2).length + 1 - l1.length = l2.length + 1 by omega] at this
      exact this) hov hc1 hc2
  refine hwalk.mono ?_
  rintro e w' ⟨rfl, rfl⟩
  refine ⟨rfl, ?_, ?_⟩
  · have hl1 : l1.length * 4 ≤ X.length := by omega
    have hl2 : (l1.length + 1) * 4 ≤ X.length := by omega
    refine (hX1.set _).own (by simp; omega) hbg (by simp; omega) r2 ?_ ?_
    · rw [length_splice _ _ _ (by rw [hXl, flatF_len]; simp; omega), hXl, r3]
    · have e1 : (flatF [x]).length = 4 := by rw [flatF_len]; rfl
      have t1 := take_splice2 (splice X ((l1.length + 1) * 4) (flatF l2)) (l1.length * 4) (flatF [x]) (by rw [hXl]; omega)
      have t2 := drop_splice2 (splice X ((l1.length + 1) * 4) (flatF l2)) (l1.length * 4) (flatF [x]) (by rw [hXl]; omega)
      have t3 := drop_splice X ((l1.length + 1) * 4) (flatF l2) hl2
      have t4 : (splice X ((l1.length + 1) * 4) (flatF l2)).take (l1.length * 4) = flatF l1 := by
        rw [take_pre (take_splice X ((l1.length + 1) * 4) (flatF l2) hl2) (by omega), List.take_take, Nat.min_eq_left (by omega)]
        exact flat_pre r4 rfl
      rw [e1, show l1.length * 4 + 4 = (l1.length + 1) * 4 by omega] at t1 t2
      rw [t3] at t2
      rw [t4] at t1
      rw [show (l1 ++ x :: l2).length * 4 = (l1.length + 1) * 4 + l2.length * 4 by simp; omega, List.take_add, t1, t2, List.take_left' (flatF_len l2)]
      rw [show l1 ++ x :: l2 = l1 ++ [x] ++ l2 by simp, flatF_app, flatF_app]
  · exact (((Upd.refl [g] w).drew).setRow (Or.inr (by simp)) _).setRow (Or.inr (by simp)) _

theorem insert_grow (w : World) {base B g cap : Nat} {l1 l2 : List Fd} {x : Fd} (h : Own w base (.slice (some ⟨g, 0, none⟩) (l1 ++ l2).length cap) (l1 ++ l2)) (hB : w.heap[B]? = some (boxF x)) (hbase : base ≤ w.heap.size) (h2 : 0 < l2.length) (hroom : cap < (l1 ++ l2).length + 1) (hl : ((l1 ++ l2).length + 1) * 48 ≤ 140737488355328) :
    Calls Tryd.prog 47 #[.slice (some ⟨g, 0, none⟩) (l1 ++ l2).length cap, .int .i64 l1.length, .slice (some ⟨B, 0, none⟩) 1 1] w fun e w' => ∃ v', e = .returned v' ∧ Own w' base v' (l1 ++ x :: l2) ∧ Upd [] w w' := by
  obtain ⟨g', cap', X, hv, hbg, hX, r1, r2, r3, r4⟩ := h.blk (by simp; omega)
  simp only [Value.slice.injEq, Option.some.injEq, Addr.mk.injEq, and_true, true_and] at hv
  obtain ⟨rfl, rfl⟩ := hv
  have hlen : (l1 ++ l2).length = l1.length + l2.length := by simp
  have hc : cap ≤ 9223372036854775806 := by omega
  have hgw := lt_of_blk hX
  have hBw := lt_of_blk hB
  obtain ⟨i0, hi0, hz0, hz1, hz2⟩ := size30
  have hfl1 : X.take (l1.length * 4) = flatF l1 := flat_pre r4 rfl
  have hsrc1 : Src w (some ⟨g, 0, none⟩) l1 := cells_src hX (by simpa using hfl1)
  have hold : (Builtin.firstCells i0.size l1.length (.slice (some ⟨g, 0, none⟩) l1.length cap)).run Tryd.prog w.drew = .ok (flatF l1).toArray w.drew := by
    rw [hz1]
    exact run_firstCells_some w.drew 4 l1.length ⟨g, 0, none⟩ l1.length cap (flatF l1) (flatF_len l1) (fun j u hj => hsrc1.2 _ rfl j u hj)
  have hapz := fun ty => Lib.run_append_grow_zeros (P := Tryd.prog) w 24 3 ty 30 i0 (aggF noF) .i64 .i64 Tryd.underlying24 Tryd.underlying3 hi0 hz0 (some ⟨g, 0, none⟩) l1.length cap (flatF l1) hold (l2.length + 1) (by omega) (by omega) (by omega) (by omega) (by rw [hz2]; omega) (by rw [hz2]; exact growslice_fits (by omega) (by omega))
  have hG1 := grownCap_ge w (l1.length + (l2.length + 1)) cap 30
  have hG2 := grownCap_le_maxLen w (l1.length + (l2.length + 1)) cap 30 (by unfold maxLen; omega)
  generalize hG : grownCap w (l1.length + (l2.length + 1)) cap 30 = G at *
  obtain ⟨Z, hZ⟩ : ∃ Z : List Value, Z = ((flatF l1).toArray ++ Builtin.zeroCells (aggF noF).cells (l2.length + 1) ++ Builtin.zeroCells (aggF noF).cells (G - (l1.length + (l2.length + 1)))).toList := ⟨_, rfl⟩
  have hZl : Z.length = G * 4 := by
    rw [hZ]
    have e : (aggF noF).cells.size = 4 := rfl
    simp [size_zeroCells, e, flatF_len]
    omega
  have hZt : Z.take (l1.length * 4) = flatF l1 := by
    rw [hZ]
    simp only [Array.toList_append, List.append_assoc]
    exact List.take_left' (flatF_len l1)
  have hZa : ((flatF l1).toArray ++ Builtin.zeroCells (aggF noF).cells (l2.length + 1) ++ Builtin.zeroCells (aggF noF).cells (G - (l1.length + (l2.length + 1)))) = Z.toArray := by rw [hZ]
  rw [hZa] at hapz
  clear hZ hZa hG
  have hX1 : Blk (w.drew.alloc (.cells Z.toArray 30)) w.heap.size Z := by unfold Blk; show (w.drew.alloc _).heap[w.drew.heap.size]? = _; rw [heap_alloc, if_pos rfl]
  have hB1 : (w.drew.alloc (.cells Z.toArray 30)).heap[B]? = some (boxF x) := by rw [heap_alloc, if_neg (by show B ≠ w.heap.size; omega)]; exact hB
  have hg1 : Blk (w.drew.alloc (.cells Z.toArray 30)) g X := by unfold Blk; rw [heap_alloc, if_neg (by show g ≠ w.heap.size; omega)]; exact hX
  have hu1 : Upd [] w (w.drew.alloc (.cells Z.toArray 30)) := ((Upd.refl [] w).drew).alloc _
  generalize w.drew.alloc (.cells Z.toArray 30) = W1 at *
  have hc1 := fun ty => run_copy_blk W1 ty w.heap.size (l1.length * 4) (l2.length + 1) (G - l1.length) Z hX1 ⟨B, 0, none⟩ 1 1 [x] (src_one hB1) (by simp only [Nat.min_def]; split <;> simp_all) (by simp; omega)
  have hX2 : Blk (W1.setRow w.heap.size (splice Z (l1.length * 4) (flatF [x])).toArray).drew w.heap.size (splice Z (l1.length * 4) (flatF [x])) := hX1.set _
  have e1 : (flatF [x]).length = 4 := by rw [flatF_len]; rfl
  have hZ2 : (splice Z (l1.length * 4) (flatF [x])).length = Z.length := length_splice _ _ _ (by omega)
  have hg2 : Blk (W1.setRow w.heap.size (splice Z (l1.length * 4) (flatF [x])).toArray).drew g X := by
    unfold Blk
    show (W1.setRow w.heap.size _).heap[g]? = _
    rw [setRow_other _ _ g _ (by omega)]
    exact hg1
  have hsrc2 := cells_src hg2 (flat_mid r4 rfl)
  have hc2 := fun ty => run_copy_blk _ ty w.heap.size ((l1.length + 1) * 4) l2.length (G - (l1.length + 1)) _ hX2 ⟨g, l1.length * 4, none⟩ l2.length (cap - l1.length) l2 hsrc2 (by simp) (by rw [hZ2]; omega)
  have hwalk := insert_grow_walk w g B (l1 ++ l2).length (l1.length + (l2.length + 1)) cap l1.length l2.length (l2.length + 1) (cap - l1.length) (G - l1.length) (G - (l1.length + 1)) G (.slice none 0 0) ⟨g, l1.length * 4, none⟩ ⟨w.heap.size, 0, none⟩ ⟨w.heap.size, l1.length * 4, none⟩ ⟨w.heap.size, (l1.length + 1) * 4, none⟩ _ _ _ _ _ (by omega) r1 hc (by omega)
    (fun W => by
      have := slice_lh g _ cap l1.length (by omega) r1 W (by omega)
      rw [show (l1 ++ l2).length - l1.length = l2.length by omega] at this
      exact this)
    (fun W => slice_h0 g (l1 ++ l2).length cap l1.length (by omega) W)
    (fun ty => by
      have := hapz ty
      rw [show ((l2.length + 1 : Nat) : Int) = ((l1 ++ l2).length : Int) + 1 - l1.length by omega] at this
      exact this)
    (fun W => by
      have := slice_lh w.heap.size (l1.length + (l2.length + 1)) G l1.length (by omega) hG1 W (by omega)
      rw [show l1.length + (l2.length + 1) - l1.length = l2.length + 1 by omega] at this
      exact this)
    (fun W => by
      have := slice_lh w.heap.size (l1.length + (l2.length + 1)) G (l1.length + 1) (by omega) hG1 W (by omega)
      rw [show l1.length + (l2.length + 1) - (l1.length + 1) = l2.length by omega] at this
      exact this) hc1 hc2
  refine hwalk.mono ?_
  rintro e w' ⟨rfl, rfl⟩
  refine ⟨_, rfl, ?_, ?_⟩
  · refine (hX2.set _).own (by simp) hbase (by simp; omega) hG2 ?_ ?_
    · rw [length_splice _ _ _ (by rw [hZ2, flatF_len]; omega), hZ2, hZl]
    · have t1 := take_splice2 (splice Z (l1.length * 4) (flatF [x])) ((l1.length + 1) * 4) (flatF l2) (by rw [hZ2]; omega)
      have t2 := take_splice2 Z (l1.length * 4) (flatF [x]) (by omega)
      rw [e1, show l1.length * 4 + 4 = (l1.length + 1) * 4 by omega, hZt] at t2
      rw [flatF_len, t2] at t1
      rw [show (l1 ++ x :: l2).length * 4 = (l1.length + 1) * 4 + l2.length * 4 by simp; omega, t1]
      rw [show l1 ++ x :: l2 = l1 ++ [x] ++ l2 by simp, flatF_app, flatF_app]
  · exact ((hu1.setRow (Or.inl (Nat.le_refl _)) _).drew).setRow (Or.inl (Nat.le_refl _)) _
end Go.Proofs.YtdokpfgdddfdfaaDoor
