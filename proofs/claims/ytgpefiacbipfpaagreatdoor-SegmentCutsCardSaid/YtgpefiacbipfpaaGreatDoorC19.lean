/- How many blocks are free: Free, over All. -/
import Derived.Test.YtgpefiacbipfpaaGreatDoorC18
namespace Go.Proofs.YtgpefiacbipfpaaGreatDoor
open Go.RowKit Go.Maps
attribute [local go_sem] Oper.semAt_some
theorem stab_blk {C B : Nat} {o : Obj} (hc : o.isCells = true) : Stab C fun W => W.heap[B]? = some o := fun X Y F h u hr => by
 refine (u.block B (lt_of_blk h) fun hF => ?_).trans h
 obtain ⟨-, o', ho, hn⟩ := hr B hF
 rw [h] at ho; cases ho; rw [hc] at hn; cases hn
theorem stab_upd {C : Nat} {G : List Nat} {w : World} (hw : w.heap.size ≤ C) : Stab C fun W => Upd G w W := fun X Y F h u hr => h.next u fun k hk hlt => by have := (hr k hk).1; omega
theorem stab_size {C D : Nat} : Stab C fun W => D ≤ W.heap.size := fun _X _Y _F h u _ => Nat.le_trans h u.size
theorem stab_pure {C : Nat} {p : Prop} : Stab C fun _ => p := fun _ _ _ h _ _ => h
theorem Stab.ex {α : Sort _} {C : Nat} {I : α → World → Prop} (h : ∀ x, Stab C (I x)) : Stab C fun W => ∃ x, I x W := fun X Y F ⟨x, hx⟩ u hr => ⟨x, h x X Y F hx u hr⟩
theorem KpM.set {N : Nat} {W : World} {B o : Nat} {c : Array Value} {t : TypeId} {fr : Nat × Nat} (h : W.heap[B]? = some (.cells c t fr)) (h1 : t ≠ 4) (h2 : t ≠ 149) (v : Value) : KpM N W (W.setCell ⟨B, o, none⟩ v) := fun k vs ty fr' _ hk hty => by
 rw [heap_setCell, if_neg (fun e => ?_)]
 ·exact hk
 ·subst e
  rw [hk] at h
  simp only [Option.some.injEq, Obj.cells.injEq] at h
  obtain ⟨-, rfl, -⟩ := h
  rcases hty with e | e
  ·exact h1 e
  ·exact h2 e
theorem lenR_snoc (l : List Run) (x : Run) : lenR (l ++ [x]) = lenR l + x.2 := by simp [lenR]
theorem lenR_free (now last : List Bool) : lenR (frees (freeB now last) now.length 0) ≤ now.length := by
 rw [← expand_len, expand_frees]
 unfold freeList
 exact Nat.le_trans (List.length_filter_le _ _) (by simp)
theorem lenR_pre {pre l : List Run} (h : pre <+: l) : lenR pre ≤ lenR l := by
 obtain ⟨t, rfl⟩ := h
 simp [lenR]
set_option maxRecDepth 100000 in
set_option maxHeartbeats 4000000 in
theorem acount_ok (w : World) {q base : Nat} {nv lv : Value} {now last : List Bool} (h : MapR w base q nv lv now last) (hll : last.length = now.length) (hm : now.length ≤ 512) :
  Calls Tryz.prog 87 #[.pointer (some ⟨q, 0, none⟩)] w fun e w' => e = .returned (.int .i64 (lenR (frees (freeB now last) now.length 0))) ∧ Upd [] w w' := by
 refine (callsIn_wide (n := 6)).1 ?_
 refine callsIn_of_wp_marks Tryz.func87 rfl trivial ?_ rfl
 simp only [Tryz.ntmps87, List.size_toArray, List.length_cons, List.length_nil, Nat.reduceAdd, Nat.reduceSub, Array.replicate_succ, Array.replicate_zero, List.push_toArray, List.append_toArray, List.nil_append, List.cons_append]
 gi_wp2
 refine ⟨trivial, (callsIn_wide.2 (aall_ok _ _)).mono ?_⟩
 rintro e w' ⟨rfl, rfl⟩
 have hb0 := heap_keepA (.cells #[.pointer (some ⟨q, 0, none⟩)] 81 (0, 0)) (heap_top w (.cells #[.int .i64 0] 3 (0, 0)))
 have hbm := heap_top (w.alloc (.cells #[.int .i64 0] 3 (0, 0))) (.cells #[.pointer (some ⟨q, 0, none⟩)] 81 (0, 0))
 have hu : Upd [] w ((w.alloc (.cells #[.int .i64 0] 3 (0, 0))).alloc (.cells #[.pointer (some ⟨q, 0, none⟩)] 81 (0, 0))) := ((Upd.refl [] w).alloc _).alloc _
 rw [World.size_alloc] at hbm
 rw [World.size_alloc]
 generalize (w.alloc (.cells #[.int .i64 0] 3 (0, 0))).alloc (.cells #[.pointer (some ⟨q, 0, none⟩)] 81 (0, 0)) = W0 at *
 gi_wp2
 have hsz : w.heap.size + 1 < W0.heap.size := lt_of_blk hbm
 have hM := h.keepU hu
 refine wp_rangeU (gf := 137) (lb := #[.pointer (some ⟨w.heap.size + 1, 0, none⟩)]) rfl (enters_of Tryz.func137 (by kernel_rfl) rfl)
  (all_seq 5 (Nat.le_refl _) (cell_blk hbm 0) hM hll hm) KpM.t (fun W l o o' _ ho hc => KpM.b W l o o' ho hc) (Upd.refl [] _) (fun _ => rfl)
  (fun pre W => W.heap[w.heap.size]? = some (.cells #[.int .i64 (lenR pre)] 3 (0, 0)) ∧ Upd [] w W ∧ W0.heap.size ≤ W.heap.size)
  (fun _ _ _ => False)
  (fun _ => (stab_blk rfl).and ((stab_upd (by omega)).and stab_size))
  (fun _ _ => stab_pure)
  ⟨hb0, hu, Nat.le_refl _⟩
  (fun x a' W => ∃ Bx, (W0.heap.size ≤ Bx ∧ a' = { tmps := #[.pointer (some ⟨q, 0, none⟩), undef, .int .i64 0, .pointer (some ⟨w.heap.size, 0, none⟩), .pointer (some ⟨Bx, 0, none⟩), .pointer (some ⟨q, 0, none⟩), .func (.func 137) #[] #[.pointer (some ⟨w.heap.size + 1, 0, none⟩)], .agg #[.int .i64 x.1, .int .i64 x.2], undef, undef, undef, undef, undef], defers := [] }) ∧ W.heap[Bx]? = some (.cells #[.int .i64 x.1, .int .i64 x.2] 148 (0, 0)))
  (fun _ _ => Stab.ex fun _ => stab_pure.and (stab_blk rfl))
  ?assign ?body ?done ?stop
 case assign =>
  rintro l pre x W K ⟨hi1, hi2, hi3⟩ hK
  gi_wp2
  exact hK _ _ (KeepsOthers.alloc _ _) (KpM.u ((Upd.refl [] W).alloc _)) ⟨heap_keepA _ hi1, hi2.alloc _, by rw [World.size_alloc]; omega⟩ ⟨W.heap.size, ⟨hi3, rfl⟩, heap_top _ _⟩
 case body =>
  rintro l pre x a' W ⟨hi1, hi2, hi3⟩ ⟨Bx, ⟨hBx, rfl⟩, hbx⟩ hpre
  have c0 := cell_blk hi1 0
  have f0 := frozen_blk hi1 0
  have d1 := cell_blk hbx 1
  simp only [List.getElem?_toArray, List.getElem?_cons_zero, List.getElem?_cons_succ] at c0 d1
  have hle := lenR_pre hpre
  rw [lenR_snoc] at hle
  have hle2 := lenR_free now last
  have hlt : (lenR pre : Int) + (x.2 : Int) ≤ 512 := by omega
  have HP := Lib.hid hpre
  clear hpre
  gi_wp2
  refine ⟨KeepsOthers.setCell _ _ _, KpM.set hi1 (by decide) (by decide) _, ?_, hi2.setCellNew (Nat.le_refl _) _ _, by rw [World.size_setCell]; exact hi3⟩
  rw [lenR_snoc, Int.natCast_add]
  exact setBox hi1 _
 case done =>
  rintro D W hD ⟨hi1, hi2, hi3⟩ hK
  have c0 := cell_blk hi1 0
  simp only [List.getElem?_toArray, List.getElem?_cons_zero] at c0
  gi_wp2
  refine ⟨by simp, .inl ⟨_, _, rfl, run_takeDeferred hK, ?_⟩⟩
  exact ⟨_, results_tmp rfl _ _ _, rfl, hi2.next (Upd.putObj D _) (by simp; omega)⟩
 case stop =>
  rintro D c pre W _ _ h _
  exact h.elim
end Go.Proofs.YtgpefiacbipfpaaGreatDoor
