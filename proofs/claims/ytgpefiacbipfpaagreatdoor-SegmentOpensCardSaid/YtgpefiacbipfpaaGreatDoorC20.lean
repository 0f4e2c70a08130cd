/- How many blocks are free: Free, over All. -/
import Derived.Test.YtgpefiacbipfpaaGreatDoorC19
set_option maxRecDepth 100000
set_option maxHeartbeats 4000000
namespace Go.Proofs.YtgpefiacbipfpaaGreatDoor
open Go.RowKit Go.Maps
attribute [local go_sem] Oper.semAt_some
theorem pG {C B : Nat} {o : Obj} (hc : o.isCells = true) : eC C fun W => W.heap[B]? = some o := fun X Y F h u hr => by
 refine (u.block B (aH h) fun hF => ?_).trans h
 obtain ⟨-, o', ho, hn⟩ := hr B hF
 rw [h] at ho; cases ho; rw [hc] at hn; cases hn
theorem Ar {C : Nat} {G : List Nat} {w : World} (hw : w.heap.size ≤ C) : eC C fun W => aB G w W := fun X Y F h u hr => h.next u fun k hk hlt => by have := (hr k hk).1; omega
theorem Hh {C D : Nat} : eC C fun W => D ≤ W.heap.size := fun _X _Y _F h u _ => bG h u.size
theorem rB {C : Nat} {p : Prop} : eC C fun _ => p := fun _ _ _ h _ _ => h
theorem eC.ex {α : Sort _} {C : Nat} {I : α → World → Prop} (h : ∀ x, eC C (I x)) : eC C fun W => ∃ x, I x W := fun X Y F ⟨x, hx⟩ u hr => ⟨x, h x X Y F hx u hr⟩
theorem eM.set {N : Nat} {W : World} {B o : Nat} {c : Array Value} {t : TypeId} {fr : Nat × Nat} (h : W.heap[B]? = some (.cells c t fr)) (h1 : t ≠ 4) (h2 : t ≠ 149) (v : Value) : eM N W (W.setCell ⟨B, o, none⟩ v) := fun k vs ty fr' _ hk hty => by
 rw [bJ, aE (fun e => ?_)]
 ·exact hk
 subst e
 rw [hk] at h
 simp only [fY, Ee] at h
 obtain ⟨-, rfl, -⟩ := h
 rcases hty with e | e
 ·exact h1 e
 exact h2 e
theorem uQ (l : List aR) (x : aR) : aY (l ++ [x]) = aY l + x.2 := by simp [aY]
theorem Hi (now last : List Bool) : aY (dZ (dG now last) now.length 0) ≤ now.length := by
 rw [← mH, vJ]
 unfold lO
 exact bG (AY _ _) (by simp)
theorem CN {pre l : List aR} (h : pre <+: l) : aY pre ≤ aY l := by
 obtain ⟨t, rfl⟩ := h
 simp [aY]
theorem CO (w : World) {q base : Nat} {nv lv : Value} {now last : List Bool} (h : fJ w base q nv lv now last) (hll : last.length = now.length) (hm : now.length ≤ 512) :
  Calls Tryz.prog 87 #[.pointer (some ⟨q, 0, none⟩)] w fun e w' => e = .returned (.int .i64 (aY (dZ (dG now last) now.length 0))) ∧ aB [] w w' := by
 refine (jJ (n := 6)).1 ?_
 refine callsIn_of_wp_marks Tryz.func87 rfl trivial ?_ rfl
 simp only [Tryz.ntmps87, lI, eG, lJ, Nat.reduceAdd, Nat.reduceSub, DT, DU, DV, DW, List.nil_append, List.cons_append]
 gi_wp2
 refine ⟨trivial, (jJ.2 (He _ _)).mono ?_⟩
 rintro e w' ⟨rfl, rfl⟩
 have hb0 := jG (.cells #[.pointer (some ⟨q, 0, none⟩)] 81 (0, 0)) (aX w (.cells #[.int .i64 0] 3 (0, 0)))
 have hbm := aX (w.alloc (.cells #[.int .i64 0] 3 (0, 0))) (.cells #[.pointer (some ⟨q, 0, none⟩)] 81 (0, 0))
 have hu : aB [] w ((w.alloc (.cells #[.int .i64 0] 3 (0, 0))).alloc (.cells #[.pointer (some ⟨q, 0, none⟩)] 81 (0, 0))) := ((aB.refl [] w).alloc _).alloc _
 rw [gW] at hbm
 rw [gW]
 generalize (w.alloc (.cells #[.int .i64 0] 3 (0, 0))).alloc (.cells #[.pointer (some ⟨q, 0, none⟩)] 81 (0, 0)) = W0 at *
 gi_wp2
 have hsz : w.heap.size + 1 < W0.heap.size := aH hbm
 have hM := h.keepU hu
 refine Hd (gf := 137) (lb := #[.pointer (some ⟨w.heap.size + 1, 0, none⟩)]) rfl (enters_of Tryz.func137 (by kernel_rfl) rfl)
  (Hg 5 (aQ _) (aD hbm 0) hM hll hm) eM.t (fun W l o o' _ ho hc => eM.b W l o o' ho hc) (aB.refl [] _) (fun _ => rfl)
  (fun pre W => W.heap[w.heap.size]? = some (.cells #[.int .i64 (aY pre)] 3 (0, 0)) ∧ aB [] w W ∧ W0.heap.size ≤ W.heap.size)
  (fun _ _ _ => False)
  (fun _ => (pG rfl).and ((Ar (by omega)).and Hh))
  (fun _ _ => rB)
  ⟨hb0, hu, aQ _⟩
  (fun x a' W => ∃ Bx, (W0.heap.size ≤ Bx ∧ a' = { tmps := #[.pointer (some ⟨q, 0, none⟩), undef, .int .i64 0, .pointer (some ⟨w.heap.size, 0, none⟩), .pointer (some ⟨Bx, 0, none⟩), .pointer (some ⟨q, 0, none⟩), .func (.func 137) #[] #[.pointer (some ⟨w.heap.size + 1, 0, none⟩)], .agg #[.int .i64 x.1, .int .i64 x.2], undef, undef, undef, undef, undef], defers := [] }) ∧ W.heap[Bx]? = some (.cells #[.int .i64 x.1, .int .i64 x.2] 148 (0, 0)))
  (fun _ _ => eC.ex fun _ => rB.and (pG rfl))
  ?assign ?body ?done ?stop
 case assign =>
  rintro l pre x W K ⟨hi1, hi2, hi3⟩ hK
  gi_wp2
  exact hK _ _ (KeepsOthers.alloc _ _) (eM.u ((aB.refl [] W).alloc _)) ⟨jG _ hi1, hi2.alloc _, by rw [gW]; omega⟩ ⟨W.heap.size, ⟨hi3, rfl⟩, aX _ _⟩
 case body =>
  rintro l pre x a' W ⟨hi1, hi2, hi3⟩ ⟨Bx, ⟨hBx, rfl⟩, hbx⟩ hpre
  have c0 := aD hi1 0
  have f0 := aZ hi1 0
  have d1 := aD hbx 1
  simp only [bA, bB, bS] at c0 d1
  have hle := CN hpre
  rw [uQ] at hle
  have hle2 := Hi now last
  have hlt : (aY pre : Int) + (x.2 : Int) ≤ 512 := by omega
  have HP := aA hpre
  clear hpre
  gi_wp2
  refine ⟨KeepsOthers.setCell _ _ _, eM.set hi1 (by decide) (by decide) _, ?_, hi2.setCellNew (aQ _) _ _, by rw [Eb]; exact hi3⟩
  rw [uQ, tS]
  exact vW hi1 _
 case done =>
  rintro D W hD ⟨hi1, hi2, hi3⟩ hK
  have c0 := aD hi1 0
  simp only [bA, bB] at c0
  gi_wp2
  refine ⟨by simp, .inl ⟨_, _, rfl, run_takeDeferred hK, ?_⟩⟩
  exact ⟨_, results_tmp rfl _ _ _, rfl, hi2.next (aB.putObj D _) (by simp; omega)⟩
 case stop =>
  rintro D c pre W _ _ h _
  exact h.elim
end Go.Proofs.YtgpefiacbipfpaaGreatDoor
