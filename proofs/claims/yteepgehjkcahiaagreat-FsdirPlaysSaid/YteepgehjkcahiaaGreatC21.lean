/- Files in memory: a map of names with nodes. Which blocks are free, in memory: Blocks, Commit, Reset. A new map of free blocks. -/
import Derived.StringKeys
import Derived.Test.YteepgehjkcahiaaGreatC18
import Derived.Test.YteepgehjkcahiaaGreatC20
import Derived.Test.YteepgehjkcahiaaGreatC19
namespace Go.Proofs.YteepgehjkcahiaaGreat
open Go.RowKit Go.Maps
abbrev ptA (a : Nat) : Value := .pointer (some ⟨a, 0, none⟩)
def entsL (fs : Files) (A : Bs → Nat) : List (Bs × Value) := fs.map fun p => (p.1, ptA (A p.1))
theorem entsL_srt {fs : Files} (h : Srt ltN fs) (A : Bs → Nat) : Srt ltN (entsL fs A) := by
 unfold entsL
 exact List.Pairwise.map _ (fun _ _ h => h) h
theorem getA_ents (fs : Files) (A : Bs → Nat) (nm : Bs) : getA (entsL fs A) nm = (getA fs nm).map fun _ => ptA (A nm) := by
 induction fs with
 | nil => rfl
 | cons p fs ih =>
  show getA ((p.1, ptA (A p.1)) :: entsL fs A) nm = _
  rw [getA_cons, getA_cons, ih]
  by_cases h : p.1 = nm
  ·simp [h]
  ·simp [h]
structure FilR (w : World) (mf : Nat) (fs : Files) (A : Bs → Nat) (R : Bs → Value) (FM : List Nat) : Prop where
 map : MapS w mf (entsL fs A)
 node : ∀ p ∈ fs, NodeR w 0 (A p.1) p.2.data.length (R p.1) p.2.runs
 mem : mf ∈ FM
 memA : ∀ p ∈ fs, A p.1 ∈ FM
 memR : ∀ p ∈ fs, ∀ g, (R p.1).ownBlock = some g → g ∈ FM
 apA : ∀ p ∈ fs, ∀ q ∈ fs, p.1 ≠ q.1 → A p.1 ≠ A q.1
 apR : ∀ p ∈ fs, ∀ q ∈ fs, p.1 ≠ q.1 → ∀ g, (R p.1).ownBlock = some g → (R q.1).ownBlock ≠ some g
 lt : ∀ i ∈ FM, i < w.heap.size
theorem NodeR.upd {w w' : World} {base q size : Nat} {rv : Value} {runs : List Run} (h : NodeR w base q size rv runs) {F : List Nat} (u : Upd F w w') (hq : q ∉ F) (hr : ∀ g, rv.ownBlock = some g → g ∉ F) : NodeR w' base q size rv runs :=
 ⟨(u.block q (lt_of_blk h.1) hq).trans h.1, h.2.upd u fun j hj e => hr j e hj⟩
theorem FilR.upd {w w' : World} {mf : Nat} {fs : Files} {A : Bs → Nat} {R : Bs → Value} {FM : List Nat} (h : FilR w mf fs A R FM) {F : List Nat} (u : Upd F w w') (hF : ∀ i ∈ FM, i ∉ F) : FilR w' mf fs A R FM :=
 ⟨owns_upd h.map u (hF _ h.mem), fun p hp => (h.node p hp).upd u (hF _ (h.memA p hp)) fun g hg => hF _ (h.memR p hp g hg), h.mem, h.memA, h.memR, h.apA, h.apR, fun i hi => Nat.lt_of_lt_of_le (h.lt i hi) u.size⟩
theorem MapS.look {w : World} {mb : Nat} {L : List (Bs × Value)} (h : MapS w mb L) {t e : TypeId} (ht : Tryz.prog.underlying t = some (.map 9 e)) {z : Value} (hz : (zeroValue e).run Tryz.prog w = .ok z w) (s : ByteArray) (hs : s.size ≤ maxLen) :
  (Instr.lookup t (.map (some mb)) (.string s) false).run Tryz.prog w = .ok ((getA L s.data.toList).getD z) w := by
 obtain ⟨v, ps, hrun, hv⟩ := World.ownsMap.lookup h lawS ht hz (zd := .held z) (zp := []) rfl (kl := Lit.string s.data.toList) (WideMaps.keyOf_string_mk Tryz.underlying9 hs)
 rw [hrun]
 simp only [opq, Option.some.injEq, Prod.mk.injEq] at hv
 rw [at_dataA keyS] at hv
 cases hg : getA L s.data.toList with
 | none => rw [hg] at hv; cases hv.1; rfl
 | some u => rw [hg] at hv; cases hv.1; rfl
end Go.Proofs.YteepgehjkcahiaaGreat

namespace Go.Proofs.YteepgehjkcahiaaGreat
open Go.RowKit Go.Maps
abbrev boxA (nv lv : Value) : Obj := .cells #[nv, lv] 132 (0, 0)
abbrev OwB (w : World) (base : Nat) (v : Value) (l : List Bool) : Prop := OwnG cB 4 1 w base v l
structure MapR (w : World) (base q : Nat) (nv lv : Value) (now last : List Bool) : Prop where
 box : w.heap[q]? = some (boxA nv lv)
 now : OwB w base nv now
 last : OwB w base lv last
 ne1 : ∀ g, nv.ownBlock = some g → g ≠ q
 ne2 : ∀ g, lv.ownBlock = some g → g ≠ q
 fit : base ≤ w.heap.size
 sep : ∀ g, nv.ownBlock = some g → lv.ownBlock ≠ some g
set_option maxRecDepth 100000 in
theorem ablocks_ok (w : World) {base q : Nat} {nv lv : Value} {now last : List Bool} (h : MapR w base q nv lv now last) : Calls Tryz.prog 114 #[.pointer (some ⟨q, 0, none⟩)] w fun e w' => e = .returned (.int .i64 now.length) ∧ w' = w := by
 have c0 := cell_blk h.box 0
 simp only [List.getElem?_toArray, List.getElem?_cons_zero] at c0
 obtain ⟨a, c, m, hm, rfl⟩ := h.now.sliceM
 rw [← hm]
 clear h hm
 go_enter Tryz.func114, Tryz.ntmps114
 go_wp2_with fail
 go_ret
 exact ⟨rfl, rfl⟩
theorem boxA_last {w : World} {q : Nat} {nv lv : Value} (h : w.heap[q]? = some (boxA nv lv)) (v : Value) : (w.setCell ⟨q, 1, none⟩ v).heap[q]? = some (boxA nv v) := by
 rw [heap_setCell, if_pos rfl, h]; rfl
theorem boxA_now {w : World} {q : Nat} {nv lv : Value} (h : w.heap[q]? = some (boxA nv lv)) (v : Value) : (w.setCell ⟨q, 0, none⟩ v).heap[q]? = some (boxA v lv) := by
 rw [heap_setCell, if_pos rfl, h]; rfl
set_option maxRecDepth 100000 in
set_option maxHeartbeats 2000000 in
theorem acommit_ok (w : World) {base q : Nat} {nv lv : Value} {now last : List Bool} (h : MapR w base q nv lv now last) (hl : now.length ≤ 1000000) :
  Calls Tryz.prog 57 #[.pointer (some ⟨q, 0, none⟩)] w fun e w' => e = .returned (.tuple #[]) ∧ ∃ lv', MapR w' base q nv lv' now now ∧ Upd [q] w w' ∧ ∀ g, lv'.ownBlock = some g → w.heap.size ≤ g := by
 have c0 := cell_blk h.box 0
 simp only [List.getElem?_toArray, List.getElem?_cons_zero] at c0
 have HM := Lib.hid h
 have hq := lt_of_blk h.box
 have HC := Lib.hid (cloneB_ok w (OwnG.rd TB h.now) (by omega))
 clear h
 go_enter Tryz.func57, Tryz.ntmps57
 go_wp2_with fail
 refine HC.out.mono ?_
 rintro e w1 ⟨v1, rfl, ho, hu⟩
 obtain ⟨a1, k1, m1, hm1, rfl⟩ := ho.sliceM
 have hb1 := (hu.block q hq (by simp)).trans HM.out.box
 have HB1 := Lib.hid hb1
 have d1 := cell_blk hb1 1
 have f1 := frozen_blk hb1 1
 simp only [List.getElem?_toArray, List.getElem?_cons_zero, List.getElem?_cons_succ] at d1
 have H1 := Lib.hid (And.intro ho hu)
 clear ho hu hb1 hm1 HC
 go_wp2_with fail
 go_end0
 have hU : Upd [q] w1 (w1.setCell ⟨q, 1, none⟩ (.slice a1 m1 k1)) := (Upd.refl _ _).setCell (by simp) _ _
 have hlow : ∀ g, (Value.slice a1 m1 k1).ownBlock = some g → w.heap.size ≤ g := fun g hg => (H1.out.1.block g hg).1
 refine ⟨rfl, _, ⟨boxA_last HB1.out _, (HM.out.now.upd H1.out.2 (by simp)).upd hU (fun j hj e => ?_), ?_, HM.out.ne1, fun g hg => by have := hlow g hg; omega, Nat.le_trans HM.out.fit (Nat.le_trans H1.out.2.size hU.size), fun g h1 h2 => by have := (HM.out.now.block g h1).2; have := hlow g h2; omega⟩, (H1.out.2.mono (by simp)).trans hU, hlow⟩
 ·exact HM.out.ne1 j e (List.mem_singleton.1 hj)
 ·have ho2 := H1.out.1.upd hU (fun j hj e => by have := hlow j e; simp at hj; omega)
  exact ho2.base HM.out.fit
set_option maxRecDepth 100000 in
set_option maxHeartbeats 2000000 in
theorem areset_ok (w : World) {base q : Nat} {nv lv : Value} {now last : List Bool} (h : MapR w base q nv lv now last) (hl : last.length ≤ 1000000) :
  Calls Tryz.prog 70 #[.pointer (some ⟨q, 0, none⟩)] w fun e w' => e = .returned (.tuple #[]) ∧ ∃ nv', MapR w' base q nv' lv last last ∧ Upd [q] w w' ∧ ∀ g, nv'.ownBlock = some g → w.heap.size ≤ g := by
 have c1 := cell_blk h.box 1
 simp only [List.getElem?_toArray, List.getElem?_cons_zero, List.getElem?_cons_succ] at c1
 have HM := Lib.hid h
 have hq := lt_of_blk h.box
 have HC := Lib.hid (cloneB_ok w (OwnG.rd TB h.last) (by omega))
 clear h
 go_enter Tryz.func70, Tryz.ntmps70
 go_wp2_with fail
 refine HC.out.mono ?_
 rintro e w1 ⟨v1, rfl, ho, hu⟩
 obtain ⟨a1, k1, m1, hm1, rfl⟩ := ho.sliceM
 have hb1 := (hu.block q hq (by simp)).trans HM.out.box
 have HB1 := Lib.hid hb1
 have d1 := cell_blk hb1 0
 have f1 := frozen_blk hb1 0
 simp only [List.getElem?_toArray, List.getElem?_cons_zero] at d1
 have H1 := Lib.hid (And.intro ho hu)
 clear ho hu hb1 hm1 HC
 go_wp2_with fail
 go_end0
 have hU : Upd [q] w1 (w1.setCell ⟨q, 0, none⟩ (.slice a1 m1 k1)) := (Upd.refl _ _).setCell (by simp) _ _
 have hlow : ∀ g, (Value.slice a1 m1 k1).ownBlock = some g → w.heap.size ≤ g := fun g hg => (H1.out.1.block g hg).1
 refine ⟨rfl, _, ⟨boxA_now HB1.out _, ?_, (HM.out.last.upd H1.out.2 (by simp)).upd hU (fun j hj e => ?_), fun g hg => by have := hlow g hg; omega, HM.out.ne2, Nat.le_trans HM.out.fit (Nat.le_trans H1.out.2.size hU.size), fun g h1 h2 => by have := hlow g h1; have := (HM.out.last.block g h2).2; omega⟩, (H1.out.2.mono (by simp)).trans hU, hlow⟩
 ·have ho2 := H1.out.1.upd hU (fun j hj e => by have := hlow j e; simp at hj; omega)
  exact ho2.base HM.out.fit
 ·exact HM.out.ne2 j e (List.mem_singleton.1 hj)
end Go.Proofs.YteepgehjkcahiaaGreat

namespace Go.Proofs.YteepgehjkcahiaaGreat
open Go.RowKit Go.Maps
theorem flatB_rep (n : Nat) : flatG cB (List.replicate n false) = List.replicate n (.bool false) := by
 induction n with
 | zero => rfl
 | succ n ih => rw [List.replicate_succ, List.replicate_succ, ← ih]; rfl
theorem madeB (n : Nat) : madeCells #[.bool false] (n * 1) = (flatG cB (List.replicate n false)).toArray := by
 rw [flatB_rep]
 apply Array.ext
 ·rw [size_madeCells]; simp
 ·intro i h1 h2
  simp [madeCells, Nat.mod_one]
theorem run_make_B (w : World) (n : Nat) (hn : n ≤ 1000000) : (Instr.makeSlice 130 (.int .i64 n) (.int .i64 n)).run Tryz.prog w = .ok (.slice (some ⟨w.heap.size, 0, none⟩) n n) (w.alloc (.cells (flatG cB (List.replicate n false)).toArray 4)) := by
 obtain ⟨i, h0, h1, h2, h3⟩ := info_parts (show (Tryz.prog.info? 4).map (fun i => (i.zero, i.size, i.bytes)) = some (some (.bool false), 1, 1) by kernel_rfl)
 have hrun := run_make (P := Tryz.prog) w 130 4 i _ TB.und h0 h1 .i64 .i64 (n : Int) (n : Int) (by omega) (Int.le_refl _) (by rw [h3]; omega) (by omega)
 rw [h2, Int.toNat_natCast] at hrun
 have e : madeCells (Value.bool false).cells (n * 1) = (flatG cB (List.replicate n false)).toArray := madeB n
 rw [e] at hrun
 exact hrun
theorem heap_top' (w : World) (o : Obj) (B : Nat) (h : B = w.heap.size) : (w.alloc o).heap[B]? = some o := by rw [h]; exact heap_top _ _
theorem heap3a (w : World) (X Y Z : Obj) : (((w.alloc X).alloc Y).alloc Z).heap[w.heap.size]? = some X := by
 rw [heap_alloc, if_neg (by simp; omega), heap_alloc, if_neg (by simp), heap_alloc, if_pos rfl]
theorem heap3b (w : World) (X Y Z : Obj) : (((w.alloc X).alloc Y).alloc Z).heap[w.heap.size + 1]? = some Y := by
 rw [heap_alloc, if_neg (by simp), heap_alloc, if_pos (by simp)]
theorem OwB.made {W : World} {base B n : Nat} (h : W.heap[B]? = some (.cells (flatG cB (List.replicate n false)).toArray 4 (0, 0))) (hb : base ≤ B) (hn : n ≤ 1000000) : OwB W base (.slice (some ⟨B, 0, none⟩) n n) (List.replicate n false) := by
 have e : (List.replicate n false).length = n := List.length_replicate ..
 refine ⟨by rw [flatG_len TB], .inr ⟨B, n, _, by rw [e], hb, h, by rw [e]; exact Nat.le_refl _, by unfold maxLen; omega, by rw [List.size_toArray, flatG_len TB, e], ?_⟩⟩
 exact List.take_of_length_le (by rw [flatG_len TB]; exact Nat.le_refl _)
set_option maxRecDepth 100000 in
set_option maxHeartbeats 2000000 in
theorem anew_ok (w : World) (n : Nat) (hn : n ≤ 512) : Calls Tryz.prog 64 #[.int .i64 n] w fun e w' => ∃ nv lv, e = .returned (.pointer (some ⟨w.heap.size + 1 + 1, 0, none⟩)) ∧ Upd [] w w' ∧ MapR w' w.heap.size (w.heap.size + 1 + 1) nv lv (List.replicate n false) (List.replicate n false) := by
 have hmk := fun W : World => run_make_B W n (by omega)
 go_enter Tryz.func64, Tryz.ntmps64
 go_wp2_with fail
 go_region
 all_goals
  go_wp2_with fail
  go_ret
  refine ⟨_, _, rfl, ?_, ⟨heap_top' _ _ _ (by simp), OwB.made ?_ ?_ (by omega), OwB.made ?_ ?_ (by omega), ?_, ?_, by simp; omega, ?_⟩⟩
 all_goals first
  | exact ((((Upd.refl [] w).alloc _).alloc _).alloc _).drew
  | (rw [heap_drew]; exact heap3a _ _ _ _)
  | (rw [heap_drew]; exact heap3b _ _ _ _)
  | exact Nat.le_refl _
  | exact Nat.le_succ _
  | (intro g hg; simp only [Value.ownBlock, Option.some.injEq] at hg; omega)
  | (intro g h1 h2; simp only [Value.ownBlock, Option.some.injEq] at h1 h2; omega)
end Go.Proofs.YteepgehjkcahiaaGreat
