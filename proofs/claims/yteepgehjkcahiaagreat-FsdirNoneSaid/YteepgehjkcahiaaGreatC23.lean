/- A file comes: the map, the node. Which blocks are free, in memory: Blocks, Commit, Reset. A new map of free blocks. -/
import Derived.Test.YteepgehjkcahiaaGreatC22
import Derived.Test.YteepgehjkcahiaaGreatC19
namespace Go.Proofs.YteepgehjkcahiaaGreat
open Go.RowKit Go.Maps

theorem MapS.put {w : World} {mb : Nat} {L : List (Bs × Value)} (h : MapS w mb L) (hs : Srt ltN L) (hn : L.length < 1000000) {t e : TypeId} (ht : Tryz.prog.underlying t = some (.map 9 e)) (s : ByteArray) (hss : s.size ≤ maxLen) (v : Value) :
    ∃ w', (Instr.mapUpdate t (.map (some mb)) (.string s) v).run Tryz.prog w = .ok () w' ∧ MapS w' mb (putA ltN L s.data.toList v) ∧ w.grownBy w' (some mb) := by
  obtain ⟨w', h1, h2, h3⟩ := World.ownsMap.update h lawS ht (by unfold maxLen; omega) (WideMaps.keyOf_string_mk Tryz.underlying9 hss) (show opq v = some (.held v, []) from rfl)
  rw [put_dataA keyS hs] at h2
  exact ⟨w', h1, MapS.of h2, h3⟩

def updF {β : Type} (A : Bs → β) (nm : Bs) (a : β) : Bs → β := fun k => if k = nm then a else A k
theorem entsL_put {fs : Files} (hs : Srt ltN fs) (A : Bs → Nat) (nm : Bs) (f : Fil) (a : Nat) : entsL (putA ltN fs nm f) (updF A nm a) = putA ltN (entsL fs A) nm (ptA a) := by
  refine srt_ext ordN (entsL_srt (srt_putA ordN hs nm f) _) (srt_putA ordN (entsL_srt hs A) nm _) fun k => ?_
  rw [getA_ents, getA_putA ordN hs, getA_putA ordN (entsL_srt hs A), getA_ents]
  unfold updF
  by_cases h : nm = k
  · subst h; simp
  · have h' : ¬ k = nm := fun e => h e.symm
    rw [if_neg h, if_neg h, if_neg h']
theorem entsL_del (fs : Files) (A : Bs → Nat) (nm : Bs) : entsL (delA fs nm) A = delA (entsL fs A) nm := by
  unfold entsL delA
  rw [List.filter_map]
  rfl

/-- A file comes. -/
theorem FilR.put {w w' : World} {mf : Nat} {fs : Files} {A : Bs → Nat} {R : Bs → Value} {FM : List Nat} (h : FilR w mf fs A R FM) (hs : Srt ltN fs) {nm : Bs} {f : Fil} {a : Nat} {rv : Value} (hm : MapS w' mf (putA ltN (entsL fs A) nm (ptA a))) (u : Upd [mf] w w')
    (hn : NodeR w' 0 a f.data.length rv f.runs) (ha : w.heap.size ≤ a) (hr : ∀ g, rv.ownBlock = some g → w.heap.size ≤ g) : FilR w' mf (putA ltN fs nm f) (updF A nm a) (updF R nm rv) (a :: (rv.ownBlock.toList ++ FM)) := by
  have hmem : ∀ p ∈ putA ltN fs nm f, (p = (nm, f)) ∨ (p ∈ fs ∧ p.1 ≠ nm) := fun p hp => put_mem hs hp
  have e1 : updF A nm a nm = a := by simp [updF]
  have e2 : updF R nm rv nm = rv := by simp [updF]
  have o1 : ∀ {k}, k ≠ nm → updF A nm a k = A k := fun hk => by simp [updF, hk]
  have o2 : ∀ {k}, k ≠ nm → updF R nm rv k = R k := fun hk => by simp [updF, hk]
  have hmfl := h.map.lt
  refine ⟨by rw [entsL_put hs]; exact hm, fun p hp => ?_, by simp [h.mem], fun p hp => ?_, fun p hp g hg => ?_, fun p hp q hq hne => ?_, fun p hp q hq hne g hg => ?_, fun i hi => ?_⟩
  · rcases hmem p hp with rfl | ⟨hp, hk⟩
    · rw [e1, e2]; exact hn
    · rw [o1 hk, o2 hk]
      have hnd := h.node p hp
      obtain ⟨es, clock, hb, -⟩ := h.map
      refine hnd.upd u (fun q => ?_) (fun g hg q => ?_)
      · rw [List.mem_singleton.1 q] at hnd
        have := hnd.1
        rw [hb] at this
        cases this
      · rw [List.mem_singleton.1 q] at hg
        exact own_map hnd.2 hb hg
  · rcases hmem p hp with rfl | ⟨hp, hk⟩
    · rw [e1]; simp
    · rw [o1 hk]; simp [h.memA p hp]
  · rcases hmem p hp with rfl | ⟨hp, hk⟩
    · rw [e2] at hg; simp [Option.mem_toList, hg]
    · rw [o2 hk] at hg; simp [h.memR p hp g hg]
  · rcases hmem p hp with rfl | ⟨hp, hk⟩
    · rcases hmem q hq with rfl | ⟨hq, hk2⟩
      · exact absurd rfl hne
      · rw [e1, o1 hk2]; intro e; have := h.lt _ (h.memA q hq); omega
    · rcases hmem q hq with rfl | ⟨hq, hk2⟩
      · rw [e1, o1 hk]; intro e; have := h.lt _ (h.memA p hp); omega
      · rw [o1 hk, o1 hk2]; exact h.apA p hp q hq hne
  · rcases hmem p hp with rfl | ⟨hp, hk⟩
    · rcases hmem q hq with rfl | ⟨hq, hk2⟩
      · exact absurd rfl hne
      · rw [e2] at hg; rw [o2 hk2]; intro e; have := h.lt _ (h.memR q hq g e); have := hr g hg; omega
    · rw [o2 hk] at hg
      rcases hmem q hq with rfl | ⟨hq, hk2⟩
      · rw [e2]; intro e; have := h.lt _ (h.memR p hp g hg); have := hr g e; omega
      · rw [o2 hk2]; exact h.apR p hp q hq hne g hg
  · simp only [List.mem_cons, List.mem_append, Option.mem_toList] at hi
    rcases hi with rfl | hi | hi
    · exact lt_of_blk hn.1
    · exact (hn.2.block i hi).2
    · exact Nat.lt_of_lt_of_le (h.lt i hi) u.size

/-- A file goes. -/
theorem FilR.del {w w' : World} {mf : Nat} {fs : Files} {A : Bs → Nat} {R : Bs → Value} {FM : List Nat} (h : FilR w mf fs A R FM) {nm : Bs} (hm : MapS w' mf (delA (entsL fs A) nm)) (u : Upd [mf] w w') : FilR w' mf (delA fs nm) A R FM := by
  have hmem : ∀ p ∈ delA fs nm, p ∈ fs := fun p hp => (List.mem_filter.1 hp).1
  refine ⟨by rw [entsL_del]; exact hm, fun p hp => ?_, h.mem, fun p hp => h.memA p (hmem p hp), fun p hp => h.memR p (hmem p hp), fun p hp q hq => h.apA p (hmem p hp) q (hmem q hq), fun p hp q hq => h.apR p (hmem p hp) q (hmem q hq), fun i hi => Nat.lt_of_lt_of_le (h.lt i hi) u.size⟩
  have hnd := h.node p (hmem p hp)
  obtain ⟨es, clock, hb, -⟩ := h.map
  refine hnd.upd u (fun q => ?_) (fun g hg q => ?_)
  · rw [List.mem_singleton.1 q] at hnd
    have := hnd.1
    rw [hb] at this
    cases this
  · rw [List.mem_singleton.1 q] at hg
    exact own_map hnd.2 hb hg
end Go.Proofs.YteepgehjkcahiaaGreat

namespace Go.Proofs.YteepgehjkcahiaaGreat
open Go.RowKit Go.Maps

abbrev boxA (nv lv : Value) : Obj := .cells #[nv, lv] 132 (0, 0)
abbrev OwB (w : World) (base : Nat) (v : Value) (l : List Bool) : Prop := OwnG cB 4 1 w base v l
/-- The blocks in use now, and at the last Commit. -/
structure MapR (w : World) (base q : Nat) (nv lv : Value) (now last : List Bool) : Prop where
  box : w.heap[q]? = some (boxA nv lv)
  now : OwB w base nv now
  last : OwB w base lv last
  ne1 : ∀ g, nv.ownBlock = some g → g ≠ q
  ne2 : ∀ g, lv.ownBlock = some g → g ≠ q
  fit : base ≤ w.heap.size
  sep : ∀ g, nv.ownBlock = some g → lv.ownBlock ≠ some g

set_option maxRecDepth 100000 in
theorem ablocks_ok (w : World) {base q : Nat} {nv lv : Value} {now last : List Bool} (h : MapR w base q nv lv now last) : Calls Tryz.prog 114 #[.pointer (some ⟨q, 0, none⟩)] w fun e w' => e = .returned (.int .i64 now.length) ∧ w' = w := by
  have c0 := cell_blk h.box 0
  simp only [List.getElem?_toArray, List.getElem?_cons_zero] at c0
  obtain ⟨a, c, m, hm, rfl⟩ := h.now.sliceM
  rw [← hm]
  clear h hm
  go_enter Tryz.func114, Tryz.ntmps114
  go_wp2_with fail
  go_ret
  exact ⟨rfl, rfl⟩

theorem boxA_last {w : World} {q : Nat} {nv lv : Value} (h : w.heap[q]? = some (boxA nv lv)) (v : Value) : (w.setCell ⟨q, 1, none⟩ v).heap[q]? = some (boxA nv v) := by
  rw [heap_setCell, if_pos rfl, h]; rfl
theorem boxA_now {w : World} {q : Nat} {nv lv : Value} (h : w.heap[q]? = some (boxA nv lv)) (v : Value) : (w.setCell ⟨q, 0, none⟩ v).heap[q]? = some (boxA v lv) := by
  rw [heap_setCell, if_pos rfl, h]; rfl

set_option maxRecDepth 100000 in
set_option maxHeartbeats 2000000 in
theorem acommit_ok (w : World) {base q : Nat} {nv lv : Value} {now last : List Bool} (h : MapR w base q nv lv now last) (hl : now.length ≤ 1000000) :
    Calls Tryz.prog 57 #[.pointer (some ⟨q, 0, none⟩)] w fun e w' => e = .returned (.tuple #[]) ∧ ∃ lv', MapR w' base q nv lv' now now ∧ Upd [q] w w' ∧ ∀ g, lv'.ownBlock = some g → w.heap.size ≤ g := by
  have c0 := cell_blk h.box 0
  simp only [List.getElem?_toArray, List.getElem?_cons_zero] at c0
  have HM := Lib.hid h
  have hq := lt_of_blk h.box
  have HC := Lib.hid (cloneB_ok w (OwnG.rd TB h.now) (by omega))
  clear h
  go_enter Tryz.func57, Tryz.ntmps57
  go_wp2_with fail
  refine HC.out.mono ?_
  rintro e w1 ⟨v1, rfl, ho, hu⟩
  obtain ⟨a1, k1, m1, hm1, rfl⟩ := ho.sliceM
  have hb1 := (hu.block q hq (by simp)).trans HM.out.box
  have HB1 := Lib.hid hb1
  have d1 := cell_blk hb1 1
  have f1 := frozen_blk hb1 1
  simp only [List.getElem?_toArray, List.getElem?_cons_zero, List.getElem?_cons_succ] at d1
  have H1 := Lib.hid (And.intro ho hu)
  clear ho hu hb1 hm1 HC
  go_wp2_with fail
  go_end0
  have hU : Upd [q] w1 (w1.setCell ⟨q, 1, none⟩ (.slice a1 m1 k1)) := (Upd.refl _ _).setCell (by simp) _ _
  have hlow : ∀ g, (Value.slice a1 m1 k1).ownBlock = some g → w.heap.size ≤ g := fun g hg => (H1.out.1.block g hg).1
  refine ⟨rfl, _, ⟨boxA_last HB1.out _, (HM.out.now.upd H1.out.2 (by simp)).upd hU (fun j hj e => ?_), ?_, HM.out.ne1, fun g hg => by have := hlow g hg; omega, Nat.le_trans HM.out.fit (Nat.le_trans H1.out.2.size hU.size), fun g h1 h2 => by have := (HM.out.now.block g h1).2; have := hlow g h2; omega⟩, (H1.out.2.mono (by simp)).trans hU, hlow⟩
  · exact HM.out.ne1 j e (List.mem_singleton.1 hj)
  · have ho2 := H1.out.1.upd hU (fun j hj e => by have := hlow j e; simp at hj; omega)
    exact ho2.base HM.out.fit
set_option maxRecDepth 100000 in
set_option maxHeartbeats 2000000 in
theorem areset_ok (w : World) {base q : Nat} {nv lv : Value} {now last : List Bool} (h : MapR w base q nv lv now last) (hl : last.length ≤ 1000000) :
    Calls Tryz.prog 70 #[.pointer (some ⟨q, 0, none⟩)] w fun e w' => e = .returned (.tuple #[]) ∧ ∃ nv', MapR w' base q nv' lv last last ∧ Upd [q] w w' ∧ ∀ g, nv'.ownBlock = some g → w.heap.size ≤ g := by
  have c1 := cell_blk h.box 1
  simp only [List.getElem?_toArray, List.getElem?_cons_zero, List.getElem?_cons_succ] at c1
  have HM := Lib.hid h
  have hq := lt_of_blk h.box
  have HC := Lib.hid (cloneB_ok w (OwnG.rd TB h.last) (by omega))
  clear h
  go_enter Tryz.func70, Tryz.ntmps70
  go_wp2_with fail
  refine HC.out.mono ?_
  rintro e w1 ⟨v1, rfl, ho, hu⟩
  obtain ⟨a1, k1, m1, hm1, rfl⟩ := ho.sliceM
  have hb1 := (hu.block q hq (by simp)).trans HM.out.box
  have HB1 := Lib.hid hb1
  have d1 := cell_blk hb1 0
  have f1 := frozen_blk hb1 0
  simp only [List.getElem?_toArray, List.getElem?_cons_zero] at d1
  have H1 := Lib.hid (And.intro ho hu)
  clear ho hu hb1 hm1 HC
  go_wp2_with fail
  go_end0
  have hU : Upd [q] w1 (w1.setCell ⟨q, 0, none⟩ (.slice a1 m1 k1)) := (Upd.refl _ _).setCell (by simp) _ _
  have hlow : ∀ g, (Value.slice a1 m1 k1).ownBlock = some g → w.heap.size ≤ g := fun g hg => (H1.out.1.block g hg).1
  refine ⟨rfl, _, ⟨boxA_now HB1.out _, ?_, (HM.out.last.upd H1.out.2 (by simp)).upd hU (fun j hj e => ?_), fun g hg => by have := hlow g hg; omega, HM.out.ne2, Nat.le_trans HM.out.fit (Nat.le_trans H1.out.2.size hU.size), fun g h1 h2 => by have := hlow g h1; have := (HM.out.last.block g h2).2; omega⟩, (H1.out.2.mono (by simp)).trans hU, hlow⟩
  · have ho2 := H1.out.1.upd hU (fun j hj e => by have := hlow j e; simp at hj; omega)
    exact ho2.base HM.out.fit
  · exact HM.out.ne2 j e (List.mem_singleton.1 hj)
end Go.Proofs.YteepgehjkcahiaaGreat

namespace Go.Proofs.YteepgehjkcahiaaGreat
open Go.RowKit Go.Maps

theorem flatB_rep (n : Nat) : flatG cB (List.replicate n false) = List.replicate n (.bool false) := by
  induction n with
  | zero => rfl
  | succ n ih => rw [List.replicate_succ, List.replicate_succ, ← ih]; rfl
theorem madeB (n : Nat) : madeCells #[.bool false] (n * 1) = (flatG cB (List.replicate n false)).toArray := by
  rw [flatB_rep]
  apply Array.ext
  · rw [size_madeCells]; simp
  · intro i h1 h2
    simp [madeCells, Nat.mod_one]
theorem run_make_B (w : World) (n : Nat) (hn : n ≤ 1000000) : (Instr.makeSlice 130 (.int .i64 n) (.int .i64 n)).run Tryz.prog w = .ok (.slice (some ⟨w.heap.size, 0, none⟩) n n) (w.alloc (.cells (flatG cB (List.replicate n false)).toArray 4)) := by
  obtain ⟨i, h0, h1, h2, h3⟩ := info_parts (show (Tryz.prog.info? 4).map (fun i => (i.zero, i.size, i.bytes)) = some (some (.bool false), 1, 1) by kernel_rfl)
  have hrun := run_make (P := Tryz.prog) w 130 4 i _ TB.und h0 h1 .i64 .i64 (n : Int) (n : Int) (by omega) (Int.le_refl _) (by rw [h3]; omega) (by omega)
  rw [h2, Int.toNat_natCast] at hrun
  have e : madeCells (Value.bool false).cells (n * 1) = (flatG cB (List.replicate n false)).toArray := madeB n
  rw [e] at hrun
  exact hrun

theorem heap_top' (w : World) (o : Obj) (B : Nat) (h : B = w.heap.size) : (w.alloc o).heap[B]? = some o := by rw [h]; exact heap_top _ _
theorem heap3a (w : World) (X Y Z : Obj) : (((w.alloc X).alloc Y).alloc Z).heap[w.heap.size]? = some X := by
  rw [heap_alloc, if_neg (by simp; omega), heap_alloc, if_neg (by simp), heap_alloc, if_pos rfl]
theorem heap3b (w : World) (X Y Z : Obj) : (((w.alloc X).alloc Y).alloc Z).heap[w.heap.size + 1]? = some Y := by
  rw [heap_alloc, if_neg (by simp), heap_alloc, if_pos (by simp)]
theorem OwB.made {W : World} {base B n : Nat} (h : W.heap[B]? = some (.cells (flatG cB (List.replicate n false)).toArray 4 (0, 0))) (hb : base ≤ B) (hn : n ≤ 1000000) : OwB W base (.slice (some ⟨B, 0, none⟩) n n) (List.replicate n false) := by
  have e : (List.replicate n false).length = n := List.length_replicate ..
  refine ⟨by rw [flatG_len TB], .inr ⟨B, n, _, by rw [e], hb, h, by rw [e]; exact Nat.le_refl _, by unfold maxLen; omega, by rw [List.size_toArray, flatG_len TB, e], ?_⟩⟩
  exact List.take_of_length_le (by rw [flatG_len TB]; exact Nat.le_refl _)

set_option maxRecDepth 100000 in
set_option maxHeartbeats 2000000 in
theorem anew_ok (w : World) (n : Nat) (hn : n ≤ 512) : Calls Tryz.prog 64 #[.int .i64 n] w fun e w' => ∃ nv lv, e = .returned (.pointer (some ⟨w.heap.size + 1 + 1, 0, none⟩)) ∧ Upd [] w w' ∧ MapR w' w.heap.size (w.heap.size + 1 + 1) nv lv (List.replicate n false) (List.replicate n false) := by
  have hmk := fun W : World => run_make_B W n (by omega)
  go_enter Tryz.func64, Tryz.ntmps64
  go_wp2_with fail
  go_region
  all_goals
    go_wp2_with fail
    go_ret
    refine ⟨_, _, rfl, ?_, ⟨heap_top' _ _ _ (by simp), OwB.made ?_ ?_ (by omega), OwB.made ?_ ?_ (by omega), ?_, ?_, by simp; omega, ?_⟩⟩
  all_goals first
    | exact ((((Upd.refl [] w).alloc _).alloc _).alloc _).drew
    | (rw [heap_drew]; exact heap3a _ _ _ _)
    | (rw [heap_drew]; exact heap3b _ _ _ _)
    | exact Nat.le_refl _
    | exact Nat.le_succ _
    | (intro g hg; simp only [Value.ownBlock, Option.map, Option.some.injEq] at hg; omega)
    | (intro g h1 h2; simp only [Value.ownBlock, Option.map, Option.some.injEq] at h1 h2; omega)
end Go.Proofs.YteepgehjkcahiaaGreat
