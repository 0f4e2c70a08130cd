/- What is taken: plain laws of takeR, and rows of truths that are marked. The first free blocks are taken: Take. -/
import Derived.Deep.DeepCutAuto
import Derived.Test.YtgpefiacbipfpaaGreatDoorC19
namespace Go.Proofs.YtgpefiacbipfpaaGreatDoor
open Go.RowKit Go.Maps
theorem takeR_zero : ∀ l : List Run, takeR l 0 = []
 | [] => rfl
 | r :: l => by rw [takeR, if_pos rfl]
theorem takeR_snoc : ∀ (pre : List Run) (x : Run) (n : Nat), takeR (pre ++ [x]) n = takeR pre n ++ (if n ≤ lenR pre then [] else [(x.1, min x.2 (n - lenR pre))])
 | [], x, n => by
  simp only [List.nil_append, takeR, lenR, List.map_nil, List.sum_nil, Nat.le_zero, Nat.sub_zero]
 | r :: l, x, n => by
  simp only [List.cons_append, takeR]
  by_cases h0 : n = 0
  ·subst h0; simp
  ·rw [if_neg h0, if_neg h0, takeR_snoc l x (n - min r.2 n), List.cons_append]
   congr 2
   have e : lenR (r :: l) = r.2 + lenR l := by simp [lenR]
   rw [e]
   by_cases h : n ≤ r.2 + lenR l
   ·rw [if_pos h, if_pos (by omega)]
   ·rw [if_neg h, if_neg (by omega), show n - min r.2 n - lenR l = n - (r.2 + lenR l) by omega]
theorem takeR_app : ∀ (pre t : List Run) (n : Nat), n ≤ lenR pre → takeR (pre ++ t) n = takeR pre n
 | [], t, n, h => by
  have : n = 0 := by simpa [lenR] using h
  subst this
  simp [takeR_zero]
 | r :: l, t, n, h => by
  have e : lenR (r :: l) = r.2 + lenR l := by simp [lenR]
  rw [e] at h
  simp only [List.cons_append, takeR]
  rw [takeR_app l t (n - min r.2 n) (by omega)]
theorem takeR_pre {pre full : List Run} (h : pre <+: full) {n : Nat} (hn : n ≤ lenR pre) : takeR full n = takeR pre n := by
 obtain ⟨t, rfl⟩ := h
 exact takeR_app pre t n hn
theorem takeR_len : ∀ (l : List Run) (n : Nat), (takeR l n).length ≤ l.length
 | [], n => by simp [takeR]
 | r :: l, n => by
  rw [takeR]
  split
  ·simp
  ·simp only [List.length_cons]; have := takeR_len l (n - min r.2 n); omega
def markL (l : List Bool) (rs : List Run) : List Bool := (expand rs).foldl (fun l i => l.set i true) l
theorem markL_len (l : List Bool) (rs : List Run) : (markL l rs).length = l.length := by
 unfold markL
 generalize expand rs = L
 induction L generalizing l with
 | nil => rfl
 | cons i L ih => rw [List.foldl_cons, ih]; simp
theorem markL_getD (l : List Bool) (rs : List Run) (i : Nat) : (markL l rs).getD i true = (l.getD i true || decide (i ∈ expand rs)) := by
 unfold markL
 generalize expand rs = L
 induction L generalizing l with
 | nil => simp
 | cons j L ih =>
  rw [List.foldl_cons, ih]
  simp only [List.getD_eq_getElem?_getD, List.getElem?_set, List.mem_cons, Bool.decide_or]
  by_cases h : j = i
  ·subst h
   simp only [if_true]
   by_cases hl : j < l.length
   ·simp [hl]
   ·simp [hl]
  ·rw [if_neg h]
   have : decide (i = j) = false := by simp; exact fun e => h e.symm
   rw [this, Bool.false_or]
theorem markL_zero (l : List Bool) (rs : List Run) (a : Nat) : markL l (rs ++ [(a, 0)]) = markL l rs := by
 unfold markL; rw [expand_app, expand_one]; simp
theorem markL_succ (l : List Bool) (rs : List Run) (a i : Nat) : markL l (rs ++ [(a, i + 1)]) = (markL l (rs ++ [(a, i)])).set (a + i) true := by
 unfold markL
 rw [expand_app, expand_app, expand_one, expand_one]
 simp only
 rw [List.range'_concat, ← List.append_assoc, List.foldl_append]
 simp
theorem OwnB_set {w : World} {base g c n : Nat} {l : List Bool} (h : OwB w base (.slice (some ⟨g, 0, none⟩) n c) l) (i : Nat) (_hi : i < l.length) (b : Bool) :
  OwB (w.setCell ⟨g, i, none⟩ (.bool b)) base (.slice (some ⟨g, 0, none⟩) n c) (l.set i b) := by
 obtain ⟨h1, h2⟩ := h
 have e0 : (l.set i b).length = l.length := by simp
 refine ⟨by rw [flatG_len TB], ?_⟩
 rcases h2 with ⟨h2, -⟩ | ⟨g', cap, cur, hv, hg, hh, r1, r2, r3, r4⟩
 ·cases h2
 ·cases hv
  refine .inr ⟨g, c, cur.setIfInBounds i (.bool b), by rw [e0], hg, ?_, by rw [e0]; exact r1, r2, by simpa using r3, ?_⟩
  ·rw [heap_setCell, if_pos rfl, hh]; rfl
  ·rw [e0, Array.toList_setIfInBounds, List.take_set, r4]
   have hf : ∀ l : List Bool, flatG cB l = l.map Value.bool := fun l => by
    induction l with
    | nil => rfl
    | cons x l ih => simp only [flatG, List.flatMap_cons, List.map_cons] at ih ⊢; rw [ih]; rfl
   rw [hf, hf, List.map_set]
theorem OwB.row {w : World} {base : Nat} {v : Value} {l : List Bool} (h : OwB w base v l) (hl : 0 < l.length) : ∃ g c, v = .slice (some ⟨g, 0, none⟩) l.length c ∧ base ≤ g ∧ g < w.heap.size ∧ w.heap[g]?.isSome = true ∧ (∃ cur, w.heap[g]? = some (.cells cur 4 (0, 0)) ∧ l.length ≤ cur.size) := by
 rcases h.2 with ⟨hv, h2⟩ | ⟨g, cap, cur, hv, hg, hh, r1, r2, r3, r4⟩
 ·omega
 ·refine ⟨g, cap, hv, hg, lt_of_blk hh, by rw [hh]; rfl, cur, hh, ?_⟩
  omega
end Go.Proofs.YtgpefiacbipfpaaGreatDoor

namespace Go.Proofs.YtgpefiacbipfpaaGreatDoor
open Go.RowKit Go.Maps
attribute [local go_sem] Oper.semAt_some
theorem stab_own {α : Type} {f : α → List Value} {e : TypeId} {k C base : Nat} {v : Value} {l : List α} : Stab C fun W => OwnG f e k W base v l := fun X Y F h u hr => by
 refine h.upd u fun j hj hv => ?_
 obtain ⟨-, o, ho, hn⟩ := hr j hj
 rcases h.2 with ⟨rfl, -⟩ | ⟨g, cap, cur, rfl, -, hg, -⟩
 ·cases hv
 ·simp only [Value.ownBlock, Option.some.injEq] at hv
  subst hv
  rw [hg] at ho; cases ho; cases hn
theorem stab_map {C base q : Nat} {nv lv : Value} {now last : List Bool} : Stab C fun W => MapR W base q nv lv now last := fun X Y F h u hr =>
 ⟨stab_blk rfl X Y F h.box u hr, stab_own X Y F h.now u hr, stab_own X Y F h.last u hr, h.ne1, h.ne2, Nat.le_trans h.fit u.size, h.sep⟩
structure TkSt (w : World) (s1 Bl q base : Nat) (nv lv : Value) (last : List Bool) (v : Value) (L : List Run) (M : List Bool) (r : Nat) (W : World) : Prop where
 m : W.heap[w.heap.size]? = some (.cells #[.pointer (some ⟨q, 0, none⟩)] 81 (0, 0))
 n : W.heap[w.heap.size + 1]? = some (.cells #[.int .i64 r] 3 (0, 0))
 l : W.heap[Bl]? = some (.cells #[v] 90 (0, 0))
 o : OwnG cR 148 2 W w.heap.size v L
 map : MapR W base q nv lv M last
 upd : Upd nv.ownBlock.toList w W
 sz : s1 ≤ W.heap.size
theorem stab_tk {w : World} {C s1 Bl q base : Nat} {nv lv v : Value} {last M : List Bool} {L : List Run} {r : Nat} (hC : w.heap.size ≤ C) : Stab C (TkSt w s1 Bl q base nv lv last v L M r) := fun X Y F h u hr =>
 ⟨stab_blk rfl X Y F h.m u hr, stab_blk rfl X Y F h.n u hr, stab_blk rfl X Y F h.l u hr, stab_own X Y F h.o u hr, stab_map X Y F h.map u hr, stab_upd hC X Y F h.upd u hr, Nat.le_trans h.sz u.size⟩
theorem TkSt.keep {w X Y : World} {s1 Bl q base : Nat} {nv lv v : Value} {last M : List Bool} {L : List Run} {r : Nat} (h : TkSt w s1 Bl q base nv lv last v L M r X) (u : Upd [] X Y) : TkSt w s1 Bl q base nv lv last v L M r Y :=
 stab_tk (Nat.le_refl _) X Y [] h u (by simp)
theorem MapR.upd {w w' : World} {base q : Nat} {nv lv : Value} {now last : List Bool} (h : MapR w base q nv lv now last) {F : List Nat} (u : Upd F w w') (hq : q ∉ F) (hn : ∀ j ∈ F, nv.ownBlock ≠ some j) (hl : ∀ j ∈ F, lv.ownBlock ≠ some j) : MapR w' base q nv lv now last :=
 ⟨(u.block q (lt_of_blk h.box) hq).trans h.box, h.now.upd u hn, h.last.upd u hl, h.ne1, h.ne2, Nat.le_trans h.fit u.size, h.sep⟩
theorem TkSt.new {w X Y : World} {s1 Bl q base : Nat} {nv lv v : Value} {last M : List Bool} {L : List Run} {r : Nat} (h : TkSt w s1 Bl q base nv lv last v L M r X) {B : Nat} (u : Upd [B] X Y) (hB : w.heap.size + 1 < B) (hBl : B ≠ Bl) (hq : q < w.heap.size) (hn : ∀ g, nv.ownBlock = some g → g < w.heap.size) (hl : ∀ g, lv.ownBlock = some g → g < w.heap.size) (hv : v.ownBlock ≠ some B) : TkSt w s1 Bl q base nv lv last v L M r Y :=
 ⟨(u.block _ (lt_of_blk h.m) (by simp; omega)).trans h.m, (u.block _ (lt_of_blk h.n) (by simp; omega)).trans h.n, (u.block _ (lt_of_blk h.l) (by simp; omega)).trans h.l,
  h.o.upd u (fun j hj e => by simp at hj; subst hj; exact hv e), h.map.upd u (by simp; omega) (fun j hj e => by simp at hj; subst hj; have := hn _ e; omega) (fun j hj e => by simp at hj; subst hj; have := hl _ e; omega),
  h.upd.next u (fun k hk hlt => by simp at hk; omega), Nat.le_trans h.sz u.size⟩
theorem TkSt.mark {w X : World} {s1 Bl q base g c nn : Nat} {lv v : Value} {last M : List Bool} {L : List Run} {r : Nat} (h : TkSt w s1 Bl q base (.slice (some ⟨g, 0, none⟩) nn c) lv last v L M r X) (hBl : w.heap.size ≤ Bl) (hg : g < w.heap.size) (i : Nat) (hi : i < M.length) :
  TkSt w s1 Bl q base (.slice (some ⟨g, 0, none⟩) nn c) lv last v L (M.set i true) r (X.setCell ⟨g, i, none⟩ (.bool true)) := by
 have u : Upd [g] X (X.setCell ⟨g, i, none⟩ (.bool true)) := (Upd.refl _ _).setCell (by simp) _ _
 refine ⟨(u.block _ (lt_of_blk h.m) (by simp; omega)).trans h.m, (u.block _ (lt_of_blk h.n) (by simp; omega)).trans h.n, (u.block _ (lt_of_blk h.l) (by simp; omega)).trans h.l,
  h.o.upd u (fun j hj e => by simp at hj; subst hj; have := (h.o.block _ e).1; omega), ⟨(u.block q (lt_of_blk h.map.box) ?_).trans h.map.box, OwnB_set h.map.now i hi true, h.map.last.upd u ?_, h.map.ne1, h.map.ne2, Nat.le_trans h.map.fit u.size, h.map.sep⟩,
  h.upd.trans (u.mono (by simp [Value.ownBlock])), Nat.le_trans h.sz u.size⟩
 ·have := h.map.ne1 g rfl
  simp; omega
 ·intro j hj e
  simp at hj
  subst hj
  exact h.map.sep _ rfl e
theorem KpM.low {N : Nat} {W : World} {B o : Nat} (h : B < N) (v : Value) : KpM N W (W.setCell ⟨B, o, none⟩ v) := fun k vs ty fr' hN hk hty => by
 rw [heap_setCell, if_neg (by omega)]; exact hk
theorem KeepsOthers.of_upd {W W' : World} {F : List Nat} (u : Upd F W W') (hF : ∀ j ∈ F, ∀ o, W.heap[j]? = some o → o.isCells = true) : KeepsOthers W W' :=
 ⟨u.size, fun k o hk hc => (u.block k (lt_of_blk hk) fun hj => by rw [hF k hj o hk] at hc; cases hc).trans hk⟩
theorem own_ne {α : Type} {f : α → List Value} {e t : TypeId} {k base B : Nat} {W : World} {v : Value} {l : List α} {c : Array Value} {fr : Nat × Nat} (h : OwnG f e k W base v l) (hb : W.heap[B]? = some (.cells c t fr)) (ht : t ≠ e) : v.ownBlock ≠ some B := by
 intro hv
 rcases h.2 with ⟨rfl, -⟩ | ⟨g, cap, cur, rfl, -, hg, -⟩
 ·cases hv
 ·simp only [Value.ownBlock, Option.some.injEq] at hv
  subst hv
  rw [hg] at hb
  simp only [Option.some.injEq, Obj.cells.injEq] at hb
  exact ht hb.2.1.symm
theorem own_cells {α : Type} {f : α → List Value} {e : TypeId} {k base : Nat} {W : World} {v : Value} {l : List α} (h : OwnG f e k W base v l) : ∀ j, v.ownBlock = some j → ∃ c, W.heap[j]? = some (.cells c e (0, 0)) := by
 intro j hv
 rcases h.2 with ⟨rfl, -⟩ | ⟨g, cap, cur, rfl, -, hg, -⟩
 ·cases hv
 ·simp only [Value.ownBlock, Option.some.injEq] at hv
  subst hv
  exact ⟨cur, hg⟩
theorem len_lenR : ∀ {l : List Run}, (∀ r ∈ l, 1 ≤ r.2) → l.length ≤ lenR l
 | [], _ => Nat.zero_le _
 | r :: l, h => by
  have h1 := h r (by simp)
  have h2 := len_lenR (l := l) fun x hx => h x (by simp [hx])
  have e : lenR (r :: l) = r.2 + lenR l := by simp [lenR]
  rw [e, List.length_cons]; omega
theorem KpM.of_upd {N : Nat} {A B : World} {F : List Nat} (u : Upd F A B) (hF : ∀ j ∈ F, ∀ vs ty fr, A.heap[j]? = some (.cells vs ty fr) → ty ≠ 4 ∧ ty ≠ 149) : KpM N A B := fun k vs ty fr _ hk hty =>
 (u.block k (lt_of_blk hk) fun hj => by rcases hty with e | e; · exact (hF k hj _ _ _ hk).1 e
                                        ·exact (hF k hj _ _ _ hk).2 e).trans hk
theorem TkSt.app {w A w7 : World} {s1 Bl q base d : Nat} {nv lv v v7 : Value} {last M : List Bool} {L L' : List Run} {r : Nat} (h : TkSt w s1 Bl q base nv lv last v L M r A) (hs6 : w.heap.size + 1 < Bl) (hq : q < w.heap.size) (hn : ∀ g, nv.ownBlock = some g → g < w.heap.size) (hl : ∀ g, lv.ownBlock = some g → g < w.heap.size)
  (ho : OwnG cR 148 2 w7 w.heap.size v7 L') (hg : A.grownBy w7 v.ownBlock) :
  (w7.heap[Bl]? = some (.cells #[v] 90 (0, 0)) ∧ w7.heap[w.heap.size + 1]? = some (.cells #[.int .i64 r] 3 (0, 0))) ∧
  TkSt w s1 Bl q base nv lv last v7 L' M d ((w7.setCell ⟨Bl, 0, none⟩ v7).setCell ⟨w.heap.size + 1, 0, none⟩ (.int .i64 d)) ∧ KeepsOthers A ((w7.setCell ⟨Bl, 0, none⟩ v7).setCell ⟨w.heap.size + 1, 0, none⟩ (.int .i64 d)) ∧ ∀ N, KpM N A ((w7.setCell ⟨Bl, 0, none⟩ v7).setCell ⟨w.heap.size + 1, 0, none⟩ (.int .i64 d)) := by
 have hu := Upd.of_grown hg
 have hne : ∀ {B : Nat} {c : Array Value} {t : TypeId} {fr : Nat × Nat}, A.heap[B]? = some (.cells c t fr) → t ≠ 148 → w7.heap[B]? = some (.cells c t fr) := fun hb ht =>
  (hu.block _ (lt_of_blk hb) fun hj => own_ne h.o hb ht (by simpa using hj)).trans hb
 have b1 := hne h.m (by decide)
 have b2 := hne h.n (by decide)
 have b3 := hne h.l (by decide)
 have u2 : Upd [Bl, w.heap.size + 1] w7 ((w7.setCell ⟨Bl, 0, none⟩ v7).setCell ⟨w.heap.size + 1, 0, none⟩ (.int .i64 d)) := ((Upd.refl _ _).setCell (by simp) _ _).setCell (by simp) _ _
 have hold : ∀ j ∈ v.ownBlock.toList, w.heap.size ≤ j := fun j hj => (h.o.block j (by simpa using hj)).1
 have b2' : (w7.setCell ⟨Bl, 0, none⟩ v7).heap[w.heap.size + 1]? = some (.cells #[.int .i64 r] 3 (0, 0)) := by rw [heap_setCell, if_neg (by omega)]; exact b2
 refine ⟨⟨b3, b2⟩, ⟨?_, setBox b2' _, ?_, ?_, ?_, ?_, ?_⟩, ?_, fun N => ?_⟩
 ·rw [heap_setCell, if_neg (by omega), heap_setCell, if_neg (by omega)]; exact b1
 ·rw [heap_setCell, if_neg (by omega)]; exact setBox b3 _
 ·exact ho.upd u2 fun j hj => by
   simp only [List.mem_cons, List.not_mem_nil, or_false] at hj
   rcases hj with rfl | rfl
   ·exact own_ne ho b3 (by decide)
   ·exact own_ne ho b2 (by decide)
 ·refine (h.map.upd hu (fun hj => by have := hold _ hj; omega) (fun j hj e => by have := hold _ hj; have := hn _ e; omega) (fun j hj e => by have := hold _ hj; have := hl _ e; omega)).upd u2 (by simp; omega) (fun j hj e => ?_) (fun j hj e => ?_)
  ·have := hn _ e; simp at hj; omega
  ·have := hl _ e; simp at hj; omega
 ·exact (h.upd.next hu fun k hk hlt => by have := hold _ hk; omega).next u2 fun k hk hlt => by simp at hk; omega
 ·exact Nat.le_trans h.sz (Nat.le_trans hu.size u2.size)
 ·refine (KeepsOthers.of_upd hu fun j hj o hjo => ?_).trans ((KeepsOthers.setCell _ _ _).trans (KeepsOthers.setCell _ _ _))
  obtain ⟨c, hc⟩ := own_cells h.o j (by simpa using hj)
  rw [hc] at hjo; cases hjo; rfl
 ·refine (KpM.of_upd hu fun j hj vs ty fr hjo => ?_).t ((KpM.set b3 (by decide) (by decide) _).t (KpM.set b2' (by decide) (by decide) _))
  obtain ⟨c, hc⟩ := own_cells h.o j (by simpa using hj)
  rw [hc] at hjo
  simp only [Option.some.injEq, Obj.cells.injEq] at hjo
  obtain ⟨-, rfl, -⟩ := hjo
  exact ⟨by decide, by decide⟩
set_option maxRecDepth 100000 in
set_option maxHeartbeats 4000000 in
theorem atake_few (w : World) {q base : Nat} {nv lv : Value} {now last : List Bool} (h : MapR w base q nv lv now last) (hll : last.length = now.length) (hm : now.length ≤ 512) (n : Nat) (hn : lenR (frees (freeB now last) now.length 0) < n) (hn2 : n ≤ 1000000) :
  Calls Tryz.prog 42 #[.pointer (some ⟨q, 0, none⟩), .int .i64 n] w fun e w' => e = .returned (.tuple #[.slice none 0 0, .int .i64 50]) ∧ Upd [] w w' := by
 have HF := Lib.hid fun (W : World) (u : Upd [] w W) => acount_ok W (h.keepU u) hll hm
 have hn' : (lenR (frees (freeB now last) now.length 0) : Int) < (n : Int) := by omega
 generalize lenR (frees (freeB now last) now.length 0) = fr at *
 have hfr : (fr : Int) ≤ 1000000 := by omega
 have hb1 := heap_top (w.alloc (.cells #[.pointer (some ⟨q, 0, none⟩)] 81 (0, 0))) (.cells #[.int .i64 n] 3 (0, 0))
 have hb0 := heap_keepA (.cells #[.int .i64 n] 3 (0, 0)) (heap_top w (.cells #[.pointer (some ⟨q, 0, none⟩)] 81 (0, 0)))
 have hu : Upd [] w ((w.alloc (.cells #[.pointer (some ⟨q, 0, none⟩)] 81 (0, 0))).alloc (.cells #[.int .i64 n] 3 (0, 0))) := ((Upd.refl [] w).alloc _).alloc _
 rw [World.size_alloc] at hb1
 go_enter Tryz.func42, Tryz.ntmps42
 go_upto_region 1 with (fail)
 generalize (w.alloc (.cells #[.pointer (some ⟨q, 0, none⟩)] 81 (0, 0))).alloc (.cells #[.int .i64 n] 3 (0, 0)) = W0 at *
 have c0 := cell_blk hb0 0
 have c1 := cell_blk hb1 0
 simp only [List.getElem?_toArray, List.getElem?_cons_zero] at c0 c1
 have HU := Lib.hid hu
 clear h hb0 hb1 hu
 go_upto_region 3 with (fail)
 go_region_held3 (fun w' => w'.cell? ⟨w.heap.size, 0, none⟩ = some (.pointer (some ⟨q, 0, none⟩)) ∧ w'.cell? ⟨w.heap.size + 1, 0, none⟩ = some (.int .i64 n))
  (first
   | (with_reducible exact held2 (Upd.refl [] W0).drew ⟨c0, c1⟩)
   | (with_reducible exact held2 hv6 ⟨c0, c1⟩))
  (first
   | (go_at_call 87; (with_reducible refine (HF.out _ ?_).mono ?_); (exact HU.out.drew); rintro e w6 ⟨rfl, hu6⟩; have hv6 : Upd [] W0 w6 := (Upd.refl [] W0).drew.trans hu6))
 go_wp2_with fail
 go_ret2
 exact ⟨rfl, HU.out.trans hv6⟩
set_option maxRecDepth 100000 in
set_option maxHeartbeats 4000000 in
theorem atake_ok (w : World) {q base : Nat} {nv lv : Value} {now last : List Bool} (h : MapR w base q nv lv now last) (hll : last.length = now.length) (hm : now.length ≤ 512) (n : Nat) (hn : n ≤ lenR (frees (freeB now last) now.length 0)) :
  Calls Tryz.prog 42 #[.pointer (some ⟨q, 0, none⟩), .int .i64 n] w fun e w' => ∃ rv, e = .returned (.tuple #[rv, .int .i64 0]) ∧ OwnG cR 148 2 w' w.heap.size rv (takeR (frees (freeB now last) now.length 0) n) ∧
   MapR w' base q nv lv (markL now (takeR (frees (freeB now last) now.length 0) n)) last ∧ Upd nv.ownBlock.toList w w' := by
 have HF := Lib.hid fun (W : World) (u : Upd [] w W) => acount_ok W (h.keepU u) hll hm
 have hfr2 := lenR_free now last
 have hn' : ¬ (lenR (frees (freeB now last) now.length 0) : Int) < (n : Int) := by omega
 have hn3 : (n : Int) ≤ 512 := by omega
 have HN := Lib.hid hn
 have HM := Lib.hid h
 generalize hfr : lenR (frees (freeB now last) now.length 0) = fr at *
 have hfr3 : (fr : Int) ≤ 1000000 := by omega
 have hb1 := heap_top (w.alloc (.cells #[.pointer (some ⟨q, 0, none⟩)] 81 (0, 0))) (.cells #[.int .i64 n] 3 (0, 0))
 have hb0 := heap_keepA (.cells #[.int .i64 n] 3 (0, 0)) (heap_top w (.cells #[.pointer (some ⟨q, 0, none⟩)] 81 (0, 0)))
 have hu : Upd [] w ((w.alloc (.cells #[.pointer (some ⟨q, 0, none⟩)] 81 (0, 0))).alloc (.cells #[.int .i64 n] 3 (0, 0))) := ((Upd.refl [] w).alloc _).alloc _
 rw [World.size_alloc] at hb1
 have HFR := Lib.hid hfr
 have HFR2 := Lib.hid hfr2
 clear hfr hfr2 hn
 refine (callsIn_wide (n := 6)).1 ?_
 refine callsIn_of_wp_marks Tryz.func42 rfl trivial ?_ rfl
 simp only [Tryz.ntmps42, List.size_toArray, List.length_cons, List.length_nil, Nat.reduceAdd, Nat.reduceSub, Array.replicate_succ, Array.replicate_zero, List.push_toArray, List.append_toArray, List.nil_append, List.cons_append]
 refine wpIn_wide.2 ?_
 go_upto_region 1 with (fail)
 generalize (w.alloc (.cells #[.pointer (some ⟨q, 0, none⟩)] 81 (0, 0))).alloc (.cells #[.int .i64 n] 3 (0, 0)) = W0 at *
 have c0 := cell_blk hb0 0
 have c1 := cell_blk hb1 0
 simp only [List.getElem?_toArray, List.getElem?_cons_zero] at c0 c1
 have HU := Lib.hid hu
 have HB0 := Lib.hid hb0
 have HB1 := Lib.hid hb1
 clear h hb0 hb1 hu
 go_upto_region 3 with (fail)
 go_region_held3 (fun w' => w'.cell? ⟨w.heap.size, 0, none⟩ = some (.pointer (some ⟨q, 0, none⟩)) ∧ w'.cell? ⟨w.heap.size + 1, 0, none⟩ = some (.int .i64 n))
  (first
   | (with_reducible exact held2 (Upd.refl [] W0).drew ⟨c0, c1⟩)
   | (with_reducible exact held2 hv6 ⟨c0, c1⟩))
  (first
   | (go_at_call 87; (with_reducible refine (HF.out _ ?_).mono ?_); (exact HU.out.drew); rintro e w6 ⟨rfl, hu6⟩; have hv6 : Upd [] W0 w6 := (Upd.refl [] W0).drew.trans hu6))
 have k0 : ∀ X, (w6.alloc X).cell? ⟨w.heap.size, 0, none⟩ = some (.pointer (some ⟨q, 0, none⟩)) := fun X => cell_keep (hv6.alloc X) c0
 go_wp2_with (go_at_call 88; refine (aall_ok _ _).mono ?_; rintro e w7 ⟨rfl, rfl⟩)
 have hm1 := heap_keepU ((hv6.alloc (.cells #[.slice none 0 0] 90 (0, 0))).alloc (.cells #[.pointer (some ⟨q, 0, none⟩)] 81 (0, 0))) HB0.out
 have hn1 := heap_keepU ((hv6.alloc (.cells #[.slice none 0 0] 90 (0, 0))).alloc (.cells #[.pointer (some ⟨q, 0, none⟩)] 81 (0, 0))) HB1.out
 have hl1 := heap_keepA (.cells #[.pointer (some ⟨q, 0, none⟩)] 81 (0, 0)) (heap_top w6 (.cells #[.slice none 0 0] 90 (0, 0)))
 have hbm := heap_top (w6.alloc (.cells #[.slice none 0 0] 90 (0, 0))) (.cells #[.pointer (some ⟨q, 0, none⟩)] 81 (0, 0))
 have hu1 : Upd [] w ((w6.alloc (.cells #[.slice none 0 0] 90 (0, 0))).alloc (.cells #[.pointer (some ⟨q, 0, none⟩)] 81 (0, 0))) := ((HU.out.trans hv6).alloc _).alloc _
 rw [World.size_alloc] at hbm
 have hs6 : w.heap.size + 1 < w6.heap.size := Nat.lt_of_lt_of_le (lt_of_blk HB1.out) hv6.size
 generalize hWW : (w6.alloc (.cells #[.slice none 0 0] 90 (0, 0))).alloc (.cells #[.pointer (some ⟨q, 0, none⟩)] 81 (0, 0)) = W1 at *
 try simp only [World.size_alloc]
 clear hWW
 generalize w6.heap.size = Bl at *
 clear k0
 go_wp2_with fail
 refine (wpIn_wide (n := 6)).1 ?_
 have hsz : Bl + 1 < W1.heap.size := lt_of_blk hbm
 have hM := HM.out.keepU hu1
 refine wp_rangeU (gf := 137) (lb := #[.pointer (some ⟨Bl + 1, 0, none⟩)]) rfl (enters_of Tryz.func137 (by kernel_rfl) rfl)
  (all_seq 5 (Nat.le_refl _) (cell_blk hbm 0) hM hll hm) KpM.t (fun W l o o' _ ho hc => KpM.b W l o o' ho hc) (Upd.refl [] _) (fun _ => rfl)
  (fun pre W => ∃ v, TkSt w W1.heap.size Bl q base nv lv last v (takeR pre n) (markL now (takeR pre n)) (n - lenR pre) W)
  (fun c pre W => (c = .exit 1 ∧ n ≤ lenR pre) ∧ ∃ v, TkSt w W1.heap.size Bl q base nv lv last v (takeR pre n) (markL now (takeR pre n)) (n - lenR pre) W)
  (fun _ => Stab.ex fun _ => stab_tk (by omega))
  (fun _ _ => stab_pure.and (Stab.ex fun _ => stab_tk (by omega)))
  ⟨_, hm1, by simpa [lenR] using hn1, hl1, OwnG.nil _ _, hM, hu1.mono (by simp), Nat.le_refl _⟩
  (fun x a' W => ∃ (Bx : Nat) (vl : Value), (W1.heap.size ≤ Bx ∧ vl.ownBlock ≠ some Bx ∧ a' = { tmps := #[.pointer (some ⟨q, 0, none⟩), .int .i64 n, .pointer (some ⟨w.heap.size, 0, none⟩), .pointer (some ⟨w.heap.size + 1, 0, none⟩), .slice none 0 0, .int .i64 0, .pointer (some ⟨Bl, 0, none⟩), .pointer (some ⟨Bx, 0, none⟩), undef, .bool (decide ((n : Int) < 0)), .pointer (some ⟨q, 0, none⟩), .bool false, .bool false, .int .i64 n, .bool (decide ((n : Int) < 0)), .bool (decide ((n : Int) < 0)), .bool false, .int .i64 n, .pointer (some ⟨q, 0, none⟩), .int .i64 fr, .bool false, .pointer (some ⟨q, 0, none⟩), .func (.func 137) #[] #[.pointer (some ⟨Bl + 1, 0, none⟩)], .agg #[.int .i64 x.1, .int .i64 x.2], undef, undef, undef, undef, undef, undef, undef, undef, undef, undef, undef, undef, undef, undef, undef, undef, undef, undef, undef, undef, undef, undef, undef, undef, undef, undef, undef, undef, undef, undef, undef], defers := [] }) ∧ W.heap[Bx]? = some (.cells #[.int .i64 x.1, .int .i64 x.2] 148 (0, 0)) ∧ W.heap[Bl]? = some (.cells #[vl] 90 (0, 0)))
  (fun _ _ => Stab.ex fun _ => Stab.ex fun _ => stab_pure.and ((stab_blk rfl).and (stab_blk rfl)))
  ?assign ?body ?done ?stop
 case assign =>
  rintro l pre x W K ⟨v, hi⟩ hK
  gi_wp2
  exact hK _ _ (KeepsOthers.alloc _ _) (KpM.u ((Upd.refl [] W).alloc _)) ⟨v, hi.keep ((Upd.refl [] W).alloc _)⟩ ⟨W.heap.size, v, ⟨hi.sz, fun e => by have := (hi.o.block _ e).2; omega, rfl⟩, heap_top _ _, heap_keepA _ hi.l⟩
 case body =>
  rintro l pre x a' W ⟨v, hi⟩ ⟨Bx, vl, ⟨hBx, hvB, rfl⟩, hbx, hbl⟩ hpre
  obtain rfl : v = vl := by have := hi.l; rw [hbl] at this; simpa using this.symm
  clear hbl
  obtain ⟨av, cv, mv, hmv, rfl⟩ := hi.o.sliceM
  have HMV := Lib.hid hmv
  clear hmv
  have HI := Lib.hid hi
  have HP := Lib.hid hpre
  have cn := cell_blk hi.n 0
  simp only [List.getElem?_toArray, List.getElem?_cons_zero] at cn
  clear hpre
  by_cases hr0 : n ≤ lenR pre
  ·have e0 : n - lenR pre = 0 := by omega
   rw [e0] at cn
   clear hi
   gi_wp2
   refine ⟨KeepsOthers.refl _, ⟨rfl, by rw [lenR_snoc]; omega⟩, .slice av mv cv, ?_⟩
   rw [takeR_snoc, if_pos hr0, List.append_nil, show n - lenR (pre ++ [x]) = n - lenR pre by rw [lenR_snoc]; omega]
   exact HI.out
  ·obtain ⟨r, hr⟩ : ∃ r, r = n - lenR pre := ⟨_, rfl⟩
   rw [← hr] at cn
   have hr1 : 0 < r := by omega
   have hrn : ¬ (r : Int) = 0 := by omega
   have hrn2 : r ≠ 0 := by omega
   have hr5 : (r : Int) ≤ 512 := by omega
   have HRr := Lib.hid hr
   have HR0 := Lib.hid hr0
   have hle := lenR_pre HP.out
   rw [lenR_snoc] at hle
   have hx5 : (x.2 : Int) ≤ 512 := by have := HFR.out; have := HFR2.out; omega
   have d0 := cell_blk hbx 0
   have d1 := cell_blk hbx 1
   have g1 := frozen_blk hbx 1
   simp only [List.getElem?_toArray, List.getElem?_cons_zero, List.getElem?_cons_succ] at d0 d1
   clear hi hr hr0 hle
   have hbx2 : ∀ T : Nat, (W.setCell ⟨Bx, 1, none⟩ (.int .i64 T)).heap[Bx]? = some (.cells #[.int .i64 x.1, .int .i64 T] 148 (0, 0)) := fun T => by rw [heap_setCell, if_pos rfl, hbx]; rfl
   have hq := lt_of_blk HM.out.box
   have hnb : ∀ g, nv.ownBlock = some g → g < w.heap.size := fun g hg => (HM.out.now.block g hg).2
   have hlb : ∀ g, lv.ownBlock = some g → g < w.heap.size := fun g hg => (HM.out.last.block g hg).2
   have hst2 : ∀ T : Nat, TkSt w W1.heap.size Bl q base nv lv last (.slice av mv cv) (takeR pre n) (markL now (takeR pre n ++ [(x.1, 0)])) (n - lenR pre) (W.setCell ⟨Bx, 1, none⟩ (.int .i64 T)) := fun T => by
    rw [markL_zero]
    exact HI.out.new ((Upd.refl [Bx] W).setCell (by simp) _ _) (by omega) (by omega) hq hnb hlb hvB
   have hkp2 : ∀ T : Nat, KpM W1.heap.size W (W.setCell ⟨Bx, 1, none⟩ (.int .i64 T)) := fun T => KpM.set hbx (by decide) (by decide) _
   have hko2 : ∀ T : Nat, KeepsOthers W (W.setCell ⟨Bx, 1, none⟩ (.int .i64 T)) := fun T => KeepsOthers.setCell _ _ _
   have HS2 := Lib.hid fun T => And.intro (hbx2 T) (And.intro (hst2 T) (And.intro (hkp2 T) (hko2 T)))
   clear hbx2 hst2 hkp2 hko2 hbx
   have hml := markL_len now (takeR pre n)
   obtain ⟨hrow1, hrow2⟩ : 1 ≤ x.2 ∧ x.1 + x.2 ≤ now.length := frees_pos _ _ _ _ (HP.out.subset (by simp))
   obtain ⟨g, c, rfl, hgb, hgl, -, -⟩ := OwB.row HM.out.now (by omega)
   gi_wp2
   case' inr => obtain ⟨T, hT⟩ : ∃ T, T = x.2 := ⟨_, rfl⟩
   case' inl => obtain ⟨T, hT⟩ : ∃ T, T = r := ⟨_, rfl⟩
   all_goals
    have hTm : T = min x.2 r := by omega
    rw [← hT]
    have HTm := Lib.hid hTm
    have hTr : T ≤ r := by omega
    have hTx : T ≤ x.2 := by omega
    clear hT hTm
    obtain ⟨hbx2, hst2, hkp2, hko2⟩ := HS2.out T
    generalize W.setCell ⟨Bx, 1, none⟩ (.int .i64 T) = W2 at *
    gi_loopw [33] (fun v33 wr => ∃ i : Nat, v33 = .int .i64 i ∧ i ≤ T ∧ Hid (TkSt w W1.heap.size Bl q base (.slice (some ⟨g, 0, none⟩) now.length c) lv last (.slice av mv cv) (takeR pre n) (markL now (takeR pre n ++ [(x.1, i)])) (n - lenR pre) wr ∧
     wr.heap[Bx]? = some (.cells #[.int .i64 x.1, .int .i64 T] 148 (0, 0)) ∧ KpM W1.heap.size W wr ∧ KeepsOthers W wr)) (fun v33 _ => T - (intOf v33).toNat)
    case atStart => exact ⟨0, rfl, Nat.zero_le _, Lib.hid ⟨hst2, hbx2, hkp2, hko2⟩⟩
    case round =>
     obtain ⟨i, rfl, hi, HR⟩ := hrel
     clear hbx2 hst2 hkp2 hko2
     have k0 := cell_blk HR.out.1.m 0
     have k1 := cell_blk HR.out.1.map.box 0
     have k2 := cell_blk HR.out.2.1 0
     simp only [List.getElem?_toArray, List.getElem?_cons_zero] at k0 k1 k2
     by_cases hiT : i < T
     ·have hiT' : (i : Int) < (T : Int) := by omega
      have hT5 : (T : Int) ≤ 512 := by omega
      have hb5 : (x.1 : Int) + (i : Int) < (now.length : Int) := by omega
      have hml2 := markL_len now (takeR pre n ++ [(x.1, i)])
      obtain ⟨j, hj⟩ : ∃ j, j = x.1 + i := ⟨_, rfl⟩
      have hwr : IntKind.i64.wrap ((x.1 : Int) + (i : Int)) = (j : Int) := by rw [IntWalk.i64_in _ (by omega)]; omega
      have hj5 : (j : Int) < (now.length : Int) := by omega
      have hj6 : j < now.length := by omega
      have HJj := Lib.hid hj
      clear hj
      gi_wp2
      refine region_round (S := fun X => X.cell? ⟨w.heap.size, 0, none⟩ = some (.pointer (some ⟨q, 0, none⟩)) ∧ X.cell? ⟨q, 0, none⟩ = some (.slice (some ⟨g, 0, none⟩) now.length c) ∧ X.cell? ⟨Bx, 0, none⟩ = some (.int .i64 x.1)) (by kernel_rfl) (by kernel_rfl) (fun ⟨_, _, h⟩ => h) ⟨k0, k1, k2⟩ (fun hHeld => ?_)
      refine wpAnyH_take (i := 0) (oi := ⟨some 36, _, _, _, _, _⟩) (v := .pointer (some ⟨q, 0, none⟩)) rfl (by kernel_rfl) (by kernel_rfl) (by kernel_rfl) (fun _ _ _ h => h) (Or.inl ⟨by rfl, by (intro W hSW; obtain ⟨hS1, hS2, hS3⟩ := hSW; go_simp)⟩) hHeld ?_
      simp only [Act.put, List.setIfInBounds_toArray, List.set_cons_zero, List.set_cons_succ]
      refine wpAnyH_take (i := 1) (oi := ⟨some 37, _, _, _, _, _⟩) (v := .pointer (some ⟨q, 0, none⟩)) rfl (by kernel_rfl) (by kernel_rfl) (by kernel_rfl) (fun _ _ _ h => h) (Or.inl ⟨by rfl, by (intro W hSW; obtain ⟨hS1, hS2, hS3⟩ := hSW; go_simp)⟩) hHeld ?_
      simp only [Act.put, List.setIfInBounds_toArray, List.set_cons_zero, List.set_cons_succ]
      refine wpAnyH_take (i := 2) (oi := ⟨some 38, _, _, _, _, _⟩) (v := .pointer (some ⟨q, 0, none⟩)) rfl (by kernel_rfl) (by kernel_rfl) (by kernel_rfl) (fun _ _ _ h => h) (Or.inl ⟨by rfl, by (intro W hSW; obtain ⟨hS1, hS2, hS3⟩ := hSW; go_simp)⟩) hHeld ?_
      simp only [Act.put, List.setIfInBounds_toArray, List.set_cons_zero, List.set_cons_succ]
      refine wpAnyH_take (i := 3) (oi := ⟨some 39, _, _, _, _, _⟩) (v := .slice (some ⟨g, 0, none⟩) now.length c) rfl (by kernel_rfl) (by kernel_rfl) (by kernel_rfl) (fun _ _ _ h => h) (Or.inl ⟨by rfl, by (intro W hSW; obtain ⟨hS1, hS2, hS3⟩ := hSW; go_simp)⟩) hHeld ?_
      simp only [Act.put, List.setIfInBounds_toArray, List.set_cons_zero, List.set_cons_succ]
      refine wpAnyH_take (i := 4) (oi := ⟨some 40, _, _, _, _, _⟩) (v := .pointer (some ⟨Bx, 0, none⟩)) rfl (by kernel_rfl) (by kernel_rfl) (by kernel_rfl) (fun _ _ _ h => h) (Or.inl ⟨by rfl, by (intro W hSW; obtain ⟨hS1, hS2, hS3⟩ := hSW; go_simp)⟩) hHeld ?_
      simp only [Act.put, List.setIfInBounds_toArray, List.set_cons_zero, List.set_cons_succ]
      refine wpAnyH_take (i := 5) (oi := ⟨some 41, _, _, _, _, _⟩) (v := .int .i64 x.1) rfl (by kernel_rfl) (by kernel_rfl) (by kernel_rfl) (fun _ _ _ h => h) (Or.inl ⟨by rfl, by (intro W hSW; obtain ⟨hS1, hS2, hS3⟩ := hSW; go_simp)⟩) hHeld ?_
      simp only [Act.put, List.setIfInBounds_toArray, List.set_cons_zero, List.set_cons_succ]
      refine wpAnyH_take (i := 6) (oi := ⟨some 42, _, _, _, _, _⟩) (v := .int .i64 i) rfl (by kernel_rfl) (by kernel_rfl) (by kernel_rfl) (fun _ _ _ h => h) (Or.inl ⟨by rfl, by (intro W hSW; obtain ⟨hS1, hS2, hS3⟩ := hSW; go_simp)⟩) hHeld ?_
      simp only [Act.put, List.setIfInBounds_toArray, List.set_cons_zero, List.set_cons_succ]
      refine wpAnyH_take (i := 7) (oi := ⟨some 43, _, _, _, _, _⟩) (v := .int .i64 j) rfl (by kernel_rfl) (by kernel_rfl) (by kernel_rfl) (fun _ _ _ h => h) (Or.inl ⟨by rfl, by (intro W hSW; obtain ⟨hS1, hS2, hS3⟩ := hSW; go_simp)⟩) hHeld ?_
      simp only [Act.put, List.setIfInBounds_toArray, List.set_cons_zero, List.set_cons_succ]
      refine wpAnyH_take (i := 8) (oi := ⟨some 44, _, _, _, _, _⟩) (v := .pointer (some ⟨g, j, none⟩)) rfl (by kernel_rfl) (by kernel_rfl) (by kernel_rfl) (fun _ _ _ h => h) (Or.inl ⟨by rfl, by (intro W hSW; obtain ⟨hS1, hS2, hS3⟩ := hSW; go_simp)⟩) hHeld ?_
      simp only [Act.put, List.setIfInBounds_toArray, List.set_cons_zero, List.set_cons_succ]
      obtain ⟨cur, hcur, hcl⟩ : ∃ cur, wr.drew.heap[g]? = some (.cells cur 4 (0, 0)) ∧ now.length ≤ cur.size := by
       have hm0 := HR.out.1.map.now
       obtain ⟨g', c', hv', -, -, -, cur, h1, h2⟩ := OwB.row hm0 (by rw [hml2]; omega)
       simp only [Value.slice.injEq, Option.some.injEq, Addr.mk.injEq] at hv'
       obtain ⟨⟨rfl, -, -⟩, -, -⟩ := hv'
       exact ⟨cur, h1, by rw [← hml2]; exact h2⟩
      have kg : wr.drew.cell? ⟨g, j, none⟩ = some cur[j] := by rw [cell_blk hcur]; exact Array.getElem?_eq_getElem (by omega)
      have fg := frozen_blk hcur j
      refine wpAnyH_ready (rs := [9]) (by kernel_rfl) (by simp) ?_
      refine AllReadyH.cons (o := ⟨none, _, _, _, _, _⟩) rfl (fun K hK => ?_) AllReadyH.nil
      go_simp
      have hqg : q ≠ g := fun e => HM.out.ne1 g rfl e.symm
      refine hK.out _ _ ⟨?_, ?_, ?_⟩ (fun _ => ?_)
      ·show (wr.setCell _ _).cell? _ = _; rw [World.cell?_setCell_far _ _ _ _ (fun e => by dsimp only at e; omega)]; exact k0
      ·show (wr.setCell _ _).cell? _ = _; rw [World.cell?_setCell_far _ _ _ _ (fun e => by dsimp only at e; omega)]; exact k1
      ·show (wr.setCell _ _).cell? _ = _; rw [World.cell?_setCell_far _ _ _ _ (fun e => by dsimp only at e; omega)]; exact k2
      clear hK K
      try simp only [Act.put, List.setIfInBounds_toArray, List.set_cons_zero, List.set_cons_succ]
      refine wpAnyH_done (by kernel_rfl) ?_ _
      gi_wp2
      go_roundw
      case rel =>
       refine ⟨i + 1, by simp, by omega, Lib.hid ⟨?_, ?_, HR.out.2.2.1.t (KpM.t (B := wr.setCell ⟨g, j, none⟩ (.bool true)) (KpM.low (by omega) _) (KpM.u (Upd.refl [] _).drew)), HR.out.2.2.2.trans ((KeepsOthers.setCell _ _ _).trans (KeepsOthers.of_upd (Upd.refl [] _).drew (by simp)))⟩⟩
       ·rw [markL_succ, ← HJj.out]
        exact (HR.out.1.mark (by omega) (by omega) j (by rw [hml2]; omega)).keep (Upd.refl [] _).drew
       ·show (wr.setCell _ _).heap[_]? = _; rw [heap_setCell, if_neg (by omega)]; exact HR.out.2.1
      case measure => simp only [intOf]; omega
     ·obtain rfl : i = T := by omega
      have hiT' : ¬ (i : Int) < (i : Int) := by omega
      have k3 := cell_blk HR.out.2.1 1
      have k4 := cell_blk HR.out.1.l 0
      have k5 := cell_blk HR.out.1.n 0
      rw [← HRr.out] at k5
      simp only [List.getElem?_toArray, List.getElem?_cons_zero, List.getElem?_cons_succ] at k3 k4 k5
      obtain ⟨d, hd⟩ : ∃ d, d = r - i := ⟨_, rfl⟩
      have hwd : IntKind.i64.wrap ((r : Int) - (i : Int)) = (d : Int) := by rw [IntWalk.i64_in _ (by omega)]; omega
      have HD := Lib.hid hd
      clear hd
      have hUa : Upd [] wr (wr.alloc (.cells #[.int .i64 x.1, .int .i64 i] 148 (0, 0))).drew := ((Upd.refl [] wr).alloc _).drew
      have HOW := Lib.hid (HR.out.1.o.upd hUa (by simp))
      have HSRC : Hid (SrcG cR (wr.alloc (.cells #[.int .i64 x.1, .int .i64 i] 148 (0, 0))).drew (some ⟨wr.heap.size, 0, none⟩) [(x.1, i)]) := Lib.hid (src_new TR (ty := 148) (heap_top _ _))
      have htl := takeR_len pre n
      have HTL : Hid ((takeR pre n).length ≤ 1000) := Lib.hid (by
       have h1 := len_lenR (l := pre) fun r hr => (frees_pos _ _ _ r (HP.out.subset (by simp [hr]))).1
       have h2 := lenR_pre HP.out
       rw [lenR_snoc, HFR.out] at h2
       have := HFR2.out
       omega)
      have HBS : Hid (w.heap.size ≤ (wr.alloc (.cells #[.int .i64 x.1, .int .i64 i] 148 (0, 0))).drew.heap.size) := Lib.hid (Nat.le_trans HR.out.1.upd.size hUa.size)
      have HS1 : Hid ((wr.alloc (.cells #[.int .i64 x.1, .int .i64 i] 148 (0, 0))).drew.cell? ⟨Bx, 0, none⟩ = some (.int .i64 x.1) ∧ (wr.alloc (.cells #[.int .i64 x.1, .int .i64 i] 148 (0, 0))).drew.cell? ⟨Bx, 1, none⟩ = some (.int .i64 i)) := Lib.hid ⟨cell_keep hUa k2, cell_keep hUa k3⟩
      have hj1 := cell_keep hUa k4
      have hj2 := cell_keep hUa k5
      have HKP : Hid (∀ w7, (wr.alloc (.cells #[.int .i64 x.1, .int .i64 i] 148 (0, 0))).drew.grownBy w7 (Value.slice av mv cv).ownBlock → (w7.cell? ⟨Bx, 0, none⟩ = some (.int .i64 x.1) ∧ w7.cell? ⟨Bx, 1, none⟩ = some (.int .i64 i)) ∧ (w7.cell? ⟨Bl, 0, none⟩ = some (.slice av mv cv) ∧ w7.frozen? ⟨Bl, 0, none⟩ = false) ∧ w7.cell? ⟨w.heap.size + 1, 0, none⟩ = some (.int .i64 r) ∧ w7.frozen? ⟨w.heap.size + 1, 0, none⟩ = false) := Lib.hid (by
       intro w7 hg7
       have hu7 := Upd.of_grown hg7
       have hA := HR.out.1.keep hUa
       have e1 := (hu7.block _ (lt_of_blk hA.l) (fun hj => own_ne hA.o hA.l (by decide) (by simpa using hj))).trans hA.l
       have e2 := (hu7.block _ (lt_of_blk hA.n) (fun hj => own_ne hA.o hA.n (by decide) (by simpa using hj))).trans hA.n
       have e3 := heap_keepU hUa HR.out.2.1
       have e4 := (hu7.block _ (lt_of_blk e3) (fun hj => hvB (by simpa using hj))).trans e3
       rw [← HRr.out] at e2
       exact ⟨⟨cell_blk e4 0, cell_blk e4 1⟩, ⟨cell_blk e1 0, frozen_blk e1 0⟩, cell_blk e2 0, frozen_blk e2 0⟩)
      have HS8 : Hid (∀ (w7 : World) (v : Value), w7.cell? ⟨Bx, 0, none⟩ = some (.int .i64 x.1) → w7.cell? ⟨Bx, 1, none⟩ = some (.int .i64 i) → (w7.setCell ⟨Bl, 0, none⟩ v).cell? ⟨Bx, 0, none⟩ = some (.int .i64 x.1) ∧ (w7.setCell ⟨Bl, 0, none⟩ v).cell? ⟨Bx, 1, none⟩ = some (.int .i64 i)) := Lib.hid (by
       intro w7 v h1 h2
       exact ⟨(World.cell?_setCell_far _ _ _ _ (fun e => by dsimp only at e; omega)).trans h1, (World.cell?_setCell_far _ _ _ _ (fun e => by dsimp only at e; omega)).trans h2⟩)
      have HS9 : Hid (∀ (w7 : World) (v u : Value), w7.cell? ⟨Bx, 0, none⟩ = some (.int .i64 x.1) → w7.cell? ⟨Bx, 1, none⟩ = some (.int .i64 i) → ((w7.setCell ⟨Bl, 0, none⟩ v).setCell ⟨w.heap.size + 1, 0, none⟩ u).cell? ⟨Bx, 0, none⟩ = some (.int .i64 x.1) ∧ ((w7.setCell ⟨Bl, 0, none⟩ v).setCell ⟨w.heap.size + 1, 0, none⟩ u).cell? ⟨Bx, 1, none⟩ = some (.int .i64 i)) := Lib.hid (by
       intro w7 v u h1 h2
       exact ⟨((World.cell?_setCell_far _ _ _ _ (fun e => by dsimp only at e; omega)).trans (World.cell?_setCell_far _ _ _ _ (fun e => by dsimp only at e; omega))).trans h1, ((World.cell?_setCell_far _ _ _ _ (fun e => by dsimp only at e; omega)).trans (World.cell?_setCell_far _ _ _ _ (fun e => by dsimp only at e; omega))).trans h2⟩)
      have HEND : ∀ v7 w7, OwnG cR 148 2 w7 w.heap.size v7 (takeR pre n ++ [(x.1, i)]) → (wr.alloc (.cells #[.int .i64 x.1, .int .i64 i] 148 (0, 0))).drew.grownBy w7 (Value.slice av mv cv).ownBlock → (v7.ownBlock = (Value.slice av mv cv).ownBlock ∨ ∀ g, v7.ownBlock = some g → (wr.alloc (.cells #[.int .i64 x.1, .int .i64 i] 148 (0, 0))).drew.heap.size ≤ g) →
        KeepsOthers W ((w7.setCell ⟨Bl, 0, none⟩ v7).setCell ⟨w.heap.size + 1, 0, none⟩ (.int .i64 d)) ∧ KpM W1.heap.size W ((w7.setCell ⟨Bl, 0, none⟩ v7).setCell ⟨w.heap.size + 1, 0, none⟩ (.int .i64 d)) ∧ ∃ v', TkSt w W1.heap.size Bl q base (.slice (some ⟨g, 0, none⟩) now.length c) lv last v' (takeR (pre ++ [x]) n) (markL now (takeR (pre ++ [x]) n)) (n - lenR (pre ++ [x])) ((w7.setCell ⟨Bl, 0, none⟩ v7).setCell ⟨w.heap.size + 1, 0, none⟩ (.int .i64 d)) := by
       intro v7 w7 ho7 hg7 hn7
       obtain ⟨-, h1, h2, h3⟩ := (HR.out.1.keep hUa).app (d := d) hs6 hq hnb hlb ho7 hg7
       refine ⟨HR.out.2.2.2.trans ((KeepsOthers.of_upd hUa (by simp)).trans h2), HR.out.2.2.1.t ((KpM.u hUa).t (h3 _)), v7, ?_⟩
       have e1 : takeR (pre ++ [x]) n = takeR pre n ++ [(x.1, i)] := by
        have h5 := HR0.out
        have h6 := HTm.out
        have h7 := HRr.out
        rw [takeR_snoc, if_neg h5, ← h7, ← h6]
       have e2 : n - lenR (pre ++ [x]) = d := by
        rw [lenR_snoc]
        have h6 := HTm.out
        have h7 := HRr.out
        have h8 := HD.out
        omega
       rw [e1, e2]
       exact h1
      gi_wp2
      refine region_round (S := fun X => X.cell? ⟨Bx, 0, none⟩ = some (.int .i64 x.1) ∧ X.cell? ⟨Bx, 1, none⟩ = some (.int .i64 i)) (by kernel_rfl) (by kernel_rfl) (fun ⟨_, _, h⟩ => h) ⟨k2, k3⟩ (fun hHeld => ?_)
      refine wpAnyH_take (i := 1) (oi := ⟨some 47, _, _, _, _, _⟩) (v := .agg #[.int .i64 x.1, .int .i64 i]) rfl (by kernel_rfl) (by kernel_rfl) (by kernel_rfl) (fun _ _ _ h => h) (Or.inl ⟨by rfl, by (intro W hSW; obtain ⟨hS1, hS2⟩ := hSW; go_simp)⟩) (by assumption) ?_
      simp only [Act.put, List.setIfInBounds_toArray, List.set_cons_zero, List.set_cons_succ]
      refine wpAnyH_take (i := 5) (oi := ⟨some 51, _, _, _, _, _⟩) (v := .pointer (some ⟨Bx, 1, none⟩)) rfl (by kernel_rfl) (by kernel_rfl) (by kernel_rfl) (fun _ _ _ h => h) (Or.inl ⟨by rfl, by (intro W hSW; obtain ⟨hS1, hS2⟩ := hSW; go_simp)⟩) (by assumption) ?_
      simp only [Act.put, List.setIfInBounds_toArray, List.set_cons_zero, List.set_cons_succ]
      refine wpAnyH_take (i := 6) (oi := ⟨some 52, _, _, _, _, _⟩) (v := .int .i64 i) rfl (by kernel_rfl) (by kernel_rfl) (by kernel_rfl) (fun _ _ _ h => h) (Or.inl ⟨by rfl, by (intro W hSW; obtain ⟨hS1, hS2⟩ := hSW; go_simp)⟩) (by assumption) ?_
      simp only [Act.put, List.setIfInBounds_toArray, List.set_cons_zero, List.set_cons_succ]
      refine wpAnyH_ready (rs := [0, 2, 4]) (by kernel_rfl) (by simp) ?_
      refine AllReadyH.cons (o := ⟨some 46, _, _, _, _, _⟩) rfl (fun K hK => ?_) (AllReadyH.cons (o := ⟨some 48, _, _, _, _, _⟩) rfl (fun K hK => ?_) (AllReadyH.cons (o := ⟨some 50, _, _, _, _, _⟩) rfl (fun K hK => ?_) AllReadyH.nil))
      ·go_simp
       refine hK.out _ _ (⟨k2, k3⟩) (fun _ => ?_)
       clear hK K
       try simp only [Act.put, List.setIfInBounds_toArray, List.set_cons_zero, List.set_cons_succ]
       refine wpAnyH_ready (rs := [2, 4]) (by kernel_rfl) (by simp) ?_
       refine AllReadyH.cons (o := ⟨some 48, _, _, _, _, _⟩) rfl (fun K hK => ?_) (AllReadyH.cons (o := ⟨some 50, _, _, _, _, _⟩) rfl (fun K hK => ?_) AllReadyH.nil)
       ·go_simp
        refine hK.out _ _ (HS1.out) (fun _ => ?_)
        clear hK K
        try simp only [Act.put, List.setIfInBounds_toArray, List.set_cons_zero, List.set_cons_succ]
        refine wpAnyH_ready (rs := [3, 4]) (by kernel_rfl) (by simp) ?_
        refine AllReadyH.cons (o := ⟨some 49, _, _, _, _, _⟩) rfl (fun K hK => ?_) (AllReadyH.cons (o := ⟨some 50, _, _, _, _, _⟩) rfl (fun K hK => ?_) AllReadyH.nil)
        ·refine step_append_G TR (by rfl) _ _ (by rfl) (base := w.heap.size) (v := .slice av mv cv) (l := takeR pre n) (A := some ⟨wr.heap.size, 0, none⟩) (c := 1) (r := [(x.1, i)]) (by rfl) (HOW.out) (by rfl) HSRC.out (oneR _) ?_ ?_ ?_ ?_
         ·have := HTL.out; simp; omega
         ·have := HTL.out; simp; omega
         ·exact HBS.out
         intro v7 w7 ho7 hg7 hn7
         obtain ⟨⟨z0, z1⟩, ⟨z2, y2⟩, z3, y3⟩ := HKP.out w7 hg7
         obtain ⟨a7, c7, m7, hm7, rfl⟩ := ho7.sliceM; clear hm7
         refine hK.out _ _ (⟨z0, z1⟩) (fun _ => ?_)
         clear hK K
         try simp only [Act.put, List.setIfInBounds_toArray, List.set_cons_zero, List.set_cons_succ]
         refine wpAnyH_ready (rs := [4, 8]) (by kernel_rfl) (by simp) ?_
         refine AllReadyH.cons (o := ⟨some 50, _, _, _, _, _⟩) rfl (fun K hK => ?_) (AllReadyH.cons (o := ⟨none, _, _, _, _, _⟩) rfl (fun K hK => ?_) AllReadyH.nil)
         ·go_simp
          refine hK.out _ _ (⟨z0, z1⟩) (fun _ => ?_)
          clear hK K
          try simp only [Act.put, List.setIfInBounds_toArray, List.set_cons_zero, List.set_cons_succ]
          refine wpAnyH_take (i := 7) (oi := ⟨some 53, _, _, _, _, _⟩) (v := .int .i64 d) rfl (by kernel_rfl) (by kernel_rfl) (by kernel_rfl) (fun _ _ _ h => h) (Or.inl ⟨by rfl, by (intro W hSW; obtain ⟨hS1, hS2⟩ := hSW; go_simp)⟩) (by assumption) ?_
          simp only [Act.put, List.setIfInBounds_toArray, List.set_cons_zero, List.set_cons_succ]
          refine wpAnyH_ready (rs := [8]) (by kernel_rfl) (by simp) ?_
          refine AllReadyH.cons (o := ⟨none, _, _, _, _, _⟩) rfl (fun K hK => ?_) AllReadyH.nil
          ·go_simp
           refine hK.out _ _ (HS8.out _ _ z0 z1) (fun _ => ?_)
           clear hK K
           try simp only [Act.put, List.setIfInBounds_toArray, List.set_cons_zero, List.set_cons_succ]
           refine wpAnyH_ready (rs := [9]) (by kernel_rfl) (by simp) ?_
           refine AllReadyH.cons (o := ⟨none, _, _, _, _, _⟩) rfl (fun K hK => ?_) AllReadyH.nil
           ·go_simp
            refine hK.out _ _ (HS9.out _ _ _ z0 z1) (fun _ => ?_)
            clear hK K
            try simp only [Act.put, List.setIfInBounds_toArray, List.set_cons_zero, List.set_cons_succ]
            refine wpAnyH_done (by kernel_rfl) ?_ _
            exact HEND _ _ ho7 hg7 hn7
         ·go_simp
          refine hK.out _ _ (HS8.out _ _ z0 z1) (fun _ => ?_)
          clear hK K
          try simp only [Act.put, List.setIfInBounds_toArray, List.set_cons_zero, List.set_cons_succ]
          refine wpAnyH_ready (rs := [4]) (by kernel_rfl) (by simp) ?_
          refine AllReadyH.cons (o := ⟨some 50, _, _, _, _, _⟩) rfl (fun K hK => ?_) AllReadyH.nil
          ·go_simp
           refine hK.out _ _ (HS8.out _ _ z0 z1) (fun _ => ?_)
           clear hK K
           try simp only [Act.put, List.setIfInBounds_toArray, List.set_cons_zero, List.set_cons_succ]
           refine wpAnyH_take (i := 7) (oi := ⟨some 53, _, _, _, _, _⟩) (v := .int .i64 d) rfl (by kernel_rfl) (by kernel_rfl) (by kernel_rfl) (fun _ _ _ h => h) (Or.inl ⟨by rfl, by (intro W hSW; obtain ⟨hS1, hS2⟩ := hSW; go_simp)⟩) (by assumption) ?_
           simp only [Act.put, List.setIfInBounds_toArray, List.set_cons_zero, List.set_cons_succ]
           refine wpAnyH_ready (rs := [9]) (by kernel_rfl) (by simp) ?_
           refine AllReadyH.cons (o := ⟨none, _, _, _, _, _⟩) rfl (fun K hK => ?_) AllReadyH.nil
           ·go_simp
            refine hK.out _ _ (HS9.out _ _ _ z0 z1) (fun _ => ?_)
            clear hK K
            try simp only [Act.put, List.setIfInBounds_toArray, List.set_cons_zero, List.set_cons_succ]
            refine wpAnyH_done (by kernel_rfl) ?_ _
            exact HEND _ _ ho7 hg7 hn7
        ·go_simp
         refine hK.out _ _ (HS1.out) (fun _ => ?_)
         clear hK K
         try simp only [Act.put, List.setIfInBounds_toArray, List.set_cons_zero, List.set_cons_succ]
         refine wpAnyH_take (i := 7) (oi := ⟨some 53, _, _, _, _, _⟩) (v := .int .i64 d) rfl (by kernel_rfl) (by kernel_rfl) (by kernel_rfl) (fun _ _ _ h => h) (Or.inl ⟨by rfl, by (intro W hSW; obtain ⟨hS1, hS2⟩ := hSW; go_simp)⟩) (by assumption) ?_
         simp only [Act.put, List.setIfInBounds_toArray, List.set_cons_zero, List.set_cons_succ]
         refine wpAnyH_ready (rs := [3]) (by kernel_rfl) (by simp) ?_
         refine AllReadyH.cons (o := ⟨some 49, _, _, _, _, _⟩) rfl (fun K hK => ?_) AllReadyH.nil
         ·refine step_append_G TR (by rfl) _ _ (by rfl) (base := w.heap.size) (v := .slice av mv cv) (l := takeR pre n) (A := some ⟨wr.heap.size, 0, none⟩) (c := 1) (r := [(x.1, i)]) (by rfl) (HOW.out) (by rfl) HSRC.out (oneR _) ?_ ?_ ?_ ?_
          ·have := HTL.out; simp; omega
          ·have := HTL.out; simp; omega
          ·exact HBS.out
          intro v7 w7 ho7 hg7 hn7
          obtain ⟨⟨z0, z1⟩, ⟨z2, y2⟩, z3, y3⟩ := HKP.out w7 hg7
          obtain ⟨a7, c7, m7, hm7, rfl⟩ := ho7.sliceM; clear hm7
          refine hK.out _ _ (⟨z0, z1⟩) (fun _ => ?_)
          clear hK K
          try simp only [Act.put, List.setIfInBounds_toArray, List.set_cons_zero, List.set_cons_succ]
          refine wpAnyH_ready (rs := [8]) (by kernel_rfl) (by simp) ?_
          refine AllReadyH.cons (o := ⟨none, _, _, _, _, _⟩) rfl (fun K hK => ?_) AllReadyH.nil
          ·go_simp
           refine hK.out _ _ (HS8.out _ _ z0 z1) (fun _ => ?_)
           clear hK K
           try simp only [Act.put, List.setIfInBounds_toArray, List.set_cons_zero, List.set_cons_succ]
           refine wpAnyH_ready (rs := [9]) (by kernel_rfl) (by simp) ?_
           refine AllReadyH.cons (o := ⟨none, _, _, _, _, _⟩) rfl (fun K hK => ?_) AllReadyH.nil
           ·go_simp
            refine hK.out _ _ (HS9.out _ _ _ z0 z1) (fun _ => ?_)
            clear hK K
            try simp only [Act.put, List.setIfInBounds_toArray, List.set_cons_zero, List.set_cons_succ]
            refine wpAnyH_done (by kernel_rfl) ?_ _
            exact HEND _ _ ho7 hg7 hn7
       ·go_simp
        refine hK.out _ _ (⟨k2, k3⟩) (fun _ => ?_)
        clear hK K
        try simp only [Act.put, List.setIfInBounds_toArray, List.set_cons_zero, List.set_cons_succ]
        refine wpAnyH_take (i := 7) (oi := ⟨some 53, _, _, _, _, _⟩) (v := .int .i64 d) rfl (by kernel_rfl) (by kernel_rfl) (by kernel_rfl) (fun _ _ _ h => h) (Or.inl ⟨by rfl, by (intro W hSW; obtain ⟨hS1, hS2⟩ := hSW; go_simp)⟩) (by assumption) ?_
        simp only [Act.put, List.setIfInBounds_toArray, List.set_cons_zero, List.set_cons_succ]
        refine wpAnyH_ready (rs := [2]) (by kernel_rfl) (by simp) ?_
        refine AllReadyH.cons (o := ⟨some 48, _, _, _, _, _⟩) rfl (fun K hK => ?_) AllReadyH.nil
        ·go_simp
         refine hK.out _ _ (HS1.out) (fun _ => ?_)
         clear hK K
         try simp only [Act.put, List.setIfInBounds_toArray, List.set_cons_zero, List.set_cons_succ]
         refine wpAnyH_ready (rs := [3]) (by kernel_rfl) (by simp) ?_
         refine AllReadyH.cons (o := ⟨some 49, _, _, _, _, _⟩) rfl (fun K hK => ?_) AllReadyH.nil
         ·refine step_append_G TR (by rfl) _ _ (by rfl) (base := w.heap.size) (v := .slice av mv cv) (l := takeR pre n) (A := some ⟨wr.heap.size, 0, none⟩) (c := 1) (r := [(x.1, i)]) (by rfl) (HOW.out) (by rfl) HSRC.out (oneR _) ?_ ?_ ?_ ?_
          ·have := HTL.out; simp; omega
          ·have := HTL.out; simp; omega
          ·exact HBS.out
          intro v7 w7 ho7 hg7 hn7
          obtain ⟨⟨z0, z1⟩, ⟨z2, y2⟩, z3, y3⟩ := HKP.out w7 hg7
          obtain ⟨a7, c7, m7, hm7, rfl⟩ := ho7.sliceM; clear hm7
          refine hK.out _ _ (⟨z0, z1⟩) (fun _ => ?_)
          clear hK K
          try simp only [Act.put, List.setIfInBounds_toArray, List.set_cons_zero, List.set_cons_succ]
          refine wpAnyH_ready (rs := [8]) (by kernel_rfl) (by simp) ?_
          refine AllReadyH.cons (o := ⟨none, _, _, _, _, _⟩) rfl (fun K hK => ?_) AllReadyH.nil
          ·go_simp
           refine hK.out _ _ (HS8.out _ _ z0 z1) (fun _ => ?_)
           clear hK K
           try simp only [Act.put, List.setIfInBounds_toArray, List.set_cons_zero, List.set_cons_succ]
           refine wpAnyH_ready (rs := [9]) (by kernel_rfl) (by simp) ?_
           refine AllReadyH.cons (o := ⟨none, _, _, _, _, _⟩) rfl (fun K hK => ?_) AllReadyH.nil
           ·go_simp
            refine hK.out _ _ (HS9.out _ _ _ z0 z1) (fun _ => ?_)
            clear hK K
            try simp only [Act.put, List.setIfInBounds_toArray, List.set_cons_zero, List.set_cons_succ]
            refine wpAnyH_done (by kernel_rfl) ?_ _
            exact HEND _ _ ho7 hg7 hn7
      ·go_simp
       refine hK.out _ _ (HS1.out) (fun _ => ?_)
       clear hK K
       try simp only [Act.put, List.setIfInBounds_toArray, List.set_cons_zero, List.set_cons_succ]
       refine wpAnyH_ready (rs := [0, 4]) (by kernel_rfl) (by simp) ?_
       refine AllReadyH.cons (o := ⟨some 46, _, _, _, _, _⟩) rfl (fun K hK => ?_) (AllReadyH.cons (o := ⟨some 50, _, _, _, _, _⟩) rfl (fun K hK => ?_) AllReadyH.nil)
       ·go_simp
        refine hK.out _ _ (HS1.out) (fun _ => ?_)
        clear hK K
        try simp only [Act.put, List.setIfInBounds_toArray, List.set_cons_zero, List.set_cons_succ]
        refine wpAnyH_ready (rs := [3, 4]) (by kernel_rfl) (by simp) ?_
        refine AllReadyH.cons (o := ⟨some 49, _, _, _, _, _⟩) rfl (fun K hK => ?_) (AllReadyH.cons (o := ⟨some 50, _, _, _, _, _⟩) rfl (fun K hK => ?_) AllReadyH.nil)
        ·refine step_append_G TR (by rfl) _ _ (by rfl) (base := w.heap.size) (v := .slice av mv cv) (l := takeR pre n) (A := some ⟨wr.heap.size, 0, none⟩) (c := 1) (r := [(x.1, i)]) (by rfl) (HOW.out) (by rfl) HSRC.out (oneR _) ?_ ?_ ?_ ?_
         ·have := HTL.out; simp; omega
         ·have := HTL.out; simp; omega
         ·exact HBS.out
         intro v7 w7 ho7 hg7 hn7
         obtain ⟨⟨z0, z1⟩, ⟨z2, y2⟩, z3, y3⟩ := HKP.out w7 hg7
         obtain ⟨a7, c7, m7, hm7, rfl⟩ := ho7.sliceM; clear hm7
         refine hK.out _ _ (⟨z0, z1⟩) (fun _ => ?_)
         clear hK K
         try simp only [Act.put, List.setIfInBounds_toArray, List.set_cons_zero, List.set_cons_succ]
         refine wpAnyH_ready (rs := [4, 8]) (by kernel_rfl) (by simp) ?_
         refine AllReadyH.cons (o := ⟨some 50, _, _, _, _, _⟩) rfl (fun K hK => ?_) (AllReadyH.cons (o := ⟨none, _, _, _, _, _⟩) rfl (fun K hK => ?_) AllReadyH.nil)
         ·go_simp
          refine hK.out _ _ (⟨z0, z1⟩) (fun _ => ?_)
          clear hK K
          try simp only [Act.put, List.setIfInBounds_toArray, List.set_cons_zero, List.set_cons_succ]
          refine wpAnyH_take (i := 7) (oi := ⟨some 53, _, _, _, _, _⟩) (v := .int .i64 d) rfl (by kernel_rfl) (by kernel_rfl) (by kernel_rfl) (fun _ _ _ h => h) (Or.inl ⟨by rfl, by (intro W hSW; obtain ⟨hS1, hS2⟩ := hSW; go_simp)⟩) (by assumption) ?_
          simp only [Act.put, List.setIfInBounds_toArray, List.set_cons_zero, List.set_cons_succ]
          refine wpAnyH_ready (rs := [8]) (by kernel_rfl) (by simp) ?_
          refine AllReadyH.cons (o := ⟨none, _, _, _, _, _⟩) rfl (fun K hK => ?_) AllReadyH.nil
          ·go_simp
           refine hK.out _ _ (HS8.out _ _ z0 z1) (fun _ => ?_)
           clear hK K
           try simp only [Act.put, List.setIfInBounds_toArray, List.set_cons_zero, List.set_cons_succ]
           refine wpAnyH_ready (rs := [9]) (by kernel_rfl) (by simp) ?_
           refine AllReadyH.cons (o := ⟨none, _, _, _, _, _⟩) rfl (fun K hK => ?_) AllReadyH.nil
           ·go_simp
            refine hK.out _ _ (HS9.out _ _ _ z0 z1) (fun _ => ?_)
            clear hK K
            try simp only [Act.put, List.setIfInBounds_toArray, List.set_cons_zero, List.set_cons_succ]
            refine wpAnyH_done (by kernel_rfl) ?_ _
            exact HEND _ _ ho7 hg7 hn7
         ·go_simp
          refine hK.out _ _ (HS8.out _ _ z0 z1) (fun _ => ?_)
          clear hK K
          try simp only [Act.put, List.setIfInBounds_toArray, List.set_cons_zero, List.set_cons_succ]
          refine wpAnyH_ready (rs := [4]) (by kernel_rfl) (by simp) ?_
          refine AllReadyH.cons (o := ⟨some 50, _, _, _, _, _⟩) rfl (fun K hK => ?_) AllReadyH.nil
          ·go_simp
           refine hK.out _ _ (HS8.out _ _ z0 z1) (fun _ => ?_)
           clear hK K
           try simp only [Act.put, List.setIfInBounds_toArray, List.set_cons_zero, List.set_cons_succ]
           refine wpAnyH_take (i := 7) (oi := ⟨some 53, _, _, _, _, _⟩) (v := .int .i64 d) rfl (by kernel_rfl) (by kernel_rfl) (by kernel_rfl) (fun _ _ _ h => h) (Or.inl ⟨by rfl, by (intro W hSW; obtain ⟨hS1, hS2⟩ := hSW; go_simp)⟩) (by assumption) ?_
           simp only [Act.put, List.setIfInBounds_toArray, List.set_cons_zero, List.set_cons_succ]
           refine wpAnyH_ready (rs := [9]) (by kernel_rfl) (by simp) ?_
           refine AllReadyH.cons (o := ⟨none, _, _, _, _, _⟩) rfl (fun K hK => ?_) AllReadyH.nil
           ·go_simp
            refine hK.out _ _ (HS9.out _ _ _ z0 z1) (fun _ => ?_)
            clear hK K
            try simp only [Act.put, List.setIfInBounds_toArray, List.set_cons_zero, List.set_cons_succ]
            refine wpAnyH_done (by kernel_rfl) ?_ _
            exact HEND _ _ ho7 hg7 hn7
        ·go_simp
         refine hK.out _ _ (HS1.out) (fun _ => ?_)
         clear hK K
         try simp only [Act.put, List.setIfInBounds_toArray, List.set_cons_zero, List.set_cons_succ]
         refine wpAnyH_take (i := 7) (oi := ⟨some 53, _, _, _, _, _⟩) (v := .int .i64 d) rfl (by kernel_rfl) (by kernel_rfl) (by kernel_rfl) (fun _ _ _ h => h) (Or.inl ⟨by rfl, by (intro W hSW; obtain ⟨hS1, hS2⟩ := hSW; go_simp)⟩) (by assumption) ?_
         simp only [Act.put, List.setIfInBounds_toArray, List.set_cons_zero, List.set_cons_succ]
         refine wpAnyH_ready (rs := [3]) (by kernel_rfl) (by simp) ?_
         refine AllReadyH.cons (o := ⟨some 49, _, _, _, _, _⟩) rfl (fun K hK => ?_) AllReadyH.nil
         ·refine step_append_G TR (by rfl) _ _ (by rfl) (base := w.heap.size) (v := .slice av mv cv) (l := takeR pre n) (A := some ⟨wr.heap.size, 0, none⟩) (c := 1) (r := [(x.1, i)]) (by rfl) (HOW.out) (by rfl) HSRC.out (oneR _) ?_ ?_ ?_ ?_
          ·have := HTL.out; simp; omega
          ·have := HTL.out; simp; omega
          ·exact HBS.out
          intro v7 w7 ho7 hg7 hn7
          obtain ⟨⟨z0, z1⟩, ⟨z2, y2⟩, z3, y3⟩ := HKP.out w7 hg7
          obtain ⟨a7, c7, m7, hm7, rfl⟩ := ho7.sliceM; clear hm7
          refine hK.out _ _ (⟨z0, z1⟩) (fun _ => ?_)
          clear hK K
          try simp only [Act.put, List.setIfInBounds_toArray, List.set_cons_zero, List.set_cons_succ]
          refine wpAnyH_ready (rs := [8]) (by kernel_rfl) (by simp) ?_
          refine AllReadyH.cons (o := ⟨none, _, _, _, _, _⟩) rfl (fun K hK => ?_) AllReadyH.nil
          ·go_simp
           refine hK.out _ _ (HS8.out _ _ z0 z1) (fun _ => ?_)
           clear hK K
           try simp only [Act.put, List.setIfInBounds_toArray, List.set_cons_zero, List.set_cons_succ]
           refine wpAnyH_ready (rs := [9]) (by kernel_rfl) (by simp) ?_
           refine AllReadyH.cons (o := ⟨none, _, _, _, _, _⟩) rfl (fun K hK => ?_) AllReadyH.nil
           ·go_simp
            refine hK.out _ _ (HS9.out _ _ _ z0 z1) (fun _ => ?_)
            clear hK K
            try simp only [Act.put, List.setIfInBounds_toArray, List.set_cons_zero, List.set_cons_succ]
            refine wpAnyH_done (by kernel_rfl) ?_ _
            exact HEND _ _ ho7 hg7 hn7
       ·go_simp
        refine hK.out _ _ (HS1.out) (fun _ => ?_)
        clear hK K
        try simp only [Act.put, List.setIfInBounds_toArray, List.set_cons_zero, List.set_cons_succ]
        refine wpAnyH_take (i := 7) (oi := ⟨some 53, _, _, _, _, _⟩) (v := .int .i64 d) rfl (by kernel_rfl) (by kernel_rfl) (by kernel_rfl) (fun _ _ _ h => h) (Or.inl ⟨by rfl, by (intro W hSW; obtain ⟨hS1, hS2⟩ := hSW; go_simp)⟩) (by assumption) ?_
        simp only [Act.put, List.setIfInBounds_toArray, List.set_cons_zero, List.set_cons_succ]
        refine wpAnyH_ready (rs := [0]) (by kernel_rfl) (by simp) ?_
        refine AllReadyH.cons (o := ⟨some 46, _, _, _, _, _⟩) rfl (fun K hK => ?_) AllReadyH.nil
        ·go_simp
         refine hK.out _ _ (HS1.out) (fun _ => ?_)
         clear hK K
         try simp only [Act.put, List.setIfInBounds_toArray, List.set_cons_zero, List.set_cons_succ]
         refine wpAnyH_ready (rs := [3]) (by kernel_rfl) (by simp) ?_
         refine AllReadyH.cons (o := ⟨some 49, _, _, _, _, _⟩) rfl (fun K hK => ?_) AllReadyH.nil
         ·refine step_append_G TR (by rfl) _ _ (by rfl) (base := w.heap.size) (v := .slice av mv cv) (l := takeR pre n) (A := some ⟨wr.heap.size, 0, none⟩) (c := 1) (r := [(x.1, i)]) (by rfl) (HOW.out) (by rfl) HSRC.out (oneR _) ?_ ?_ ?_ ?_
          ·have := HTL.out; simp; omega
          ·have := HTL.out; simp; omega
          ·exact HBS.out
          intro v7 w7 ho7 hg7 hn7
          obtain ⟨⟨z0, z1⟩, ⟨z2, y2⟩, z3, y3⟩ := HKP.out w7 hg7
          obtain ⟨a7, c7, m7, hm7, rfl⟩ := ho7.sliceM; clear hm7
          refine hK.out _ _ (⟨z0, z1⟩) (fun _ => ?_)
          clear hK K
          try simp only [Act.put, List.setIfInBounds_toArray, List.set_cons_zero, List.set_cons_succ]
          refine wpAnyH_ready (rs := [8]) (by kernel_rfl) (by simp) ?_
          refine AllReadyH.cons (o := ⟨none, _, _, _, _, _⟩) rfl (fun K hK => ?_) AllReadyH.nil
          ·go_simp
           refine hK.out _ _ (HS8.out _ _ z0 z1) (fun _ => ?_)
           clear hK K
           try simp only [Act.put, List.setIfInBounds_toArray, List.set_cons_zero, List.set_cons_succ]
           refine wpAnyH_ready (rs := [9]) (by kernel_rfl) (by simp) ?_
           refine AllReadyH.cons (o := ⟨none, _, _, _, _, _⟩) rfl (fun K hK => ?_) AllReadyH.nil
           ·go_simp
            refine hK.out _ _ (HS9.out _ _ _ z0 z1) (fun _ => ?_)
            clear hK K
            try simp only [Act.put, List.setIfInBounds_toArray, List.set_cons_zero, List.set_cons_succ]
            refine wpAnyH_done (by kernel_rfl) ?_ _
            exact HEND _ _ ho7 hg7 hn7
      ·go_simp
       refine hK.out _ _ (⟨k2, k3⟩) (fun _ => ?_)
       clear hK K
       try simp only [Act.put, List.setIfInBounds_toArray, List.set_cons_zero, List.set_cons_succ]
       refine wpAnyH_take (i := 7) (oi := ⟨some 53, _, _, _, _, _⟩) (v := .int .i64 d) rfl (by kernel_rfl) (by kernel_rfl) (by kernel_rfl) (fun _ _ _ h => h) (Or.inl ⟨by rfl, by (intro W hSW; obtain ⟨hS1, hS2⟩ := hSW; go_simp)⟩) (by assumption) ?_
       simp only [Act.put, List.setIfInBounds_toArray, List.set_cons_zero, List.set_cons_succ]
       refine wpAnyH_ready (rs := [0, 2]) (by kernel_rfl) (by simp) ?_
       refine AllReadyH.cons (o := ⟨some 46, _, _, _, _, _⟩) rfl (fun K hK => ?_) (AllReadyH.cons (o := ⟨some 48, _, _, _, _, _⟩) rfl (fun K hK => ?_) AllReadyH.nil)
       ·go_simp
        refine hK.out _ _ (⟨k2, k3⟩) (fun _ => ?_)
        clear hK K
        try simp only [Act.put, List.setIfInBounds_toArray, List.set_cons_zero, List.set_cons_succ]
        refine wpAnyH_ready (rs := [2]) (by kernel_rfl) (by simp) ?_
        refine AllReadyH.cons (o := ⟨some 48, _, _, _, _, _⟩) rfl (fun K hK => ?_) AllReadyH.nil
        ·go_simp
         refine hK.out _ _ (HS1.out) (fun _ => ?_)
         clear hK K
         try simp only [Act.put, List.setIfInBounds_toArray, List.set_cons_zero, List.set_cons_succ]
         refine wpAnyH_ready (rs := [3]) (by kernel_rfl) (by simp) ?_
         refine AllReadyH.cons (o := ⟨some 49, _, _, _, _, _⟩) rfl (fun K hK => ?_) AllReadyH.nil
         ·refine step_append_G TR (by rfl) _ _ (by rfl) (base := w.heap.size) (v := .slice av mv cv) (l := takeR pre n) (A := some ⟨wr.heap.size, 0, none⟩) (c := 1) (r := [(x.1, i)]) (by rfl) (HOW.out) (by rfl) HSRC.out (oneR _) ?_ ?_ ?_ ?_
          ·have := HTL.out; simp; omega
          ·have := HTL.out; simp; omega
          ·exact HBS.out
          intro v7 w7 ho7 hg7 hn7
          obtain ⟨⟨z0, z1⟩, ⟨z2, y2⟩, z3, y3⟩ := HKP.out w7 hg7
          obtain ⟨a7, c7, m7, hm7, rfl⟩ := ho7.sliceM; clear hm7
          refine hK.out _ _ (⟨z0, z1⟩) (fun _ => ?_)
          clear hK K
          try simp only [Act.put, List.setIfInBounds_toArray, List.set_cons_zero, List.set_cons_succ]
          refine wpAnyH_ready (rs := [8]) (by kernel_rfl) (by simp) ?_
          refine AllReadyH.cons (o := ⟨none, _, _, _, _, _⟩) rfl (fun K hK => ?_) AllReadyH.nil
          ·go_simp
           refine hK.out _ _ (HS8.out _ _ z0 z1) (fun _ => ?_)
           clear hK K
           try simp only [Act.put, List.setIfInBounds_toArray, List.set_cons_zero, List.set_cons_succ]
           refine wpAnyH_ready (rs := [9]) (by kernel_rfl) (by simp) ?_
           refine AllReadyH.cons (o := ⟨none, _, _, _, _, _⟩) rfl (fun K hK => ?_) AllReadyH.nil
           ·go_simp
            refine hK.out _ _ (HS9.out _ _ _ z0 z1) (fun _ => ?_)
            clear hK K
            try simp only [Act.put, List.setIfInBounds_toArray, List.set_cons_zero, List.set_cons_succ]
            refine wpAnyH_done (by kernel_rfl) ?_ _
            exact HEND _ _ ho7 hg7 hn7
       ·go_simp
        refine hK.out _ _ (HS1.out) (fun _ => ?_)
        clear hK K
        try simp only [Act.put, List.setIfInBounds_toArray, List.set_cons_zero, List.set_cons_succ]
        refine wpAnyH_ready (rs := [0]) (by kernel_rfl) (by simp) ?_
        refine AllReadyH.cons (o := ⟨some 46, _, _, _, _, _⟩) rfl (fun K hK => ?_) AllReadyH.nil
        ·go_simp
         refine hK.out _ _ (HS1.out) (fun _ => ?_)
         clear hK K
         try simp only [Act.put, List.setIfInBounds_toArray, List.set_cons_zero, List.set_cons_succ]
         refine wpAnyH_ready (rs := [3]) (by kernel_rfl) (by simp) ?_
         refine AllReadyH.cons (o := ⟨some 49, _, _, _, _, _⟩) rfl (fun K hK => ?_) AllReadyH.nil
         ·refine step_append_G TR (by rfl) _ _ (by rfl) (base := w.heap.size) (v := .slice av mv cv) (l := takeR pre n) (A := some ⟨wr.heap.size, 0, none⟩) (c := 1) (r := [(x.1, i)]) (by rfl) (HOW.out) (by rfl) HSRC.out (oneR _) ?_ ?_ ?_ ?_
          ·have := HTL.out; simp; omega
          ·have := HTL.out; simp; omega
          ·exact HBS.out
          intro v7 w7 ho7 hg7 hn7
          obtain ⟨⟨z0, z1⟩, ⟨z2, y2⟩, z3, y3⟩ := HKP.out w7 hg7
          obtain ⟨a7, c7, m7, hm7, rfl⟩ := ho7.sliceM; clear hm7
          refine hK.out _ _ (⟨z0, z1⟩) (fun _ => ?_)
          clear hK K
          try simp only [Act.put, List.setIfInBounds_toArray, List.set_cons_zero, List.set_cons_succ]
          refine wpAnyH_ready (rs := [8]) (by kernel_rfl) (by simp) ?_
          refine AllReadyH.cons (o := ⟨none, _, _, _, _, _⟩) rfl (fun K hK => ?_) AllReadyH.nil
          ·go_simp
           refine hK.out _ _ (HS8.out _ _ z0 z1) (fun _ => ?_)
           clear hK K
           try simp only [Act.put, List.setIfInBounds_toArray, List.set_cons_zero, List.set_cons_succ]
           refine wpAnyH_ready (rs := [9]) (by kernel_rfl) (by simp) ?_
           refine AllReadyH.cons (o := ⟨none, _, _, _, _, _⟩) rfl (fun K hK => ?_) AllReadyH.nil
           ·go_simp
            refine hK.out _ _ (HS9.out _ _ _ z0 z1) (fun _ => ?_)
            clear hK K
            try simp only [Act.put, List.setIfInBounds_toArray, List.set_cons_zero, List.set_cons_succ]
            refine wpAnyH_done (by kernel_rfl) ?_ _
            exact HEND _ _ ho7 hg7 hn7
 case done =>
  rintro D W hD ⟨v, hi⟩ hK
  obtain ⟨av, cv, mv, hmv, rfl⟩ := hi.o.sliceM
  have c0 := cell_blk hi.l 0
  simp only [List.getElem?_toArray, List.getElem?_cons_zero] at c0
  clear hmv
  gi_wp2
  go_wp2_with fail
  refine ⟨by simp, .inl ⟨_, _, rfl, run_takeDeferred hK, ?_⟩⟩
  have hi2 := stab_tk (Nat.le_refl _) W (W.putObj D (.deferred none)) [D] hi (Upd.putObj D _) (fun r hr => by rw [List.mem_singleton] at hr; subst hr; exact ⟨by omega, _, hK, rfl⟩)
  exact ⟨_, results_tmp2 rfl _ _ _, .slice av mv cv, rfl, hi2.o, hi2.map, hi2.upd⟩
 case stop =>
  rintro D c pre W hD hpre ⟨⟨rfl, hn0⟩, v, hi⟩ hK
  obtain ⟨av, cv, mv, hmv, rfl⟩ := hi.o.sliceM
  have c0 := cell_blk hi.l 0
  simp only [List.getElem?_toArray, List.getElem?_cons_zero] at c0
  have e1 := takeR_pre hpre hn0
  clear hmv
  gi_wp2
  go_wp2_with fail
  refine ⟨by simp, .inl ⟨_, _, rfl, run_takeDeferred hK, ?_⟩⟩
  have hi2 := stab_tk (Nat.le_refl _) W (W.putObj D (.deferred none)) [D] hi (Upd.putObj D _) (fun r hr => by rw [List.mem_singleton] at hr; subst hr; exact ⟨by omega, _, hK, rfl⟩)
  rw [e1]
  exact ⟨_, results_tmp2 rfl _ _ _, .slice av mv cv, rfl, hi2.o, hi2.map, hi2.upd⟩
end Go.Proofs.YtgpefiacbipfpaaGreatDoor
