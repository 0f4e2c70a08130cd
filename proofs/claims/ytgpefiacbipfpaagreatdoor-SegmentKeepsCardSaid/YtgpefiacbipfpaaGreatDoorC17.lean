/- The runs of free blocks: All's iterator. How many blocks are free: Free, over All. -/
import Derived.Deep.DeepCutAuto
import Derived.Test.YtgpefiacbipfpaaGreatDoorC16
namespace Go.Proofs.YtgpefiacbipfpaaGreatDoor
open Go.RowKit Go.Maps
theorem heap_keepU {w w' : World} (u : Upd [] w w') {b : Nat} {o : Obj} (h : w.heap[b]? = some o) : w'.heap[b]? = some o := (u.block b (lt_of_blk h) (by simp)).trans h
theorem heap_keepA {w : World} {b : Nat} {o : Obj} (o' : Obj) (h : w.heap[b]? = some o) : (w.alloc o').heap[b]? = some o := heap_keepU ((Upd.refl [] w).alloc o') h
theorem box_facts {w : World} {b : Nat} {v : Value} {t : TypeId} (h : w.heap[b]? = some (.cells #[v] t (0, 0))) : (w.cell? ⟨b, 0, none⟩ = some v ∧ w.frozen? ⟨b, 0, none⟩ = false) ∧ (∀ X, (w.alloc X).cell? ⟨b, 0, none⟩ = some v) ∧ (∀ X, (w.alloc X).frozen? ⟨b, 0, none⟩ = false) ∧ w.heap.size ≠ b ∧ b ≠ w.heap.size :=
 ⟨⟨cell_blk h 0, frozen_blk h 0⟩, fun X => cell_blk (heap_keepA X h) 0, fun X => frozen_blk (heap_keepA X h) 0, fun e => by have := lt_of_blk h; omega, fun e => by have := lt_of_blk h; omega⟩
theorem MapR.keepU {w w' : World} {base q : Nat} {nv lv : Value} {now last : List Bool} (h : MapR w base q nv lv now last) (u : Upd [] w w') : MapR w' base q nv lv now last :=
 ⟨heap_keepU u h.box, h.now.upd u (by simp), h.last.upd u (by simp), h.ne1, h.ne2, Nat.le_trans h.fit u.size, h.sep⟩
structure AllSt (w : World) (N B3 B4 : Nat) (v3 v4 : Value) (now last : List Bool) : Prop where
 b3 : w.heap[B3]? = some (.cells #[v3] 149 (0, 0))
 b4 : w.heap[B4]? = some (.cells #[v4] 149 (0, 0))
 ge3 : N ≤ B3
 ge4 : N ≤ B4
 now : OwB w N v3 now
 last : OwB w N v4 last
theorem setBox {Y : World} {B : Nat} {v0 : Value} {t : TypeId} (h : Y.heap[B]? = some (.cells #[v0] t (0, 0))) (v : Value) : (Y.setCell ⟨B, 0, none⟩ v).heap[B]? = some (.cells #[v] t (0, 0)) := by
 rw [heap_setCell, if_pos rfl, h]; rfl
abbrev SA (W : World) (Bm q : Nat) (nv lv : Value) (X : World) : Prop := X.cell? ⟨Bm, 0, none⟩ = some (.pointer (some ⟨q, 0, none⟩)) ∧ X.cell? ⟨q, 0, none⟩ = some nv ∧ X.cell? ⟨q, 1, none⟩ = some lv ∧ Upd [] W X
theorem SA.upd {W X Y : World} {Bm q : Nat} {nv lv : Value} (u : Upd [] X Y) (h : SA W Bm q nv lv X) : SA W Bm q nv lv Y := ⟨cell_keep u h.1, cell_keep u h.2.1, cell_keep u h.2.2.1, h.2.2.2.trans u⟩
theorem SA.alloc {W X : World} {Bm q : Nat} {nv lv : Value} (o : Obj) (h : SA W Bm q nv lv X) : SA W Bm q nv lv (X.alloc o) := h.upd ((Upd.refl [] X).alloc o)
theorem SA.drew {W X : World} {Bm q : Nat} {nv lv : Value} (h : SA W Bm q nv lv X) : SA W Bm q nv lv X.drew := h.upd (Upd.refl [] X).drew
theorem SA.set {W X : World} {Bm q : Nat} {nv lv : Value} {B : Nat} (v : Value) (hB : W.heap.size ≤ B) (h0 : Bm < W.heap.size) (h1 : q < W.heap.size) (h : SA W Bm q nv lv X) : SA W Bm q nv lv (X.setCell ⟨B, 0, none⟩ v) := by
 refine ⟨?_, ?_, ?_, h.2.2.2.setCellNew hB _ _⟩
 ·rw [World.cell?_setCell_far _ _ _ _ (fun e => by dsimp only at e; omega)]; exact h.1
 ·rw [World.cell?_setCell_far _ _ _ _ (fun e => by dsimp only at e; omega)]; exact h.2.1
 ·rw [World.cell?_setCell_far _ _ _ _ (fun e => by dsimp only at e; omega)]; exact h.2.2.1
def MidAll (W : World) (l Bm q N : Nat) (nv lv : Value) (now last : List Bool) : Exit → Act → World → Prop
 | .normal, a, w' => ∃ B3 B4 v3 v4, a = { tmps := #[.func (.yield l) #[] #[], .pointer (some ⟨Bm, 0, none⟩), undef, .pointer (some ⟨B3, 0, none⟩), .pointer (some ⟨B4, 0, none⟩), undef, undef, undef, .pointer (some ⟨q, 0, none⟩), .bool false, .pointer (some ⟨q, 0, none⟩), .pointer (some ⟨q, 0, none⟩), .pointer (some ⟨q, 0, none⟩), nv, v3, .pointer (some ⟨q, 0, none⟩), .pointer (some ⟨q, 0, none⟩), .pointer (some ⟨q, 1, none⟩), lv, v4, undef, undef, undef, undef, undef, undef, undef, undef, undef, undef, undef, undef, undef, undef, undef, undef, undef, undef, undef, undef, undef, undef, undef, undef, undef, undef, undef], defers := [] } ∧ AllSt w' N B3 B4 v3 v4 now last ∧ Upd [] W w'
 | _, _, _ => False
theorem MidAll.mk {W w' : World} {l Bm q N : Nat} {nv lv : Value} {now last : List Bool} {B3 B4 : Nat} {v3 v4 : Value} (h : AllSt w' N B3 B4 v3 v4 now last) (u : Upd [] W w') :
  MidAll W l Bm q N nv lv now last .normal { tmps := #[.func (.yield l) #[] #[], .pointer (some ⟨Bm, 0, none⟩), undef, .pointer (some ⟨B3, 0, none⟩), .pointer (some ⟨B4, 0, none⟩), undef, undef, undef, .pointer (some ⟨q, 0, none⟩), .bool false, .pointer (some ⟨q, 0, none⟩), .pointer (some ⟨q, 0, none⟩), .pointer (some ⟨q, 0, none⟩), nv, v3, .pointer (some ⟨q, 0, none⟩), .pointer (some ⟨q, 0, none⟩), .pointer (some ⟨q, 1, none⟩), lv, v4, undef, undef, undef, undef, undef, undef, undef, undef, undef, undef, undef, undef, undef, undef, undef, undef, undef, undef, undef, undef, undef, undef, undef, undef, undef, undef, undef], defers := [] } w' := ⟨B3, B4, v3, v4, rfl, h, u⟩
theorem MidAll.mk2 {W w' w6 w7 : World} {l Bm q N z6 z7 : Nat} {nv lv : Value} {now last : List Bool} {B3 B4 : Nat} {v3 v4 : Value} (b3 : w'.heap[B3]? = some (.cells #[v3] 149 (0, 0))) (b4 : w'.heap[B4]? = some (.cells #[v4] 149 (0, 0))) (g3 : N ≤ B3) (g4 : N ≤ B4)
  (h6 : OwB w6 z6 v3 now) (u6 : Upd [B3, B4] w6 w') (n6 : ∀ j ∈ [B3, B4], v3.ownBlock ≠ some j) (k6 : N ≤ z6) (h7 : OwB w7 z7 v4 last) (u7 : Upd [B3, B4] w7 w') (n7 : ∀ j ∈ [B3, B4], v4.ownBlock ≠ some j) (k7 : N ≤ z7) (u : Upd [] W w') :
  MidAll W l Bm q N nv lv now last .normal { tmps := #[.func (.yield l) #[] #[], .pointer (some ⟨Bm, 0, none⟩), undef, .pointer (some ⟨B3, 0, none⟩), .pointer (some ⟨B4, 0, none⟩), undef, undef, undef, .pointer (some ⟨q, 0, none⟩), .bool false, .pointer (some ⟨q, 0, none⟩), .pointer (some ⟨q, 0, none⟩), .pointer (some ⟨q, 0, none⟩), nv, v3, .pointer (some ⟨q, 0, none⟩), .pointer (some ⟨q, 0, none⟩), .pointer (some ⟨q, 1, none⟩), lv, v4, undef, undef, undef, undef, undef, undef, undef, undef, undef, undef, undef, undef, undef, undef, undef, undef, undef, undef, undef, undef, undef, undef, undef, undef, undef, undef, undef], defers := [] } w' :=
 MidAll.mk ⟨b3, b4, g3, g4, (h6.upd u6 n6).base k6, (h7.upd u7 n7).base k7⟩ u
theorem heap_far {X : World} {B B' : Nat} {o : Obj} {v : Value} (hne : B ≠ B') (h : X.heap[B]? = some o) : (X.setCell ⟨B', 0, none⟩ v).heap[B]? = some o := by rw [heap_setCell, if_neg hne]; exact h
theorem heap_dr {X : World} {B : Nat} {o : Obj} (h : X.heap[B]? = some o) : X.drew.heap[B]? = some o := h
def KpM (N : Nat) (A B : World) : Prop := ∀ k vs ty fr, N ≤ k → A.heap[k]? = some (.cells vs ty fr) → (ty = 4 ∨ ty = 149) → B.heap[k]? = some (.cells vs ty fr)
theorem KpM.t {N : Nat} {A B C : World} (h : KpM N A B) (g : KpM N B C) : KpM N A C := fun k vs ty fr h1 h2 h3 => g k vs ty fr h1 (h k vs ty fr h1 h2 h3) h3
theorem KpM.b {N : Nat} (W : World) (l : Nat) (o o' : Obj) (h : W.heap[l]? = some o) (hc : o.isCells = false) : KpM N W (W.putObj l o') := fun k vs ty fr _ hk _ => by
 rw [World.putObj_heap_other (fun e => by subst e; rw [hk] at h; cases h; cases hc)]; exact hk
theorem KpM.u {N : Nat} {A B : World} (u : Upd [] A B) : KpM N A B := fun _k _vs _ty _fr _ hk _ => heap_keepU u hk
theorem OwB.kp {A B : World} {N : Nat} {v : Value} {l : List Bool} (h : OwB A N v l) (k : KpM N A B) : OwB B N v l := by
 refine ⟨h.1, ?_⟩
 rcases h.2 with h | ⟨g, cap, cur, hv, hg, hb, h4⟩
 ·exact .inl h
 ·exact .inr ⟨g, cap, cur, hv, hg, k _ _ _ _ hg hb (.inl rfl), h4⟩
theorem AllSt.kp {A B : World} {N B3 B4 : Nat} {v3 v4 : Value} {now last : List Bool} (h : AllSt A N B3 B4 v3 v4 now last) (k : KpM N A B) : AllSt B N B3 B4 v3 v4 now last :=
 ⟨k _ _ _ _ h.ge3 h.b3 (.inr rfl), k _ _ _ _ h.ge4 h.b4 (.inr rfl), h.ge3, h.ge4, OwB.kp h.now k, OwB.kp h.last k⟩
theorem runLen_in (f : Nat → Bool) (n : Nat) : ∀ (d i : Nat), d < runLen f n i → i + d < n ∧ f (i + d) = true := by
 intro d
 induction d with
 | zero =>
  intro i h
  rw [runLen] at h
  split at h
  ·split at h
   ·rename_i h1 h2; exact ⟨h1, h2⟩
   ·omega
  ·omega
 | succ d ih =>
  intro i h
  rw [runLen] at h
  split at h
  ·split at h
   ·have := ih (i + 1) (by omega)
    rw [show i + (d + 1) = i + 1 + d by omega]
    exact this
   ·omega
  ·omega
theorem freeEnd (now last : List Bool) (i : Nat) : (decide (i + runLen (freeB now last) now.length i < now.length) && freeB now last (i + runLen (freeB now last) now.length i)) = false := by
 by_cases h : i + runLen (freeB now last) now.length i < now.length
 ·rw [runLen_end _ _ _ h, Bool.and_false]
 ·simp [h]
abbrev encR (r : Run) : Array Value := #[.agg #[.int .i64 r.1, .int .i64 r.2]]
set_option maxRecDepth 100000 in
set_option maxHeartbeats 4000000 in
theorem all1_in (n l Bm N q base : Nat) (nv lv : Value) (now last : List Bool) (hll : last.length = now.length) (hm : now.length ≤ 512) (J Jx : List Run → World → Prop)
  (hJ : ∀ s X Y, J s X → Upd [] X Y → J s Y)
  (hY : ∀ pre x W1, J pre W1 → pre ++ [x] <+: frees (freeB now last) now.length 0 → YieldAt Fence.wide (n - 1) Tryz.prog l (encR x) W1 fun e W' => (e = .returned (.bool true) ∧ J (pre ++ [x]) W' ∧ KpM N W1 W') ∨ (e = .returned (.bool false) ∧ Jx (pre ++ [x]) W')) (W : World) (hN : N ≤ W.heap.size) (hcB : W.cell? ⟨Bm, 0, none⟩ = some (.pointer (some ⟨q, 0, none⟩))) (h : MapR W base q nv lv now last) (h0 : J [] W) :
  Calls Tryz.prog 137 #[.func (.yield l) #[] #[], .pointer (some ⟨Bm, 0, none⟩)] W fun e W' => (∃ v, e = .returned v) ∧ (J (frees (freeB now last) now.length 0) W' ∨ ∃ pre, pre <+: frees (freeB now last) now.length 0 ∧ Jx pre W') := by
 have HC : ∀ X, Upd [] W X → Calls Tryz.prog 112 #[nv] X fun e X' => ∃ v', e = .returned v' ∧ OwB X' X.heap.size v' now ∧ Upd [] X X' ∧ X.heap.size ≤ X'.heap.size := fun X u =>
  (cloneB_ok X (OwnG.rd TB (h.now.upd u (by simp))) (by omega)).mono fun e X' ⟨v', he, ho, hu⟩ => ⟨v', he, ho, hu, hu.size⟩
 have HD : ∀ X, Upd [] W X → Calls Tryz.prog 112 #[lv] X fun e X' => ∃ v', e = .returned v' ∧ OwB X' X.heap.size v' last ∧ Upd [] X X' ∧ X.heap.size ≤ X'.heap.size := fun X u =>
  (cloneB_ok X (OwnG.rd TB (h.last.upd u (by simp))) (by omega)).mono fun e X' ⟨v', he, ho, hu⟩ => ⟨v', he, ho, hu, hu.size⟩
 have c0 := cell_blk h.box 0
 have c1 := cell_blk h.box 1
 simp only [List.getElem?_toArray, List.getElem?_cons_zero, List.getElem?_cons_succ] at c0 c1
 have HC' := Lib.hid HC
 have HD' := Lib.hid HD
 have hBl : Bm < W.heap.size := World.block_lt_of_cell? _ _ hcB
 have hql := lt_of_blk h.box
 clear HC HD
 go_enter Tryz.func137, Tryz.ntmps137
 go_upto_region 1 with (fail)
 refine wp_mono (Q := MidAll W l Bm q N nv lv now last) ?reg ?rest
 case reg =>
  go_region_held3 (fun X => X.cell? ⟨Bm, 0, none⟩ = some (.pointer (some ⟨q, 0, none⟩)) ∧ X.cell? ⟨q, 0, none⟩ = some nv ∧ X.cell? ⟨q, 1, none⟩ = some lv ∧ Upd [] W X)
   (first
    | (with_reducible exact SA.upd (Upd.refl [] W).drew ⟨hcB, c0, c1, Upd.refl [] W⟩)
    | (repeat (first
      | (with_reducible assumption)
      | (with_reducible exact ⟨hcB, c0, c1, Upd.refl [] W⟩)
      | (with_reducible refine SA.drew ?_)
      | (with_reducible refine SA.alloc _ ?_)
      | (with_reducible refine SA.set _ ?_ hBl hql ?_)
      | omega
      | (simp; omega))))
   (first
    | (go_at_call 112; (with_reducible refine (HC'.out _ ?_).mono ?_); (exact ‹_ ∧ _ ∧ _ ∧ Upd [] W _›.2.2.2); rintro e w6 ⟨v6, rfl, ho6, hu6, hz6⟩; obtain ⟨a6, c6, m6, hm6, rfl⟩ := ho6.sliceM; have HO6 := Lib.hid ho6; have hS6 : SA W Bm q nv lv w6 := SA.upd hu6 (by assumption); have hy6 := hS6.2.2.2.size; (try simp only [World.size_alloc, heap_drew] at hz6); (try (have hb6a := heap_keepU hu6 (heap_top _ _); (try simp only [World.size_alloc] at hb6a); obtain ⟨⟨d6a, e6a⟩, D6a, E6a, n6a, m6a⟩ := box_facts hb6a)); (try (have hb6b := heap_keepU hu6 (heap_keepA _ (heap_top _ _)); (try simp only [World.size_alloc, heap_drew] at hb6b); obtain ⟨⟨d6b, e6b⟩, D6b, E6b, n6b, m6b⟩ := box_facts hb6b)); clear hm6 ho6)
    | (go_at_call 112; (with_reducible refine (HD'.out _ ?_).mono ?_); (exact ‹_ ∧ _ ∧ _ ∧ Upd [] W _›.2.2.2); rintro e w7 ⟨v7, rfl, ho7, hu7, hz7⟩; obtain ⟨a7, c7, m7, hm7, rfl⟩ := ho7.sliceM; have HO7 := Lib.hid ho7; have hS7 : SA W Bm q nv lv w7 := SA.upd hu7 (by assumption); have hy7 := hS7.2.2.2.size; (try simp only [World.size_alloc] at hz7); (try (have hb7a := heap_keepU hu7 (heap_top _ _); (try simp only [World.size_alloc] at hb7a); obtain ⟨⟨d7a, e7a⟩, D7a, E7a, n7a, m7a⟩ := box_facts hb7a)); (try (have hb7b := heap_keepU hu7 (heap_keepA _ (heap_top _ _)); (try simp only [World.size_alloc, heap_drew] at hb7b); obtain ⟨⟨d7b, e7b⟩, D7b, E7b, n7b, m7b⟩ := box_facts hb7b)); (try (have hb7c := heap_keepU hu7 hb6a; (try simp only [World.size_alloc, heap_drew] at hb7c); obtain ⟨⟨d7c, e7c⟩, D7c, E7c, n7c, m7c⟩ := box_facts hb7c)); (try (have hb7d := heap_keepU hu7 hb6b; (try simp only [World.size_alloc, heap_drew] at hb7d); obtain ⟨⟨d7d, e7d⟩, D7d, E7d, n7d, m7d⟩ := box_facts hb7d)); (try (have hb7e := heap_keepU hu7 (heap_keepA _ hb6a); (try simp only [World.size_alloc, heap_drew] at hb7e); obtain ⟨⟨d7e, e7e⟩, D7e, E7e, n7e, m7e⟩ := box_facts hb7e)); clear hm7 ho7))
  all_goals
   refine MidAll.mk2 ?_ ?_ ?_ ?_ HO6.out ?_ ?_ ?_ HO7.out ?_ ?_ ?_ ?_
  all_goals first
   | (show _ ≤ _; first | omega | (simp only [World.size_alloc, heap_drew]; omega))
   | (show ∀ j ∈ _, _ ≠ some j; intro j hj e; first | (have := HO6.out.block j e; simp at hj this; omega) | (have := HO7.out.block j e; simp at hj this; omega))
   | skip
  all_goals try (repeat (first
   | assumption
   | (with_reducible exact Upd.refl _ _)
   | (with_reducible exact hS7.2.2.2)
   | (with_reducible exact hS6.2.2.2)
   | (refine heap_top' _ _ _ ?_; first | rfl | (simp; done))
   | (with_reducible refine heap_keepA _ ?_)
   | (with_reducible refine heap_dr ?_)
   | (with_reducible refine setBox (v0 := .slice none 0 0) ?_ _)
   | (with_reducible refine heap_far ?_ ?_)
   | (with_reducible refine heap_keepU hu7 ?_)
   | (with_reducible refine heap_keepU hu6 ?_)
   | (with_reducible refine Upd.alloc ?_ _)
   | (with_reducible refine Upd.drew ?_)
   | (with_reducible refine Upd.setCell ?_ (List.mem_cons_self ..) _ _)
   | (with_reducible refine Upd.setCell ?_ (List.mem_cons_of_mem _ (List.mem_cons_self ..)) _ _)
   | (with_reducible refine Upd.setCellNew ?_ ?_ _ _)
   | (with_reducible refine Upd.trans ?_ (hu7.mono (fun _ h => absurd h List.not_mem_nil)))
   | omega
   | (simp; omega)))
 case rest =>
  rename_i K hK
  rintro e a w1 h1
  cases e with
  | normal =>
   obtain ⟨B3, B4, v3, v4, rfl, hS, hU⟩ := h1
   refine hK _ _ ?_
   clear hK K
   have hJ1 := hJ _ _ _ h0 hU
   obtain ⟨a3, k3, m3, hm3, rfl⟩ := hS.now.sliceM
   obtain ⟨a4, k4, m4, hm4, rfl⟩ := hS.last.sliceM
   have HS := Lib.hid hS
   have HJ1 := Lib.hid hJ1
   have hm : m3 ≤ 512 := by omega
   have HM3 := Lib.hid hm3
   clear hJ1 hS h hU hcB c0 c1 HC' HD' hm3 hm4 h0
   refine (wpIn_wide (n := n)).1 ?_
   gi_wp2
   have HLL := Lib.hid hll
   clear hll
   gi_loopw [6] (fun i wr => ∃ (k : Nat) (pre : List Run), i = .int .i64 k ∧ k ≤ m3 + 1 ∧ Hid (frees (freeB now last) now.length 0 = pre ++ frees (freeB now last) now.length k ∧ J pre wr ∧ AllSt wr N B3 B4 (.slice a3 m3 k3) (.slice a4 m4 k4) now last)) (fun i _ => m3 + 1 - (intOf i).toNat)
   case atStart => exact ⟨0, [], rfl, by omega, Lib.hid ⟨by simp, HJ1.out, HS.out⟩⟩
   case round =>
    clear HJ1 HS
    obtain ⟨k, pre, rfl, hk, HR⟩ := hrel
    generalize wr = wo at *
    have c3 := cell_blk HR.out.2.2.b3 0
    have c4 := cell_blk HR.out.2.2.b4 0
    simp only [List.getElem?_toArray, List.getElem?_cons_zero] at c3 c4
    by_cases hkm : k < m3
    ·have hkm' : (k : Int) < (m3 : Int) := by omega
     have hm' : (m3 : Int) ≤ 512 := by omega
     gi_wp2
     obtain ⟨L, hL⟩ : ∃ L, L = runLen (freeB now last) now.length k := ⟨_, rfl⟩
     have hLk : k + L ≤ m3 := by have := runLen_le (freeB now last) now.length k; rw [← hL] at this; have := HM3.out; omega
     have HL := Lib.hid hL
     have HR1 := Lib.hid (heap_top wo (.cells #[.int .i64 k, .int .i64 0] 148))
     have HU1 := Lib.hid ((Upd.refl [] wo).alloc (.cells #[.int .i64 k, .int .i64 0] 148))
     clear hL
     generalize hWW : wo.alloc (.cells #[.int .i64 k, .int .i64 0] 148) = W2 at *
     clear hWW
     gi_loopw [6] (fun i wi => ∃ d : Nat, i = .int .i64 ((k : Int) + (d : Int)) ∧ d ≤ L ∧ Hid (wi.heap[wo.heap.size]? = some (.cells #[.int .i64 k, .int .i64 d] 148 (0, 0)) ∧ Upd [] wo wi)) (fun i _ => k + L + 1 - (intOf i).toNat)
     case atStart => exact ⟨0, by simp, Nat.zero_le _, Lib.hid ⟨HR1.out, HU1.out⟩⟩
     case round =>
      clear HR1 HU1
      obtain ⟨d, rfl, hd, HI⟩ := hrel
      have hAS : AllSt wr N B3 B4 (.slice a3 m3 k3) (.slice a4 m4 k4) now last := HR.out.2.2.kp (KpM.u HI.out.2)
      have HAS := Lib.hid hAS
      have i3 := cell_blk hAS.b3 0
      have i4 := cell_blk hAS.b4 0
      have i1 := cell_blk HI.out.1 1
      have i0 := cell_blk HI.out.1 0
      have g1 := frozen_blk HI.out.1 1
      simp only [List.getElem?_toArray, List.getElem?_cons_zero, List.getElem?_cons_succ] at i3 i4 i0 i1
      have HF := Lib.hid (afree_ok wr i3 i4 (OwnG.rd TB hAS.now) (OwnG.rd TB hAS.last) HLL.out (by have := HM3.out; omega) (k + d) (by omega))
      clear hAS
      rw [Int.natCast_add] at HF
      by_cases hdL : d < L
      ·have hfr := runLen_in (freeB now last) now.length d k (by rw [← HL.out]; exact hdL)
       rw [hfr.2, decide_eq_true hfr.1, Bool.and_self] at HF
       clear hfr
       gi_wp2
       refine ⟨trivial, (fun h => by cases h), (callsIn_wide.2 HF.out).mono ?_⟩
       rintro e w' ⟨rfl, rfl⟩
       gi_wp2
       go_roundw
       case rel =>
        refine ⟨d + 1, by rw [Int.natCast_add, Int.natCast_one, Int.add_assoc], hdL, Lib.hid ⟨?_, HI.out.2.setCellNew (Nat.le_refl _) _ _⟩⟩
        rw [heap_setCell, if_pos rfl, HI.out.1]; rfl
       case measure => simp only [intOf]; omega
      ·obtain rfl : d = L := by omega
       have hfr := freeEnd now last k
       rw [← HL.out] at hfr
       rw [hfr] at HF
       clear hfr
       gi_wp2
       refine ⟨trivial, (fun h => by cases h), (callsIn_wide.2 HF.out).mono ?_⟩
       rintro e w' ⟨rfl, rfl⟩
       have hfk : frees (freeB now last) now.length k = if d = 0 then frees (freeB now last) now.length (k + 1) else (k, d) :: frees (freeB now last) now.length (k + d + 1) := by
        rw [frees, if_pos (by rw [← HM3.out]; exact hkm), ← HL.out]
       have HFK := Lib.hid hfk
       have HJ := Lib.hid (hJ _ _ _ HR.out.2.1 HI.out.2)
       clear hfk
       by_cases hd0 : 0 < d
       ·have hd0' : (0 : Int) < (d : Int) := by omega
        have hfull : frees (freeB now last) now.length 0 = (pre ++ [(k, d)]) ++ frees (freeB now last) now.length (k + d + 1) := by
         rw [HR.out.1, HFK.out, if_neg (by omega)]; simp
        have HFU := Lib.hid hfull
        obtain ⟨fn, tmps, assign, body, hy, hR⟩ := hY pre (k, d) w' HJ.out ⟨_, hfull.symm⟩
        clear hfull
        change Sem.run Tryz.prog (Instr.yield l #[.agg #[.int .i64 (k : Int), .int .i64 (d : Int)]]) w' = _ at hy
        gi_wp2
        refine ⟨(fun h => by cases h), hR.mono ?_⟩
        rintro e W3 (⟨rfl, hJ3, hk3⟩ | ⟨rfl, hJx3⟩)
        ·have HS3 := Lib.hid (HAS.out.kp hk3)
         have HJ3 := Lib.hid hJ3
         clear hJ3 hk3 hy hR
         gi_wp2
         go_roundw
         case rel => exact ⟨k + d + 1, pre ++ [(k, d)], by simp, by omega, Lib.hid ⟨HFU.out, HJ3.out, HS3.out⟩⟩
         case measure => simp only [intOf]; omega
        ·clear hy hR
         gi_wp2
         refine bodyPost_ret (results_none rfl _ _ _) rfl ?_
         exact ⟨⟨_, rfl⟩, .inr ⟨_, ⟨_, HFU.out.symm⟩, hJx3⟩⟩
       ·obtain rfl : d = 0 := by omega
        have HFK' := HFK.out
        rw [if_pos rfl] at HFK'
        have HF2 := Lib.hid HFK'
        clear HFK'
        gi_wp2
        refine ⟨fun _ h => (by cases h), ?_⟩
        gi_wp2
        go_roundw
        case rel => exact ⟨k + 1, pre, by simp, by omega, Lib.hid ⟨by rw [HR.out.1, HF2.out], HJ.out, HAS.out⟩⟩
        case measure => simp only [intOf]; omega
    ·have hkm' : ¬ (k : Int) < (m3 : Int) := by omega
     gi_wp2
     go_end0
     have hf : frees (freeB now last) now.length k = [] := by rw [frees, if_neg (by rw [← HM3.out]; exact hkm)]
     exact ⟨⟨_, rfl⟩, .inl (by rw [HR.out.1, hf, List.append_nil]; exact HR.out.2.1)⟩
  | _ => exact h1.elim
theorem all_seq (n : Nat) {w0 : World} {Bm N q base : Nat} {nv lv : Value} {now last : List Bool} (hN : N ≤ w0.heap.size) (hcB : w0.cell? ⟨Bm, 0, none⟩ = some (.pointer (some ⟨q, 0, none⟩))) (h : MapR w0 base q nv lv now last) (hll : last.length = now.length) (hm : now.length ≤ 512) :
  SeqU n Tryz.prog 137 #[.pointer (some ⟨Bm, 0, none⟩)] encR (KpM N) (frees (freeB now last) now.length 0) w0 :=
 fun l J Jx W hW hJ _ hY h0 => callsIn_wide.2 (all1_in n l Bm N q base nv lv now last hll hm J Jx hJ hY W (Nat.le_trans hN hW.size) (cell_keep hW hcB) (h.keepU hW) h0)
end Go.Proofs.YtgpefiacbipfpaaGreatDoor

namespace Go.Proofs.YtgpefiacbipfpaaGreatDoor
open Go.RowKit Go.Maps
attribute [local go_sem] Oper.semAt_some
theorem stab_blk {C B : Nat} {o : Obj} (hc : o.isCells = true) : Stab C fun W => W.heap[B]? = some o := fun X Y F h u hr => by
 refine (u.block B (lt_of_blk h) fun hF => ?_).trans h
 obtain ⟨-, o', ho, hn⟩ := hr B hF
 rw [h] at ho; cases ho; rw [hc] at hn; cases hn
theorem stab_upd {C : Nat} {G : List Nat} {w : World} (hw : w.heap.size ≤ C) : Stab C fun W => Upd G w W := fun X Y F h u hr => h.next u fun k hk hlt => by have := (hr k hk).1; omega
theorem stab_size {C D : Nat} : Stab C fun W => D ≤ W.heap.size := fun _X _Y _F h u _ => Nat.le_trans h u.size
theorem stab_pure {C : Nat} {p : Prop} : Stab C fun _ => p := fun _ _ _ h _ _ => h
theorem Stab.ex {α : Sort _} {C : Nat} {I : α → World → Prop} (h : ∀ x, Stab C (I x)) : Stab C fun W => ∃ x, I x W := fun X Y F ⟨x, hx⟩ u hr => ⟨x, h x X Y F hx u hr⟩
theorem KpM.set {N : Nat} {W : World} {B o : Nat} {c : Array Value} {t : TypeId} {fr : Nat × Nat} (h : W.heap[B]? = some (.cells c t fr)) (h1 : t ≠ 4) (h2 : t ≠ 149) (v : Value) : KpM N W (W.setCell ⟨B, o, none⟩ v) := fun k vs ty fr' _ hk hty => by
 rw [heap_setCell, if_neg (fun e => ?_)]
 ·exact hk
 ·subst e
  rw [hk] at h
  simp only [Option.some.injEq, Obj.cells.injEq] at h
  obtain ⟨-, rfl, -⟩ := h
  rcases hty with e | e
  ·exact h1 e
  ·exact h2 e
theorem lenR_snoc (l : List Run) (x : Run) : lenR (l ++ [x]) = lenR l + x.2 := by simp [lenR]
theorem lenR_free (now last : List Bool) : lenR (frees (freeB now last) now.length 0) ≤ now.length := by
 rw [← expand_len, expand_frees]
 unfold freeList
 exact Nat.le_trans (List.length_filter_le _ _) (by simp)
theorem lenR_pre {pre l : List Run} (h : pre <+: l) : lenR pre ≤ lenR l := by
 obtain ⟨t, rfl⟩ := h
 simp [lenR]
set_option maxRecDepth 100000 in
set_option maxHeartbeats 4000000 in
theorem acount_ok (w : World) {q base : Nat} {nv lv : Value} {now last : List Bool} (h : MapR w base q nv lv now last) (hll : last.length = now.length) (hm : now.length ≤ 512) :
  Calls Tryz.prog 87 #[.pointer (some ⟨q, 0, none⟩)] w fun e w' => e = .returned (.int .i64 (lenR (frees (freeB now last) now.length 0))) ∧ Upd [] w w' := by
 refine (callsIn_wide (n := 6)).1 ?_
 refine callsIn_of_wp_marks Tryz.func87 rfl trivial ?_ rfl
 simp only [Tryz.ntmps87, List.size_toArray, List.length_cons, List.length_nil, Nat.reduceAdd, Nat.reduceSub, Array.replicate_succ, Array.replicate_zero, List.push_toArray, List.append_toArray, List.nil_append, List.cons_append]
 gi_wp2
 refine ⟨trivial, (callsIn_wide.2 (aall_ok _ _)).mono ?_⟩
 rintro e w' ⟨rfl, rfl⟩
 have hb0 := heap_keepA (.cells #[.pointer (some ⟨q, 0, none⟩)] 81 (0, 0)) (heap_top w (.cells #[.int .i64 0] 3 (0, 0)))
 have hbm := heap_top (w.alloc (.cells #[.int .i64 0] 3 (0, 0))) (.cells #[.pointer (some ⟨q, 0, none⟩)] 81 (0, 0))
 have hu : Upd [] w ((w.alloc (.cells #[.int .i64 0] 3 (0, 0))).alloc (.cells #[.pointer (some ⟨q, 0, none⟩)] 81 (0, 0))) := ((Upd.refl [] w).alloc _).alloc _
 rw [World.size_alloc] at hbm
 rw [World.size_alloc]
 generalize (w.alloc (.cells #[.int .i64 0] 3 (0, 0))).alloc (.cells #[.pointer (some ⟨q, 0, none⟩)] 81 (0, 0)) = W0 at *
 gi_wp2
 have hsz : w.heap.size + 1 < W0.heap.size := lt_of_blk hbm
 have hM := h.keepU hu
 refine wp_rangeU (gf := 137) (lb := #[.pointer (some ⟨w.heap.size + 1, 0, none⟩)]) rfl (enters_of Tryz.func137 (by kernel_rfl) rfl)
  (all_seq 5 (Nat.le_refl _) (cell_blk hbm 0) hM hll hm) KpM.t (fun W l o o' _ ho hc => KpM.b W l o o' ho hc) (Upd.refl [] _) (fun _ => rfl)
  (fun pre W => W.heap[w.heap.size]? = some (.cells #[.int .i64 (lenR pre)] 3 (0, 0)) ∧ Upd [] w W ∧ W0.heap.size ≤ W.heap.size)
  (fun _ _ _ => False)
  (fun _ => (stab_blk rfl).and ((stab_upd (by omega)).and stab_size))
  (fun _ _ => stab_pure)
  ⟨hb0, hu, Nat.le_refl _⟩
  (fun x a' W => ∃ Bx, (W0.heap.size ≤ Bx ∧ a' = { tmps := #[.pointer (some ⟨q, 0, none⟩), undef, .int .i64 0, .pointer (some ⟨w.heap.size, 0, none⟩), .pointer (some ⟨Bx, 0, none⟩), .pointer (some ⟨q, 0, none⟩), .func (.func 137) #[] #[.pointer (some ⟨w.heap.size + 1, 0, none⟩)], .agg #[.int .i64 x.1, .int .i64 x.2], undef, undef, undef, undef, undef], defers := [] }) ∧ W.heap[Bx]? = some (.cells #[.int .i64 x.1, .int .i64 x.2] 148 (0, 0)))
  (fun _ _ => Stab.ex fun _ => stab_pure.and (stab_blk rfl))
  ?assign ?body ?done ?stop
 case assign =>
  rintro l pre x W K ⟨hi1, hi2, hi3⟩ hK
  gi_wp2
  exact hK _ _ (KeepsOthers.alloc _ _) (KpM.u ((Upd.refl [] W).alloc _)) ⟨heap_keepA _ hi1, hi2.alloc _, by rw [World.size_alloc]; omega⟩ ⟨W.heap.size, ⟨hi3, rfl⟩, heap_top _ _⟩
 case body =>
  rintro l pre x a' W ⟨hi1, hi2, hi3⟩ ⟨Bx, ⟨hBx, rfl⟩, hbx⟩ hpre
  have c0 := cell_blk hi1 0
  have f0 := frozen_blk hi1 0
  have d1 := cell_blk hbx 1
  simp only [List.getElem?_toArray, List.getElem?_cons_zero, List.getElem?_cons_succ] at c0 d1
  have hle := lenR_pre hpre
  rw [lenR_snoc] at hle
  have hle2 := lenR_free now last
  have hlt : (lenR pre : Int) + (x.2 : Int) ≤ 512 := by omega
  have HP := Lib.hid hpre
  clear hpre
  gi_wp2
  refine ⟨KeepsOthers.setCell _ _ _, KpM.set hi1 (by decide) (by decide) _, ?_, hi2.setCellNew (Nat.le_refl _) _ _, by rw [World.size_setCell]; exact hi3⟩
  rw [lenR_snoc, Int.natCast_add]
  exact setBox hi1 _
 case done =>
  rintro D W hD ⟨hi1, hi2, hi3⟩ hK
  have c0 := cell_blk hi1 0
  simp only [List.getElem?_toArray, List.getElem?_cons_zero] at c0
  gi_wp2
  refine ⟨by simp, .inl ⟨_, _, rfl, run_takeDeferred hK, ?_⟩⟩
  exact ⟨_, results_tmp rfl _ _ _, rfl, hi2.next (Upd.putObj D _) (by simp; omega)⟩
 case stop =>
  rintro D c pre W _ _ h _
  exact h.elim
end Go.Proofs.YtgpefiacbipfpaaGreatDoor
