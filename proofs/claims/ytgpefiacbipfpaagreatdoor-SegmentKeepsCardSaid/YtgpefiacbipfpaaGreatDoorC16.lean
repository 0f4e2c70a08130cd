/- Which blocks are free, in memory: Blocks, Commit, Reset. A new map of free blocks. A range over a function whose iterator clones rows and draws: the law with 'Upd []' for what an iterator does; regions that draw their order within a round. The runs of free blocks: All's closures. -/
import Derived.RangeFuncNested
import Derived.RangeFuncKeeps
import Derived.RangeFuncLeaves
import Derived.RangeFuncBound
import Derived.RangeFuncCalls
import Derived.OrdersHeld
import Derived.OrdersIn
import Derived.Deep.RegionHeld3
import Derived.Shelf.Abstract
import Derived.OwnWalkIn
import Derived.TacticsInMore
import Derived.LoopNIn
import Derived.LoopIn
import Derived.Test.YtgpefiacbipfpaaGreatDoorC14
namespace Go.Proofs.YtgpefiacbipfpaaGreatDoor
open Go.RowKit Go.Maps
abbrev boxA (nv lv : Value) : Obj := .cells #[nv, lv] 151 (0, 0)
abbrev OwB (w : World) (base : Nat) (v : Value) (l : List Bool) : Prop := OwnG cB 4 1 w base v l
structure MapR (w : World) (base q : Nat) (nv lv : Value) (now last : List Bool) : Prop where
 box : w.heap[q]? = some (boxA nv lv)
 now : OwB w base nv now
 last : OwB w base lv last
 ne1 : ∀ g, nv.ownBlock = some g → g ≠ q
 ne2 : ∀ g, lv.ownBlock = some g → g ≠ q
 fit : base ≤ w.heap.size
 sep : ∀ g, nv.ownBlock = some g → lv.ownBlock ≠ some g
set_option maxRecDepth 100000 in
theorem ablocks_ok (w : World) {base q : Nat} {nv lv : Value} {now last : List Bool} (h : MapR w base q nv lv now last) : Calls Tryz.prog 133 #[.pointer (some ⟨q, 0, none⟩)] w fun e w' => e = .returned (.int .i64 now.length) ∧ w' = w := by
 have c0 := cell_blk h.box 0
 simp only [List.getElem?_toArray, List.getElem?_cons_zero] at c0
 obtain ⟨a, c, m, hm, rfl⟩ := h.now.sliceM
 rw [← hm]
 clear h hm
 go_enter Tryz.func133, Tryz.ntmps133
 go_wp2_with fail
 go_ret
 exact ⟨rfl, rfl⟩
theorem boxA_last {w : World} {q : Nat} {nv lv : Value} (h : w.heap[q]? = some (boxA nv lv)) (v : Value) : (w.setCell ⟨q, 1, none⟩ v).heap[q]? = some (boxA nv v) := by
 rw [heap_setCell, if_pos rfl, h]; rfl
theorem boxA_now {w : World} {q : Nat} {nv lv : Value} (h : w.heap[q]? = some (boxA nv lv)) (v : Value) : (w.setCell ⟨q, 0, none⟩ v).heap[q]? = some (boxA v lv) := by
 rw [heap_setCell, if_pos rfl, h]; rfl
set_option maxRecDepth 100000 in
set_option maxHeartbeats 2000000 in
theorem acommit_ok (w : World) {base q : Nat} {nv lv : Value} {now last : List Bool} (h : MapR w base q nv lv now last) (hl : now.length ≤ 1000000) :
  Calls Tryz.prog 52 #[.pointer (some ⟨q, 0, none⟩)] w fun e w' => e = .returned (.tuple #[]) ∧ ∃ lv', MapR w' base q nv lv' now now ∧ Upd [q] w w' ∧ ∀ g, lv'.ownBlock = some g → w.heap.size ≤ g := by
 have c0 := cell_blk h.box 0
 simp only [List.getElem?_toArray, List.getElem?_cons_zero] at c0
 have HM := Lib.hid h
 have hq := lt_of_blk h.box
 have HC := Lib.hid (cloneB_ok w (OwnG.rd TB h.now) (by omega))
 clear h
 go_enter Tryz.func52, Tryz.ntmps52
 go_wp2_with fail
 refine HC.out.mono ?_
 rintro e w1 ⟨v1, rfl, ho, hu⟩
 obtain ⟨a1, k1, m1, hm1, rfl⟩ := ho.sliceM
 have hb1 := (hu.block q hq (by simp)).trans HM.out.box
 have HB1 := Lib.hid hb1
 have d1 := cell_blk hb1 1
 have f1 := frozen_blk hb1 1
 simp only [List.getElem?_toArray, List.getElem?_cons_zero, List.getElem?_cons_succ] at d1
 have H1 := Lib.hid (And.intro ho hu)
 clear ho hu hb1 hm1 HC
 go_wp2_with fail
 go_end0
 have hU : Upd [q] w1 (w1.setCell ⟨q, 1, none⟩ (.slice a1 m1 k1)) := (Upd.refl _ _).setCell (by simp) _ _
 have hlow : ∀ g, (Value.slice a1 m1 k1).ownBlock = some g → w.heap.size ≤ g := fun g hg => (H1.out.1.block g hg).1
 refine ⟨rfl, _, ⟨boxA_last HB1.out _, (HM.out.now.upd H1.out.2 (by simp)).upd hU (fun j hj e => ?_), ?_, HM.out.ne1, fun g hg => by have := hlow g hg; omega, Nat.le_trans HM.out.fit (Nat.le_trans H1.out.2.size hU.size), fun g h1 h2 => by have := (HM.out.now.block g h1).2; have := hlow g h2; omega⟩, (H1.out.2.mono (by simp)).trans hU, hlow⟩
 ·exact HM.out.ne1 j e (List.mem_singleton.1 hj)
 ·have ho2 := H1.out.1.upd hU (fun j hj e => by have := hlow j e; simp at hj; omega)
  exact ho2.base HM.out.fit
end Go.Proofs.YtgpefiacbipfpaaGreatDoor

namespace Go.Proofs.YtgpefiacbipfpaaGreatDoor
open Go.RowKit Go.Maps
theorem flatB_rep (n : Nat) : flatG cB (List.replicate n false) = List.replicate n (.bool false) := by
 induction n with
 | zero => rfl
 | succ n ih => rw [List.replicate_succ, List.replicate_succ, ← ih]; rfl
theorem madeB (n : Nat) : madeCells #[.bool false] (n * 1) = (flatG cB (List.replicate n false)).toArray := by
 rw [flatB_rep]
 apply Array.ext
 ·rw [size_madeCells]; simp
 ·intro i h1 h2
  simp [madeCells, Nat.mod_one]
theorem run_make_B (w : World) (n : Nat) (hn : n ≤ 1000000) : (Instr.makeSlice 149 (.int .i64 n) (.int .i64 n)).run Tryz.prog w = .ok (.slice (some ⟨w.heap.size, 0, none⟩) n n) (w.alloc (.cells (flatG cB (List.replicate n false)).toArray 4)) := by
 obtain ⟨i, h0, h1, h2, h3⟩ := info_parts (show (Tryz.prog.info? 4).map (fun i => (i.zero, i.size, i.bytes)) = some (some (.bool false), 1, 1) by kernel_rfl)
 have hrun := run_make (P := Tryz.prog) w 149 4 i _ TB.und h0 h1 .i64 .i64 (n : Int) (n : Int) (by omega) (Int.le_refl _) (by rw [h3]; omega) (by omega)
 rw [h2, Int.toNat_natCast] at hrun
 have e : madeCells (Value.bool false).cells (n * 1) = (flatG cB (List.replicate n false)).toArray := madeB n
 rw [e] at hrun
 exact hrun
theorem heap_top' (w : World) (o : Obj) (B : Nat) (h : B = w.heap.size) : (w.alloc o).heap[B]? = some o := by rw [h]; exact heap_top _ _
theorem heap3a (w : World) (X Y Z : Obj) : (((w.alloc X).alloc Y).alloc Z).heap[w.heap.size]? = some X := by
 rw [heap_alloc, if_neg (by simp; omega), heap_alloc, if_neg (by simp), heap_alloc, if_pos rfl]
theorem heap3b (w : World) (X Y Z : Obj) : (((w.alloc X).alloc Y).alloc Z).heap[w.heap.size + 1]? = some Y := by
 rw [heap_alloc, if_neg (by simp), heap_alloc, if_pos (by simp)]
theorem OwB.made {W : World} {base B n : Nat} (h : W.heap[B]? = some (.cells (flatG cB (List.replicate n false)).toArray 4 (0, 0))) (hb : base ≤ B) (hn : n ≤ 1000000) : OwB W base (.slice (some ⟨B, 0, none⟩) n n) (List.replicate n false) := by
 have e : (List.replicate n false).length = n := List.length_replicate ..
 refine ⟨by rw [flatG_len TB], .inr ⟨B, n, _, by rw [e], hb, h, by rw [e]; exact Nat.le_refl _, by unfold maxLen; omega, by rw [List.size_toArray, flatG_len TB, e], ?_⟩⟩
 exact List.take_of_length_le (by rw [flatG_len TB]; exact Nat.le_refl _)
set_option maxRecDepth 100000 in
set_option maxHeartbeats 2000000 in
theorem anew_ok (w : World) (n : Nat) (hn : n ≤ 512) : Calls Tryz.prog 82 #[.int .i64 n] w fun e w' => ∃ nv lv, e = .returned (.pointer (some ⟨w.heap.size + 1 + 1, 0, none⟩)) ∧ Upd [] w w' ∧ MapR w' w.heap.size (w.heap.size + 1 + 1) nv lv (List.replicate n false) (List.replicate n false) := by
 have hmk := fun W : World => run_make_B W n (by omega)
 go_enter Tryz.func82, Tryz.ntmps82
 go_wp2_with fail
 go_region
 all_goals
  go_wp2_with fail
  go_ret
  refine ⟨_, _, rfl, ?_, ⟨heap_top' _ _ _ (by simp), OwB.made ?_ ?_ (by omega), OwB.made ?_ ?_ (by omega), ?_, ?_, by simp; omega, ?_⟩⟩
 all_goals first
  | exact ((((Upd.refl [] w).alloc _).alloc _).alloc _).drew
  | (rw [heap_drew]; exact heap3a _ _ _ _)
  | (rw [heap_drew]; exact heap3b _ _ _ _)
  | exact Nat.le_refl _
  | exact Nat.le_succ _
  | (intro g hg; simp only [Value.ownBlock, Option.some.injEq] at hg; omega)
  | (intro g h1 h2; simp only [Value.ownBlock, Option.some.injEq] at h1 h2; omega)
end Go.Proofs.YtgpefiacbipfpaaGreatDoor

namespace Go.Proofs.YtgpefiacbipfpaaGreatDoor
open Go.RowKit
theorem calls_round {l n : Nat} {P : Program} {f : FuncId} {args : Array Value} {w : World} {R : Ending → World → Prop} (h : Calls P f args w R) : CallsIn (Fence.wide.inRound l) n P f args w R :=
 CallsIn.inRound l (callsIn_wide.2 h)
theorem rows_round {l n : Nat} {P : Program} {row : String} {args : Array Value} {w : World} {R : Value → World → Prop} (h : Rows P row args w R) : RowsIn (Fence.wide.inRound l) n P row args w R :=
 fun c cs _ => let ⟨v, w', r, s⟩ := h c cs; ⟨v, w', r, stepsIn_wide.2 s⟩
theorem opIn_round {l n : Nat} {P : Program} {o : Oper} {a : Act} {w : World} {K : Act → World → Prop} {Q : Exit → Act → World → Prop} (hd : ∀ c, o.op ≠ .defer c) (h : o.wp P a w K Q) : o.wpIn (Fence.wide.inRound l) n P a w K Q := by
 refine ⟨fun _ _ => trivial, ?_⟩
 rw [Oper.semAt_plain _ _ _ hd]
 unfold Oper.wp at h
 generalize (execOp a.eval o).run P w = r at *
 cases r with
 | ok x w' =>
  cases x <;> simp only [Oper.upon, Oper.uponIn] at h ⊢ <;> first
   | exact h
   | exact h.elim
   | exact ⟨(fun h => by cases h), calls_round (Calls.mono h fun e w'' he => by cases e <;> exact he)⟩
   | exact ⟨(fun h => by cases h), rows_round h⟩
 | halt x w' => cases x <;> simp only [Oper.upon, Oper.uponIn] at h ⊢ <;> first | exact h | exact h.elim
def noDefer (ops : Array Oper) : Bool := ops.toList.all fun o => match o.op with | .defer _ => false | _ => true
theorem noDefer_at {ops : Array Oper} (h : noDefer ops = true) {i : Nat} {o : Oper} (hi : ops[i]? = some o) : ∀ c, o.op ≠ .defer c := by
 intro c hc
 have := List.all_eq_true.1 h o (by rw [Array.mem_toList_iff]; exact Array.mem_of_getElem? hi)
 rw [hc] at this
 cases this
theorem anyIn_round {l n : Nat} {P : Program} {md : Region.Mode} {ops : Array Oper} {Q : Exit → Act → World → Prop} (hd : noDefer ops = true) (hQ : ¬ LetsOut Q) : ∀ (fuel : Nat) (listed : Array Bool) (a : Act) (w : World), wpAny P md ops Q fuel listed a w → wpAnyIn (Fence.wide.inRound l) n P md ops Q fuel listed a w
 | 0, _, _, _, h => h
 | fuel + 1, listed, a, w, h => by
  refine ⟨h.1, fun i hi => ?_⟩
  have h2 := h.2 i hi
  unfold wpOp at h2
  unfold wpOpIn
  split at h2
  ·rename_i ho
   rw [ho]
   exact anyIn_round hd hQ fuel _ a w h2
  ·rename_i o ho
   rw [ho]
   dsimp only
   split at h2
   ·rename_i hw
    rw [if_pos hw]
    rcases h2 with h2 | ⟨-, h2⟩
    ·exact Oper.wpIn_mono (fun a w h => anyIn_round hd hQ fuel _ a w h) (opIn_round (noDefer_at hd ho) h2)
    ·exact absurd h2 hQ
   ·rename_i hw
    rw [if_neg hw]
    exact ⟨fun _ _ => trivial, anyIn_round hd hQ fuel _ _ w h2⟩
theorem region_round {l n : Nat} {P : Program} {ops : Array Oper} {Q : Exit → Act → World → Prop} {S : World → Prop} {id : Nat} {a : Act} {w : World} (hm : P.follows .mixedOrders = true) (hd : noDefer ops = true) (hQ : ¬ LetsOut Q) (hS : S w.drew)
  (h : S w.drew → wpAnyH P .any ops Q S ops.size (Array.replicate ops.size false) a w.drew) : (Code.region id ops true).wpIn (Fence.wide.inRound l) n P Q a w :=
 wpIn_region_any hm (anyIn_round hd hQ _ _ _ _ (wpAny_of_held _ _ _ _ (h hS)))
theorem Upd.of_grown {w w' : World} {row : Option Nat} (h : w.grownBy w' row) : Upd row.toList w w' :=
 ⟨h.os, h.output, h.size, fun k hk hn => h.block k hk fun e => hn (by rw [← e]; simp)⟩
theorem Upd.putObj {W : World} (l : Nat) (o : Obj) : Upd [l] W (W.putObj l o) := Upd.of_grown (grownBy_putObj' W l o)
def Stab (B : Nat) (I : World → Prop) : Prop := ∀ X Y F, I X → Upd F X Y → (∀ r ∈ F, B ≤ r ∧ ∃ o : Obj, X.heap[r]? = some o ∧ o.isCells = false) → I Y
theorem Stab.put {B : Nat} {I : World → Prop} (h : Stab B I) {W : World} {l : Nat} {o : Obj} (o' : Obj) (hi : I W) (hl : B ≤ l) (ho : W.heap[l]? = some o) (hc : o.isCells = false) : I (W.putObj l o') :=
 h W _ [l] hi (Upd.putObj l o') fun r hr => by rw [List.mem_singleton] at hr; subst hr; exact ⟨hl, o, ho, hc⟩
theorem Stab.and {B : Nat} {I J : World → Prop} (h : Stab B I) (g : Stab B J) : Stab B fun W => I W ∧ J W := fun X Y F hx u hr => ⟨h X Y F hx.1 u hr, g X Y F hx.2 u hr⟩
def SeqV {α : Type} (n : Nat) (P : Program) (g : Nat) (lb : Array Value) (Enc : α → Array Value → Nat → World → Prop) (Kp : World → World → Prop) (full : List α) (w : World) : Prop :=
 ∀ (l : Nat) (J Jx : List α → World → Prop) (W : World), Upd [] w W → (∀ s X Y, J s X → Upd [] X Y → J s Y) → (∀ s X Y, Jx s X → Upd [] X Y → Jx s Y) →
  (∀ pre x vs W0 W1, J pre W0 → Upd [] W0 W1 → Enc x vs W0.heap.size W1 → pre ++ [x] <+: full → YieldAt Fence.wide (n - 1) P l vs W1 fun e W' =>
   (e = .returned (.bool true) ∧ J (pre ++ [x]) W' ∧ Kp W1 W') ∨ (e = .returned (.bool false) ∧ Jx (pre ++ [x]) W')) →
  J [] W →
  CallsIn Fence.wide n P g (#[.func (.yield l) #[] #[]] ++ lb) W fun e W' => (∃ v, e = .returned v) ∧ (J full W' ∨ ∃ pre, pre <+: full ∧ Jx pre W')
def SeqU {α : Type} (n : Nat) (P : Program) (g : Nat) (lb : Array Value) (encs : α → Array Value) (Kp : World → World → Prop) (full : List α) (w : World) : Prop :=
 ∀ (l : Nat) (J Jx : List α → World → Prop) (W : World), Upd [] w W → (∀ s X Y, J s X → Upd [] X Y → J s Y) → (∀ s X Y, Jx s X → Upd [] X Y → Jx s Y) →
  (∀ pre x W1, J pre W1 → pre ++ [x] <+: full → YieldAt Fence.wide (n - 1) P l (encs x) W1 fun e W' =>
   (e = .returned (.bool true) ∧ J (pre ++ [x]) W' ∧ Kp W1 W') ∨ (e = .returned (.bool false) ∧ Jx (pre ++ [x]) W')) →
  J [] W →
  CallsIn Fence.wide n P g (#[.func (.yield l) #[] #[]] ++ lb) W fun e W' => (∃ v, e = .returned v) ∧ (J full W' ∨ ∃ pre, pre <+: full ∧ Jx pre W')
theorem SeqU.v {α : Type} {n : Nat} {P : Program} {g : Nat} {lb : Array Value} {encs : α → Array Value} {Kp : World → World → Prop} {full : List α} {w : World} (h : SeqU n P g lb encs Kp full w) : SeqV n P g lb (fun x vs _ _ => vs = encs x) Kp full w :=
 fun l J Jx W a b c d e => h l J Jx W a b c (fun pre x W1 h1 h2 => d pre x _ W1 W1 h1 (Upd.refl _ _) rfl h2) e
theorem wp_rangeV {α : Type} {n : Nat} {P : Program} {g : Operand} {ps : Array Tmp} {assign body : Code} {Q : Exit → Act → World → Prop} {a : Act} {w : World}
  {gf : Nat} {lb : Array Value} (hg : a.eval g = .func (.func gf) #[] lb) (eg : ∀ args w, (callFunc gf args).run P w = .ok (.enter gf args) w)
  {Enc : α → Array Value → Nat → World → Prop} {Kp : World → World → Prop} {full : List α} {w0 : World} (hseq : SeqV (n - 1) P gf lb Enc Kp full w0)
  (hKt : ∀ {A B C : World}, Kp A B → Kp B C → Kp A C) (hKb : ∀ (W : World) (l : Nat) (o o' : Obj), w.heap.size ≤ l → W.heap[l]? = some o → o.isCells = false → Kp W (W.putObj l o')) (hb0 : Upd [] w0 w) (hps : ∀ x vs b W, Enc x vs b W → vs.size = ps.size)
  (I : List α → World → Prop) (Ix : Code → List α → World → Prop) (hI : ∀ s, Stab w.heap.size (I s)) (hIx : ∀ c s, Stab w.heap.size (Ix c s)) (h0 : I [] w) (Ax : List α → α → Act → World → Prop) (hAx : ∀ s x a', Stab w.heap.size (Ax s x a'))
  (hassign : ∀ (l : Nat) (pre : List α) (x : α) (vs : Array Value) (V W : World) (K : Act → World → Prop), I pre V → Upd [] V W → Enc x vs V.heap.size W → (∀ a' W', KeepsOthers W W' → Kp W W' → I pre W' → Ax pre x a' W' → K a' W') →
   assign.wpIn (Fence.wide.inRound l) (n - 1 - 1) P (Exit.then K (fun _ _ _ => False)) { tmps := (ps.zip vs).foldl (fun t (p, v) => t.setIfInBounds p v) a.tmps, defers := [] } W)
  (hbody : ∀ (l : Nat) (pre : List α) (x : α) (a' : Act) (W : World), I pre W → Ax pre x a' W → pre ++ [x] <+: full → body.wpIn (Fence.wide.inRound l) (n - 1 - 1) P (ownPostK Kp I Ix (pre ++ [x]) W) a' W)
  (hdone : ∀ (D : Nat) (W : World), w.heap.size ≤ D → I full W → W.heap[D]? = some (.deferred (some [])) → Q .normal { a with defers := { target := .collected D, args := #[] } :: a.defers } W)
  (hstop : ∀ (D : Nat) (c : Code) (pre : List α) (W : World), w.heap.size ≤ D → pre <+: full → Ix c pre W → W.heap[D]? = some (.deferred (some [])) → c.wpIn Fence.wide n P Q { a with defers := { target := .collected D, args := #[] } :: a.defers } W) :
  (Code.rangeFunc g ps assign body).wpIn Fence.wide n P Q a w := by
 refine wpIn_rangeFunc fun fn hfn => ?_
 let rec_ : LoopState → Option Code → Loop := fun st pe => { state := st, pending := pe, fn, tmps := a.tmps, params := ps, assign, body, defers := w.heap.size }
 obtain ⟨rc, hrc⟩ : ∃ rc, rc = rec_ := ⟨_, rfl⟩
 let W1 : World := (w.alloc (.deferred (some []))).alloc (.loop (rc .ready none))
 have hL1 : W1.heap[w.heap.size + 1]? = some (.loop (rc .ready none)) := by
  show ((w.alloc _).alloc _).heap[_]? = _
  rw [heap_alloc, if_pos (by simp)]
 have hD1 : W1.heap[w.heap.size]? = some (.deferred (some [])) := by
  show ((w.alloc _).alloc _).heap[_]? = _
  rw [heap_alloc, if_neg (by simp), heap_alloc, if_pos rfl]
 have hU1 : Upd [] w W1 := ((Upd.refl [] w).alloc _).alloc _
 have hI1 : I [] W1 := hI [] w W1 [] h0 hU1 (by simp)
 refine ⟨w.heap.size + 1, [{ target := .collected w.heap.size, args := #[] }], W1, { target := .fn (.func gf) lb, args := #[.func (.yield (w.heap.size + 1)) #[] #[]] }, W1, gf,
  #[.func (.yield (w.heap.size + 1)) #[] #[]] ++ lb, W1, ?_, ?_, fun _ _ => trivial, ?_, (fun h => by cases h), ?_⟩
 ·show _ = Result.ok _ ((w.alloc (.deferred (some []))).alloc (.loop (rc .ready none)))
  rw [hrc]; exact run_enterLoop_outer _ _ _ _ _
 ·simp only [resolve, hg]
  simp [go_sem]
 ·simp [invoke, go_sem, eg]
 ·clear_value W1
  have keepL : ∀ {X Y : World} {k : Nat} {o : Obj}, X.heap[k]? = some o → Upd [] X Y → Y.heap[k]? = some o := fun h u => (u.block _ (lt_of_blk h) (by simp)).trans h
  refine (hseq (w.heap.size + 1)
   (fun pre W => I pre W ∧ W.heap[w.heap.size + 1]? = some (.loop (rc .ready none)) ∧ W.heap[w.heap.size]? = some (.deferred (some [])))
   (fun pre W => ∃ c, Ix c pre W ∧ W.heap[w.heap.size + 1]? = some (.loop (rc .done (some c))) ∧ W.heap[w.heap.size]? = some (.deferred (some [])))
   W1 (hb0.trans hU1)
   (fun s X Y h u => ⟨hI s X Y [] h.1 u (by simp), keepL h.2.1 u, keepL h.2.2 u⟩)
   (fun s X Y ⟨c, h, h1, h2⟩ u => ⟨c, hIx c s X Y [] h u (by simp), keepL h1 u, keepL h2 u⟩)
   ?_ ⟨hI1, hL1, hD1⟩).mono ?_
  ·rintro pre x vs V W ⟨hi, hl, hk⟩ hvw henc hpre
   have hl := keepL hl hvw
   have hk := keepL hk hvw
   have hy := run_yield (P := P) (args := vs) hl (by rw [hrc]; exact hps x vs _ W henc)
   rw [hrc] at hy
   refine ⟨fn, _, assign, body, hy, roundIn_of_wpIn trivial (hassign _ pre x vs V W _ hi hvw henc ?_)⟩
   clear hy
   intro a' Wa hka hpa hia hax
   have hla := hka.same _ _ hl rfl
   have hda := hka.same _ _ hk rfl
   refine ⟨_, run_beginRound hla (by rw [hrc]), ?_⟩
   obtain ⟨Wb, hWb⟩ : ∃ Wb, Wb = Wa.putObj (w.heap.size + 1) (.loop { rc .ready none with state := .busy }) := ⟨_, rfl⟩
   rw [← hWb]
   have hlb : Wb.heap[w.heap.size + 1]? = some (.loop { rc .ready none with state := .busy }) := by rw [hWb]; exact World.putObj_heap_same (lt_of_blk hla)
   have hdb : Wb.heap[w.heap.size]? = some (.deferred (some [])) := by rw [hWb]; exact (World.putObj_heap_other (by omega)).trans hda
   have hpb : Kp W Wb := by rw [hWb]; exact hKt hpa (hKb _ _ _ _ (by omega) hla rfl)
   have hib : I pre Wb := by rw [hWb]; exact (hI pre).put _ hia (by omega) hla rfl
   have hab : Ax pre x a' Wb := by rw [hWb]; exact (hAx pre x a').put _ hax (by omega) hla rfl
   refine wpIn_mono (hbody (w.heap.size + 1) pre x a' Wb hib hab hpre) ?_
   have fin : ∀ (jump : Option Code) (W3 : World), KeepsOthers Wb W3 →
     W3.heap[w.heap.size + 1]? = some (.loop { rc .ready none with state := .busy }) ∧
     (Instr.endRound (w.heap.size + 1) jump).run P W3 = .ok (.bool jump.isNone) (W3.putObj (w.heap.size + 1) (.loop (rc (if jump.isNone then .ready else .done) jump))) ∧
     (W3.putObj (w.heap.size + 1) (.loop (rc (if jump.isNone then .ready else .done) jump))).heap[w.heap.size + 1]? = some (.loop (rc (if jump.isNone then .ready else .done) jump)) ∧
     (W3.putObj (w.heap.size + 1) (.loop (rc (if jump.isNone then .ready else .done) jump))).heap[w.heap.size]? = some (.deferred (some [])) := fun jump W3 h3 => by
    have hl3 := h3.same _ _ hlb rfl
    have hd3 := h3.same _ _ hdb rfl
    have hr := run_endRound (P := P) jump hl3
    refine ⟨hl3, ?_, World.putObj_heap_same (lt_of_blk hl3), (World.putObj_heap_other (by omega)).trans hd3⟩
    rw [hrc] at hr ⊢
    exact hr
   rintro e a3 W3 hp
   cases e with
   | normal =>
    obtain ⟨h3, hp3, hi3⟩ := hp
    obtain ⟨hl3, hr, hl4, hd4⟩ := fin none W3 h3
    exact ⟨_, _, hr, .inl ⟨rfl, ⟨(hI _).put _ hi3 (by omega) hl3 rfl, hl4, hd4⟩, hKt (hKt hpb hp3) (hKb _ _ _ _ (by omega) hl3 rfl)⟩⟩
   | ret =>
    obtain ⟨h3, hi3⟩ := hp
    obtain ⟨hl3, hr, hl4, hd4⟩ := fin (some .ret) W3 h3
    exact ⟨_, _, hr, .inr ⟨rfl, .ret, (hIx _ _).put _ hi3 (by omega) hl3 rfl, hl4, hd4⟩⟩
   | exit id =>
    obtain ⟨h3, hi3⟩ := hp
    obtain ⟨hl3, hr, hl4, hd4⟩ := fin (some (.exit id)) W3 h3
    exact ⟨_, _, hr, .inr ⟨rfl, .exit id, (hIx _ _).put _ hi3 (by omega) hl3 rfl, hl4, hd4⟩⟩
   | goto t =>
    obtain ⟨h3, hi3⟩ := hp
    obtain ⟨hl3, hr, hl4, hd4⟩ := fin (some (.goto t)) W3 h3
    exact ⟨_, _, hr, .inr ⟨rfl, .goto t, (hIx _ _).put _ hi3 (by omega) hl3 rfl, hl4, hd4⟩⟩
   | panic ch => exact hp.elim
   | outgrown => exact hp.elim
  ·rintro e W2 ⟨⟨v, rfl⟩, (⟨hi, hl, hk⟩ | ⟨pre, hpre, c, hi, hl, hk⟩)⟩
   ·exact ⟨none, _, by have := run_endLoop (P := P) hl (by rw [hrc]; simp [rec_]); rw [hrc] at this; exact this, hdone _ _ (Nat.le_refl _) ((hI _).put _ hi (by omega) hl rfl) ((World.putObj_heap_other (by omega)).trans hk)⟩
   ·exact ⟨some c, _, by have := run_endLoop (P := P) hl (by rw [hrc]; simp [rec_]); rw [hrc] at this; exact this, hstop _ c pre _ (Nat.le_refl _) hpre ((hIx _ _).put _ hi (by omega) hl rfl) ((World.putObj_heap_other (by omega)).trans hk)⟩
theorem wp_rangeU {α : Type} {n : Nat} {P : Program} {g : Operand} {ps : Array Tmp} {assign body : Code} {Q : Exit → Act → World → Prop} {a : Act} {w : World}
  {gf : Nat} {lb : Array Value} (hg : a.eval g = .func (.func gf) #[] lb) (eg : ∀ args w, (callFunc gf args).run P w = .ok (.enter gf args) w)
  {encs : α → Array Value} {Kp : World → World → Prop} {full : List α} {w0 : World} (hseq : SeqU (n - 1) P gf lb encs Kp full w0)
  (hKt : ∀ {A B C : World}, Kp A B → Kp B C → Kp A C) (hKb : ∀ (W : World) (l : Nat) (o o' : Obj), w.heap.size ≤ l → W.heap[l]? = some o → o.isCells = false → Kp W (W.putObj l o')) (hb0 : Upd [] w0 w) (hps : ∀ x, (encs x).size = ps.size)
  (I : List α → World → Prop) (Ix : Code → List α → World → Prop) (hI : ∀ s, Stab w.heap.size (I s)) (hIx : ∀ c s, Stab w.heap.size (Ix c s)) (h0 : I [] w) (Ax : α → Act → World → Prop) (hAx : ∀ x a', Stab w.heap.size (Ax x a'))
  (hassign : ∀ (l : Nat) (pre : List α) (x : α) (W : World) (K : Act → World → Prop), I pre W → (∀ a' W', KeepsOthers W W' → Kp W W' → I pre W' → Ax x a' W' → K a' W') →
   assign.wpIn (Fence.wide.inRound l) (n - 1 - 1) P (Exit.then K (fun _ _ _ => False)) { tmps := (ps.zip (encs x)).foldl (fun t (p, v) => t.setIfInBounds p v) a.tmps, defers := [] } W)
  (hbody : ∀ (l : Nat) (pre : List α) (x : α) (a' : Act) (W : World), I pre W → Ax x a' W → pre ++ [x] <+: full → body.wpIn (Fence.wide.inRound l) (n - 1 - 1) P (ownPostK Kp I Ix (pre ++ [x]) W) a' W)
  (hdone : ∀ (D : Nat) (W : World), w.heap.size ≤ D → I full W → W.heap[D]? = some (.deferred (some [])) → Q .normal { a with defers := { target := .collected D, args := #[] } :: a.defers } W)
  (hstop : ∀ (D : Nat) (c : Code) (pre : List α) (W : World), w.heap.size ≤ D → pre <+: full → Ix c pre W → W.heap[D]? = some (.deferred (some [])) → c.wpIn Fence.wide n P Q { a with defers := { target := .collected D, args := #[] } :: a.defers } W) :
  (Code.rangeFunc g ps assign body).wpIn Fence.wide n P Q a w :=
 wp_rangeV hg eg hseq.v hKt hKb hb0 (fun x _ _ _ h => h ▸ hps x) I Ix hI hIx h0 (fun _ => Ax) (fun _ => hAx) (fun l pre x _ V W K hi hvw he hK => by subst he; exact hassign l pre x W K (hI pre V W [] hi hvw (by simp)) hK) hbody hdone hstop
end Go.Proofs.YtgpefiacbipfpaaGreatDoor

namespace Go.Proofs.YtgpefiacbipfpaaGreatDoor
open Go.RowKit Go.Maps
def freeB (now last : List Bool) (i : Nat) : Bool := !(now.getD i true) && !(last.getD i true)
theorem RdG.bool {w : World} {a : Option Addr} {n c : Nat} {rs : List Bool} (h : RdG cB 1 w (.slice a n c) rs) {i : Nat} {r : Bool} (hr : rs[i]? = some r) : ∃ b off, a = some ⟨b, off, none⟩ ∧ w.cell? ⟨b, off + i, none⟩ = some (.bool r) := by
 obtain ⟨⟨a', c', hv, -, -, hat⟩, -⟩ := h
 simp only [Value.slice.injEq] at hv
 obtain ⟨rfl, -, rfl⟩ := hv
 obtain ⟨hi, rfl⟩ := List.getElem?_eq_some_iff.1 hr
 obtain ⟨b, off, rfl, hc⟩ := hat i hi
 have := hc 0 _ rfl
 rw [Nat.mul_one, Nat.add_zero] at this
 exact ⟨b, off, rfl, this⟩
set_option maxRecDepth 100000 in
set_option maxHeartbeats 2000000 in
theorem afree_ok (w : World) {B3 B4 : Nat} {v3 v4 : Value} {now last : List Bool} (c3 : w.cell? ⟨B3, 0, none⟩ = some v3) (c4 : w.cell? ⟨B4, 0, none⟩ = some v4) (h3 : RdG cB 1 w v3 now) (h4 : RdG cB 1 w v4 last) (hl : last.length = now.length) (hm : now.length ≤ 1000000) (i : Nat) (_hi : i ≤ 1000000) :
  Calls Tryz.prog 138 #[.int .i64 i, .pointer (some ⟨B3, 0, none⟩), .pointer (some ⟨B4, 0, none⟩)] w fun e w' => e = .returned (.bool (decide (i < now.length) && freeB now last i)) ∧ w' = w := by
 obtain ⟨a3, k3, rfl, -, -, -⟩ := h3.slice
 obtain ⟨a4, k4, rfl, -, -, -⟩ := h4.slice
 by_cases hlt : i < now.length
 ·obtain ⟨x, hx⟩ : ∃ x, now[i]? = some x := ⟨_, List.getElem?_eq_getElem hlt⟩
  obtain ⟨y, hy⟩ : ∃ y, last[i]? = some y := ⟨_, List.getElem?_eq_getElem (by omega)⟩
  obtain ⟨b3, o3, rfl, d3⟩ := h3.bool hx
  obtain ⟨b4, o4, rfl, d4⟩ := h4.bool hy
  have hr : (decide (i < now.length) && freeB now last i) = (!x && !y) := by
   unfold freeB
   rw [List.getD_eq_getElem?_getD, List.getD_eq_getElem?_getD, hx, hy]
   simp [hlt]
  rw [hr]
  clear hr h3 h4 hx hy
  rw [hl] at c4
  generalize now.length = m at *
  have hlt' : (i : Int) < (m : Int) := by omega
  have hm' : (m : Int) ≤ 1000000 := by omega
  clear hl
  cases x
  ·cases y
   ·go_enter Tryz.func138, Tryz.ntmps138
    go_wp2_with fail
    go_ret
    exact ⟨rfl, rfl⟩
   ·go_enter Tryz.func138, Tryz.ntmps138
    go_wp2_with fail
    go_ret
    exact ⟨rfl, rfl⟩
  ·go_enter Tryz.func138, Tryz.ntmps138
   go_wp2_with fail
   go_ret
   exact ⟨rfl, rfl⟩
 ·have hr : (decide (i < now.length) && freeB now last i) = false := by simp [hlt]
  rw [hr]
  clear hr h3 h4 hl
  generalize now.length = m at *
  have hlt' : ¬ (i : Int) < (m : Int) := by omega
  have hm' : (m : Int) ≤ 1000000 := by omega
  go_enter Tryz.func138, Tryz.ntmps138
  go_wp2_with fail
  go_ret
  exact ⟨rfl, rfl⟩
set_option maxRecDepth 100000 in
theorem aall_ok (w : World) (p : Option Addr) : Calls Tryz.prog 88 #[.pointer p] w fun e w' => e = .returned (.func (.func 137) #[] #[.pointer (some ⟨w.heap.size, 0, none⟩)]) ∧ w' = w.alloc (.cells #[.pointer p] 81 (0, 0)) := by
 go_enter Tryz.func88, Tryz.ntmps88
 go_wp2_with fail
 go_ret
 exact ⟨rfl, rfl⟩
end Go.Proofs.YtgpefiacbipfpaaGreatDoor
