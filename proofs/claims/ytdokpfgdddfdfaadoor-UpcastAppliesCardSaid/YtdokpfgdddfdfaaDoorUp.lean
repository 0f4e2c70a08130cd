/- Changes and upcasters in memory; slices.Backward's iterator. -/
import Derived.Test.YtdokpfgdddfdfaaDoorMp
import Derived.RangeFuncNested
import Derived.RangeFuncLeaves
import Derived.Shelf.Abstract
import Derived.OwnWalkIn
import Derived.TacticsInMore
import Derived.LoopNIn
import Derived.LoopIn
import Derived.Maps.OwnIn
namespace Go.Proofs.YtdokpfgdddfdfaaDoor
open Go.RowKit Go.Shelf
attribute [local go_sem] Oper.semAt_some

/-- A change. -/
structure Ch where
  kd : Int
  nm : ByteArray
  to : ByteArray
  f : Fd

abbrev aggC (c : Ch) : Value := .agg #[.int .i64 c.kd, .string c.nm, .string c.to, .string c.f.nm, .bool c.f.tx, .int .i64 c.f.n, .string c.f.s]

def ChAt (w : World) (b o : Nat) (c : Ch) : Prop :=
  w.cell? ⟨b, o, none⟩ = some (.int .i64 c.kd) ∧ w.cell? ⟨b, o + 1, none⟩ = some (.string c.nm) ∧ w.cell? ⟨b, o + 2, none⟩ = some (.string c.to) ∧ FAt w b (o + 3) c.f

/-- A slice whose elements, k cells each, read as a list. -/
def SlAt {α : Type} (k : Nat) (At : World → Nat → Nat → α → Prop) (w : World) (v : Value) (l : List α) : Prop :=
  ∃ a cap, v = .slice a l.length cap ∧ l.length ≤ cap ∧ cap ≤ maxLen ∧ ∀ i (h : i < l.length), ∃ b off, a = some ⟨b, off, none⟩ ∧ At w b (off + i * k) l[i]

abbrev ChsAt (w : World) (v : Value) (l : List Ch) : Prop := SlAt 7 ChAt w v l

theorem ChAt.keep {w w' : World} {b o : Nat} {c : Ch} (h : ChAt w b o c) (u : Upd [] w w') : ChAt w' b o c := by
  have hlt : b < w.heap.size := World.block_lt_of_cell? _ _ h.1
  have e : ∀ p, w'.cell? ⟨b, p, none⟩ = w.cell? ⟨b, p, none⟩ := fun p => World.cell?_of_block (u.block b hlt (by simp))
  unfold ChAt
  rw [e, e, e]
  exact ⟨h.1, h.2.1, h.2.2.1, h.2.2.2.upd u (by simp)⟩

theorem ChsAt.keep {w w' : World} {v : Value} {l : List Ch} (h : ChsAt w v l) (u : Upd [] w w') : ChsAt w' v l := by
  obtain ⟨a, cap, hv, h1, h2, h3⟩ := h
  exact ⟨a, cap, hv, h1, h2, fun i hi => by obtain ⟨b, off, e, hc⟩ := h3 i hi; exact ⟨b, off, e, hc.keep u⟩⟩

/-- An upcaster. -/
structure Up where
  ty : ByteArray
  fr : Int
  cv : Value
  ch : List Ch

abbrev aggU (u : Up) : Value := .agg #[.string u.ty, .int .i64 u.fr, u.cv]
def boxU (u : Up) : Obj := .cells #[.string u.ty, .int .i64 u.fr, u.cv] 38

/-- An upcaster's three cells. -/
def U3 (w : World) (b o : Nat) (u : Up) : Prop :=
  w.cell? ⟨b, o, none⟩ = some (.string u.ty) ∧ w.cell? ⟨b, o + 1, none⟩ = some (.int .i64 u.fr) ∧ w.cell? ⟨b, o + 2, none⟩ = some u.cv

def UAt (w : World) (b o : Nat) (u : Up) : Prop := U3 w b o u ∧ ChsAt w u.cv u.ch

abbrev UpsAt (w : World) (v : Value) (l : List Up) : Prop := SlAt 3 UAt w v l

theorem U3.lt {w : World} {b o : Nat} {u : Up} (h : U3 w b o u) : b < w.heap.size := World.block_lt_of_cell? _ _ h.1

theorem U3.of_blk {w w' : World} {b o : Nat} {u : Up} (h : U3 w b o u) (e : w'.heap[b]? = w.heap[b]?) : U3 w' b o u := by
  have q : ∀ p, w'.cell? ⟨b, p, none⟩ = w.cell? ⟨b, p, none⟩ := fun p => World.cell?_of_block e
  unfold U3
  rw [q, q, q]
  exact h

theorem UAt.keep {w w' : World} {b o : Nat} {x : Up} (h : UAt w b o x) (u : Upd [] w w') : UAt w' b o x :=
  ⟨h.1.of_blk (u.block b h.1.lt (by simp)), h.2.keep u⟩

theorem UpsAt.keep {w w' : World} {v : Value} {l : List Up} (h : UpsAt w v l) (u : Upd [] w w') : UpsAt w' v l := by
  obtain ⟨a, cap, hv, h1, h2, h3⟩ := h
  exact ⟨a, cap, hv, h1, h2, fun i hi => by obtain ⟨b, off, e, hc⟩ := h3 i hi; exact ⟨b, off, e, hc.keep u⟩⟩

/-- What a round keeps: all that lay below N, but block m. -/
def KpB (N m : Nat) (A B : World) : Prop := ∀ k, k < N → k ≠ m → B.heap[k]? = A.heap[k]?

theorem KpB.t {N m : Nat} {A B C : World} (h : KpB N m A B) (g : KpB N m B C) : KpB N m A C := fun k h1 h2 => (g k h1 h2).trans (h k h1 h2)

theorem KpB.b {N m : Nat} {w : World} (hn : N ≤ w.heap.size) (W : World) (l : Nat) (o o' : Obj) (hl : w.heap.size ≤ l) (_h : W.heap[l]? = some o) (_ : o.isCells = false) (_ : o.isWalk = false) : KpB N m W (W.putObj l o') :=
  fun k hk _ => World.putObj_heap_other (by omega)

/-- The indices, from the last one on. -/
def backs (n : Nat) : List (Fin n) := (List.finRange n).reverse
theorem backs_length (n : Nat) : (backs n).length = n := by simp [backs]
theorem backs_take (n j : Nat) (hj : j < n) : (backs n).take (n - j) = (backs n).take (n - 1 - j) ++ [⟨j, hj⟩] := by
  have h1 : n - j = n - 1 - j + 1 := by omega
  have h2 : n - 1 - j < (backs n).length := by rw [backs_length]; omega
  rw [h1, List.take_add_one, List.getElem?_eq_getElem h2]
  congr 1
  simp only [Option.toList_some, List.cons.injEq, and_true]
  have h3 : (backs n)[n - 1 - j]? = some ⟨j, hj⟩ := by
    unfold backs
    rw [List.getElem?_reverse (by simp; omega)]
    simp only [List.length_finRange]
    rw [List.getElem?_eq_getElem (by simp; omega)]
    congr 1
    ext
    simp
    omega
  rw [List.getElem?_eq_getElem h2] at h3
  simpa using h3

set_option maxRecDepth 100000 in
set_option maxHeartbeats 2000000 in
theorem back1_in (F : Fence) (n : Nat) (h43 : F.fn 43) (hro : F.round = none) (hn : 1 ≤ n) (l Bs N m : Nat) (a : Option Addr) (cap : Nat) (us : List Up) (hcap : us.length ≤ cap) (hc63 : cap ≤ 9223372036854775807)
    (J Jx : List (Fin us.length) → World → Prop)
    (hY : ∀ pre (x : Fin us.length) W, J pre W → pre.length < us.length → YieldAt F (n - 1) Tryd.prog l #[.int .i64 ((x : Nat) : Int), aggU us[x]] W fun e W' =>
      (e = .returned (.bool true) ∧ J (pre ++ [x]) W' ∧ KpB N m W W') ∨ (e = .returned (.bool false) ∧ Jx (pre ++ [x]) W'))
    (W : World) (hBs : W.cell? ⟨Bs, 0, none⟩ = some (.slice a us.length cap)) (hB1 : Bs < N) (hB2 : Bs ≠ m)
    (hU : ∀ i (h : i < us.length), ∃ b off, a = some ⟨b, off, none⟩ ∧ b < N ∧ b ≠ m ∧ U3 W b (off + i * 3) us[i]) (h0 : J [] W) :
    CallsIn F n Tryd.prog 43 #[.func (.yield l) #[] #[], .pointer (some ⟨Bs, 0, none⟩)] W fun e W' => (∃ v, e = .returned v) ∧ ((∃ ys, ys = backs us.length ∧ J ys W') ∨ (∃ pre, True ∧ Jx pre W')) := by
  refine callsIn_of_wp Tryd.func43 rfl h43 ?_ hro
  simp only [Tryd.ntmps43, List.size_toArray, List.length_cons, List.length_nil, Nat.reduceAdd, Nat.reduceSub, Array.replicate_succ, Array.replicate_zero, List.push_toArray, List.append_toArray, List.nil_append, List.cons_append]
  gi_wp2
  gi_loopw [3] (fun i wr => ∃ r : Nat, r ≤ us.length ∧ i = .int .i64 ((r : Int) - 1) ∧ J ((backs us.length).take (us.length - r)) wr ∧ Aside (KpB N m W wr))
    (fun i _ => (intOf i + 1).toNat)
  case atStart => exact ⟨us.length, Nat.le_refl _, rfl, by simpa using h0, fun _ _ _ => rfl⟩
  case round =>
    obtain ⟨r, hr, hi, hJs, hkp⟩ := hrel
    by_cases hr0 : r = 0
    · subst hr0
      obtain rfl := hi
      rw [Nat.sub_zero, List.take_of_length_le (by rw [backs_length]; exact Nat.le_refl _)] at hJs
      gi_wp2
      go_end0
      exact ⟨⟨_, rfl⟩, .inl ⟨_, rfl, hJs⟩⟩
    · obtain ⟨j, rfl⟩ : ∃ j, r = j + 1 := ⟨r - 1, by omega⟩
      rw [show (((j + 1 : Nat) : Int) - 1) = (j : Int) by omega] at hi
      obtain rfl := hi
      have hj : j < us.length := by omega
      have hcB : wr.cell? ⟨Bs, 0, none⟩ = some (.slice a us.length cap) := (World.cell?_of_block (hkp.out Bs hB1 hB2)).trans hBs
      obtain ⟨b, off, rfl, hb1, hb2, hu3⟩ := hU j hj
      obtain ⟨c0, c1, c2⟩ := hu3.of_blk (hkp.out b hb1 hb2)
      obtain ⟨fn, tmps, assign, body, hy, hR⟩ := hY _ ⟨j, hj⟩ wr hJs (by rw [List.length_take, backs_length]; omega)
      dsimp only at hy
      have hjl : (j : Int) < (us.length : Int) := by omega
      have HJ : Aside ((backs us.length).take (us.length - j) = (backs us.length).take (us.length - (j + 1)) ++ [⟨j, hj⟩]) := by
        have := backs_take us.length j hj
        rw [show us.length - 1 - j = us.length - (j + 1) by omega] at this
        exact this
      clear hJs hBs hU
      change Sem.run Tryd.prog (Instr.yield l #[.int .i64 (j : Int), .agg #[.string us[j].ty, .int .i64 us[j].fr, us[j].cv]]) wr = _ at hy
      generalize us[j] = u at *
      obtain ⟨ty, fr, cv, ch⟩ := u
      gi_wp2
      refine hR.mono ?_
      rintro e W3 (⟨rfl, hJ3, hk3⟩ | ⟨rfl, hJx3⟩)
      · rw [← HJ.out] at hJ3
        have HK : Aside (KpB N m W W3) := hkp.out.t hk3
        clear hk3
        gi_wp2
        go_roundw
        case rel => exact ⟨j, by omega, by simp, hJ3, HK⟩
        case measure => simp [intOf]
      · gi_wp2
        refine bodyPost_ret (results_none rfl _ _ _) rfl ?_
        exact ⟨⟨_, rfl⟩, .inr ⟨_, trivial, hJx3⟩⟩
end Go.Proofs.YtdokpfgdddfdfaaDoor
