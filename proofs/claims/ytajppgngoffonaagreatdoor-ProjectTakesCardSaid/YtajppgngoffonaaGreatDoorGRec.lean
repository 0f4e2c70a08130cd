/- Upcast, the ground: what a call leaves of the memory; rows; texts. Names: what may be one; the document's function answers so. Records in memory; the document's find and Get. Records: the document's Get. Records: rows of the call's own; the document's Drop. Records: an append of a record, nil or not, to a row of the call's own. Records: parts of a record; the document's Drop. Records: a field stored in a row; the document's Set. Records: the document's Set. Records: the document's Set, where the name is new. -/
import Derived.WalkKit
import Derived.ProofKit
import Derived.OpenShut
import Derived.Handy
import Derived.Lib.Hide
import Derived.Deep.LoopGhost
import Derived.Below
import Derived.Deep.RegionHeld3
import Derived.Deep.AppendLies
import Derived.Deep.RegionLaw
import Derived.Maps.AppendAt
import Derived.OwnWalk
import Derived.BigQuiet
import Derived.Deep.Cut
import Derived.Test.YtajppgngoffonaaGreatDoorChecked
namespace Go.Proofs.YtajppgngoffonaaGreatDoor
open Go.RowKit
def Obj.put (o : Nat) (v : Value) : Obj → Obj
  | .cells c e f => .cells (c.setIfInBounds o v) e f
  | x => x

theorem heap_setCell (w : World) (b o : Nat) (v : Value) (k : Nat) :
    (w.setCell ⟨b, o, none⟩ v).heap[k]? = if k = b then (w.heap[k]?).map (Obj.put o v) else w.heap[k]? := by
  simp only [World.setCell, Array.getElem?_modify]
  by_cases h : b = k
  · subst h
    simp only [if_true]
    cases w.heap[b]? with
    | none => rfl
    | some x => cases x <;> rfl
  · rw [if_neg h, if_neg (fun e => h e.symm)]

theorem heap_alloc (w : World) (o : Obj) (k : Nat) : (w.alloc o).heap[k]? = if k = w.heap.size then some o else w.heap[k]? := by
  show (w.heap.push o)[k]? = _
  rw [Array.getElem?_push]

theorem heap_drew (w : World) : w.drew.heap = w.heap := rfl

theorem cell_blk {w : World} {b : Nat} {c : Array Value} {e : TypeId} {f : Nat × Nat} (h : w.heap[b]? = some (.cells c e f)) (o : Nat) : w.cell? ⟨b, o, none⟩ = c[o]? := by
  simp [World.cell?, h]

theorem frozen_blk {w : World} {b : Nat} {c : Array Value} {e : TypeId} (h : w.heap[b]? = some (.cells c e (0, 0))) (o : Nat) : w.frozen? ⟨b, o, none⟩ = false := by
  simp [World.frozen?, h]

theorem lt_of_blk {w : World} {b : Nat} {o : Obj} (h : w.heap[b]? = some o) : b < w.heap.size := by
  rcases Nat.lt_or_ge b w.heap.size with h' | h'
  · exact h'
  · simp [Array.getElem?_eq_none h'] at h

/-- All blocks that were there stay, but those of F. -/
structure Upd (F : List Nat) (w w' : World) : Prop where
  os : w'.os = w.os
  output : w'.output = w.output
  size : w.heap.size ≤ w'.heap.size
  block : ∀ k, k < w.heap.size → k ∉ F → w'.heap[k]? = w.heap[k]?

theorem Upd.refl (F : List Nat) (w : World) : Upd F w w := ⟨rfl, rfl, Nat.le_refl _, fun _ _ _ => rfl⟩
theorem Upd.trans {F : List Nat} {a b c : World} (h : Upd F a b) (g : Upd F b c) : Upd F a c :=
  ⟨g.os.trans h.os, g.output.trans h.output, Nat.le_trans h.size g.size, fun k hk hn => (g.block k (Nat.lt_of_lt_of_le hk h.size) hn).trans (h.block k hk hn)⟩
theorem Upd.next {F G : List Nat} {a b c : World} (h : Upd F a b) (g : Upd G b c) (hs : ∀ k, k ∈ G → k < a.heap.size → k ∈ F) : Upd F a c :=
  ⟨g.os.trans h.os, g.output.trans h.output, Nat.le_trans h.size g.size, fun k hk hn => (g.block k (Nat.lt_of_lt_of_le hk h.size) (fun q => hn (hs k q hk))).trans (h.block k hk hn)⟩
theorem Upd.mono {F G : List Nat} {w w' : World} (h : Upd F w w') (hs : ∀ k, k ∈ F → k < w.heap.size → k ∈ G) : Upd G w w' :=
  ⟨h.os, h.output, h.size, fun k hk hn => h.block k hk (fun hf => hn (hs k hf hk))⟩
theorem Upd.alike {F : List Nat} {w w' w'' : World} (h : Upd F w w') (g : w''.Alike w') : Upd F w w'' :=
  ⟨g.2.1.trans h.os, g.2.2.trans h.output, by rw [g.1]; exact h.size, fun k hk hn => by rw [g.1]; exact h.block k hk hn⟩
theorem Upd.setCell {F : List Nat} {w w' : World} (h : Upd F w w') {b : Nat} (hb : b ∈ F) (o : Nat) (v : Value) : Upd F w (w'.setCell ⟨b, o, none⟩ v) :=
  h.trans ⟨rfl, rfl, by simp, fun k _ hn => by rw [heap_setCell, if_neg (by rintro rfl; exact hn hb)]⟩
theorem Upd.setCellNew {F : List Nat} {w w' : World} (h : Upd F w w') {b : Nat} (hb : w.heap.size ≤ b) (o : Nat) (v : Value) : Upd F w (w'.setCell ⟨b, o, none⟩ v) :=
  ⟨h.os, h.output, by simpa using h.size, fun k hk hn => by rw [heap_setCell, if_neg (by omega)]; exact h.block k hk hn⟩
theorem Upd.alloc {F : List Nat} {w w' : World} (h : Upd F w w') (o : Obj) : Upd F w (w'.alloc o) :=
  h.trans ⟨rfl, rfl, by simp, fun k hk _ => by rw [heap_alloc, if_neg (by omega)]⟩
theorem Upd.drew {F : List Nat} {w w' : World} (h : Upd F w w') : Upd F w w'.drew := ⟨h.os, h.output, h.size, h.block⟩

theorem alike_drew (w : World) : w.drew.Alike w := ⟨rfl, rfl, rfl⟩
theorem alike_refl (w : World) : w.Alike w := ⟨rfl, rfl, rfl⟩

theorem bytes_beq (a b : ByteArray) : (a == b) = decide (a = b) := by
  cases a with | mk a => cases b with | mk b =>
  rw [Bool.eq_iff_iff]
  show ByteArray.beq ⟨a⟩ ⟨b⟩ = true ↔ _
  simp only [ByteArray.beq, decide_eq_true_eq, ByteArray.mk.injEq]
  exact beq_iff_eq

/-- Behind an append to a row of the call's own. -/
theorem Upd.grown {F : List Nat} {w a b : World} {row : Option Nat} (h : Upd F w a) (hg : a.grownBy b row) (hr : ∀ k, row = some k → w.heap.size ≤ k) : Upd F w b :=
  ⟨hg.os.trans h.os, hg.output.trans h.output, Nat.le_trans h.size hg.size, fun k hk hn => (hg.block k (Nat.lt_of_lt_of_le hk h.size) (fun e => by have := hr k e.symm; omega)).trans (h.block k hk hn)⟩
theorem ownBlock_ge {w : World} {base : Nat} {e : TypeId} {size : Nat} {v : Value} {n : Nat} {xs : List Value} (h : w.ownsRow base e size v n xs) : ∀ k, v.ownBlock = some k → base ≤ k := fun k hk => (h.lt k hk).1
/-- A row is owned in whatever world has its block as it was. -/
theorem own_upd {F : List Nat} {w w' : World} {base : Nat} {e : TypeId} {size : Nat} {v : Value} {n : Nat} {xs : List Value} (h : w.ownsRow base e size v n xs) (u : Upd F w w') (hF : ∀ k ∈ F, v.ownBlock ≠ some k) : w'.ownsRow base e size v n xs := by
  have hlt := h.lt
  obtain ⟨h1, h2⟩ := h
  refine ⟨h1, ?_⟩
  rcases h2 with h2 | ⟨g, cap, cur, hv, hg, hh, r⟩
  · exact Or.inl h2
  · subst hv
    have := (hlt g rfl).2
    exact Or.inr ⟨g, cap, cur, rfl, hg, by rw [u.block g this (fun q => hF g q rfl)]; exact hh, r⟩
theorem Upd.below {F : List Nat} {w a b : World} (h : Upd F w a) {B : Nat} (g : Below B a b) (hB : w.heap.size ≤ B) : Upd F w b :=
  ⟨g.os.trans h.os, g.output.trans h.output, Nat.le_trans h.size g.size, fun k hk hn => (g.block k (Nat.lt_of_lt_of_le hk hB)).trans (h.block k hk hn)⟩
end Go.Proofs.YtajppgngoffonaaGreatDoor

namespace Go.Proofs.YtajppgngoffonaaGreatDoor
open Go.RowKit

def okByte (c : Nat) : Bool := (decide (97 ≤ c) && decide (c ≤ 122)) || (decide (48 ≤ c) && decide (c ≤ 57)) || decide (c = 95)
def nameL (l : List UInt8) : Bool := decide (1 ≤ l.length) && decide (l.length ≤ 32) && decide (97 ≤ (l.headD 0).toNat) && decide ((l.headD 0).toNat ≤ 122) && l.all fun c => okByte c.toNat
def nameOk (s : ByteArray) : Bool := nameL s.data.toList

theorem bytes_head (s : ByteArray) (h : 0 < s.size) : s.data.toList.headD 0 = s[0] := by
  obtain ⟨⟨l⟩⟩ := s
  cases l with
  | nil => exact absurd h (by decide)
  | cons c l => rfl

theorem bytes_getD (s : ByteArray) (i : Nat) (h : i < s.size) : s.data.toList.getD i 0 = s[i] := by
  obtain ⟨⟨l⟩⟩ := s
  simp [List.getD_eq_getElem?_getD, List.getElem?_eq_getElem (show i < l.length from h)]
  rfl

theorem all_take {α : Type} {p : α → Bool} {d : α} : ∀ (l : List α) (i : Nat), i < l.length → (l.take i).all p = true → ((l.take (i + 1)).all p = p (l.getD i d)) := by
  intro l i h1 h2
  rw [List.take_add_one, List.getElem?_eq_getElem h1]
  simp only [Option.toList_some, List.all_append, h2, Bool.true_and, List.getD_eq_getElem?_getD, List.getElem?_eq_getElem h1, Option.getD_some, List.all_cons, List.all_nil, Bool.and_true]

theorem all_of_take {α : Type} {p : α → Bool} (l : List α) (i : Nat) (h : (l.take i).all p = false) : l.all p = false := by
  rw [Bool.eq_false_iff] at h ⊢
  intro q
  exact h (List.all_eq_true.2 fun x hx => List.all_eq_true.1 q x (List.mem_of_mem_take hx))

set_option maxRecDepth 100000 in
set_option maxHeartbeats 1000000 in
theorem refName_ok (s : ByteArray) (w : World) (hs : s.size ≤ 9223372036854775807) : Calls Tryz.prog 34 #[.string s] w fun e w' => e = .returned (.bool (nameOk s)) ∧ w = w' := by
  by_cases h1 : s.size < 1
  · have hr : nameOk s = false := by
      unfold nameOk nameL
      have : s.data.toList.length = s.size := by simp
      simp; omega
    rw [hr]
    go_enter Tryz.func34, Tryz.ntmps34
    go_wp2_with fail
    go_ret
    exact ⟨rfl, rfl⟩
  by_cases h2 : 32 < s.size
  · have hr : nameOk s = false := by
      unfold nameOk nameL
      have : s.data.toList.length = s.size := by simp
      simp; omega
    rw [hr]
    go_enter Tryz.func34, Tryz.ntmps34
    go_wp2_with fail
    go_ret
    exact ⟨rfl, rfl⟩
  have h0 : 0 < s.size := by omega
  by_cases h3 : s[0].toNat < 97
  · have hr : nameOk s = false := by
      unfold nameOk nameL
      rw [bytes_head s h0]
      simp; omega
    rw [hr]
    go_enter Tryz.func34, Tryz.ntmps34
    go_wp2_with fail
    go_ret
    exact ⟨rfl, rfl⟩
  by_cases h4 : 122 < s[0].toNat
  · have hr : nameOk s = false := by
      unfold nameOk nameL
      rw [bytes_head s h0]
      simp; omega
    rw [hr]
    go_enter Tryz.func34, Tryz.ntmps34
    go_wp2_with fail
    go_ret
    exact ⟨rfl, rfl⟩
  have hN : nameOk s = s.data.toList.all fun c => okByte c.toNat := by
    unfold nameOk nameL
    rw [bytes_head s h0]
    have : s.data.toList.length = s.size := by simp
    have e1 : (1 ≤ s.data.toList.length) = True := by simp; omega
    have e2 : (s.data.toList.length ≤ 32) = True := by simp; omega
    have e3 : (97 ≤ s[0].toNat) = True := by simp; omega
    have e4 : (s[0].toNat ≤ 122) = True := by simp; omega
    simp only [e1, e2, e3, e4, decide_true, Bool.true_and]
  have HN := Lib.hid hN
  clear hN
  have hlen : s.data.toList.length = s.size := by simp
  have HL := Lib.hid hlen
  clear hlen
  go_enter Tryz.func34, Tryz.ntmps34
  go_wp2_with fail
  go_loopg [3] s.size (fun n i wr => ∃ j : Nat, i = .int .i64 j ∧ j ≤ s.size ∧ n = s.size - j ∧ Hid (((s.data.toList.take j).all fun c => okByte c.toNat) = true) ∧ wr = w)
  case atStart => exact ⟨0, rfl, by omega, rfl, Lib.hid (by simp), rfl⟩
  case round =>
    obtain ⟨j, rfl, hj, rfl, hA, rfl⟩ := hrel
    by_cases hjs : j < s.size
    · have hst := all_take (p := fun c : UInt8 => okByte c.toNat) (d := 0) s.data.toList j (by rw [HL.out]; exact hjs) hA.out
      rw [bytes_getD s j hjs] at hst
      by_cases hok : okByte s[j].toNat = true
      · have hA2 : Hid (((s.data.toList.take (j + 1)).all fun c => okByte c.toNat) = true) := Lib.hid (hst.trans hok)
        clear hst
        simp only [okByte, Bool.or_eq_true, Bool.and_eq_true, decide_eq_true_eq] at hok
        go_wp2_with fail
        all_goals first
          | (exfalso; simp only [bne_iff_ne, bne_eq_false_iff_eq, ne_eq] at *; omega)
          | (go_roundg (s.size - (j + 1))
             case measure => omega
             case rel => exact ⟨j + 1, by go_num, by omega, rfl, hA2, rfl⟩)
      · have hr : nameOk s = false := by
          rw [HN.out]
          exact all_of_take _ (j + 1) (hst.trans (by simpa using hok))
        clear hst
        simp only [okByte, Bool.or_eq_true, Bool.and_eq_true, decide_eq_true_eq] at hok
        have HR := Lib.hid hr
        clear hr
        go_wp2_with fail
        all_goals first
          | (exfalso; simp only [bne_iff_ne, bne_eq_false_iff_eq, ne_eq] at *; omega)
          | (go_ret; exact ⟨by rw [HR.out]; rfl, rfl⟩)
    · have hr : nameOk s = true := by
        rw [HN.out, ← hA.out, List.take_of_length_le (by rw [HL.out]; omega)]
      have HR := Lib.hid hr
      clear hr
      go_wp2_with fail
      go_ret
      exact ⟨by rw [HR.out]; rfl, rfl⟩
end Go.Proofs.YtajppgngoffonaaGreatDoor

namespace Go.Proofs.YtajppgngoffonaaGreatDoor
open Go.RowKit

/-- A field. -/
structure Fd where
  nm : ByteArray
  tx : Bool
  n : Int
  s : ByteArray

def cellsF (x : Fd) : List Value := [.string x.nm, .bool x.tx, .int .i64 x.n, .string x.s]
abbrev aggF (x : Fd) : Value := .agg #[.string x.nm, .bool x.tx, .int .i64 x.n, .string x.s]
def flatF (l : List Fd) : List Value := l.flatMap cellsF

theorem flatF_len (l : List Fd) : (flatF l).length = l.length * 4 := by
  induction l with
  | nil => rfl
  | cons x l ih => simp only [flatF, List.flatMap_cons, List.length_append, List.length_cons] at ih ⊢; rw [ih]; simp [cellsF]; omega
theorem flatF_app (l r : List Fd) : flatF (l ++ r) = flatF l ++ flatF r := by simp [flatF]
theorem flatF_at (l : List Fd) {i f : Nat} (hi : i < l.length) (hf : f < 4) : (flatF l)[i * 4 + f]? = (cellsF (l[i]))[f]? := by
  induction l generalizing i with
  | nil => simp at hi
  | cons x l ih =>
    cases i with
    | zero =>
      simp only [flatF, List.flatMap_cons]
      rw [List.getElem?_append_left (by simp [cellsF]; omega)]; simp
    | succ i =>
      simp only [flatF, List.flatMap_cons]
      rw [List.getElem?_append_right (by simp [cellsF]; omega)]
      have := ih (i := i) (by simpa using hi)
      simp only [flatF] at this
      rw [show (i + 1) * 4 + f - (cellsF x).length = i * 4 + f by simp [cellsF]; omega, this]; simp

/-- A field's four cells at b, from o on. -/
def FAt (w : World) (b o : Nat) (x : Fd) : Prop :=
  w.cell? ⟨b, o, none⟩ = some (.string x.nm) ∧ w.cell? ⟨b, o + 1, none⟩ = some (.bool x.tx) ∧ w.cell? ⟨b, o + 2, none⟩ = some (.int .i64 x.n) ∧ w.cell? ⟨b, o + 3, none⟩ = some (.string x.s)

theorem FAt.lt {w : World} {b o : Nat} {x : Fd} (h : FAt w b o x) : b < w.heap.size := World.block_lt_of_cell? _ _ h.1

theorem FAt.upd {w w' : World} {b o : Nat} {x : Fd} (h : FAt w b o x) {F : List Nat} (u : Upd F w w') (hF : b ∉ F) : FAt w' b o x := by
  have e : ∀ p, w'.cell? ⟨b, p, none⟩ = w.cell? ⟨b, p, none⟩ := fun p => World.cell?_of_block (u.block b h.lt hF)
  unfold FAt
  rw [e, e, e, e]
  exact h

/-- A slice that reads as a list of fields. -/
def RecAt (w : World) (v : Value) (l : List Fd) : Prop :=
  ∃ a cap, v = .slice a l.length cap ∧ l.length ≤ cap ∧ cap ≤ maxLen ∧ ∀ i (h : i < l.length), ∃ b off, a = some ⟨b, off, none⟩ ∧ FAt w b (off + i * 4) l[i]

theorem RecAt.upd {w w' : World} {v : Value} {l : List Fd} (h : RecAt w v l) {F : List Nat} (u : Upd F w w') (hF : ∀ b off n cap, v = .slice (some ⟨b, off, none⟩) n cap → b ∉ F) : RecAt w' v l := by
  obtain ⟨a, cap, hv, h1, h2, h3⟩ := h
  refine ⟨a, cap, hv, h1, h2, fun i hi => ?_⟩
  obtain ⟨b, off, rfl, hf⟩ := h3 i hi
  exact ⟨b, off, rfl, hf.upd u (hF _ _ _ _ hv)⟩

theorem RecAt.keep {w w' : World} {v : Value} {l : List Fd} (h : RecAt w v l) (u : Upd [] w w') : RecAt w' v l := h.upd u (by simp)

/-- Where the first field of a name is. -/
def posF (l : List Fd) (k : ByteArray) : Int := match l.findIdx? (fun x => decide (x.nm = k)) with
  | some i => i
  | none => -1

theorem posF_none {l : List Fd} {k : ByteArray} (h : ∀ x ∈ l, x.nm ≠ k) : posF l k = -1 := by
  unfold posF
  rw [List.findIdx?_eq_none_iff.2 (by intro x hx; simpa using h x hx)]

theorem posF_some {l : List Fd} {k : ByteArray} {i : Nat} (hi : i < l.length) (hk : l[i].nm = k) (h : ∀ j (hj : j < i), l[j].nm ≠ k) : posF l k = i := by
  unfold posF
  rw [List.findIdx?_eq_some_iff_getElem.2 ⟨hi, by simpa using hk, fun j hj => by simpa using h j hj⟩]

set_option maxRecDepth 100000 in
theorem refFind_ok (v : Value) (l : List Fd) (k : ByteArray) (w : World) (h : RecAt w v l) :
    Calls Tryz.prog 119 #[v, .string k] w fun e w' => e = .returned (.int .i64 (posF l k)) ∧ w = w' := by
  obtain ⟨a, cap, rfl, h1, h2, h3⟩ := h
  have H := Lib.hid h3
  unfold maxLen at h2
  clear h3
  go_enter Tryz.func119, Tryz.ntmps119
  go_wp2_with fail
  go_loopg [5] l.length (fun n i wr => ∃ j : Nat, i = .int .i64 j ∧ j ≤ l.length ∧ n = l.length - j ∧ Hid (∀ i (hi : i < j) (hl : i < l.length), l[i].nm ≠ k) ∧ wr = w)
  case atStart => exact ⟨0, rfl, by omega, rfl, Lib.hid (by intro i hi; omega), rfl⟩
  case round =>
    obtain ⟨j, rfl, hj, rfl, hA, rfl⟩ := hrel
    by_cases hjl : j < l.length
    · obtain ⟨b, off, rfl, hf⟩ := H.out j hjl
      have c0 := hf.1
      clear hf
      by_cases hk : l[j].nm = k
      · have hp : Hid (posF l k = j) := Lib.hid (posF_some hjl hk fun i hi => hA.out i hi (by omega))
        rw [hk] at c0
        have hkk : (k.toList == k.toList) = true := by simp
        clear hk
        go_wp2_with fail
        go_ret
        exact ⟨by rw [hp.out]; rfl, rfl⟩
      · have hA2 : Hid (∀ i (hi : i < j + 1) (hl : i < l.length), l[i].nm ≠ k) := Lib.hid (fun i hi hl => by
          rcases Nat.lt_or_ge i j with h | h
          · exact hA.out i h hl
          · have : i = j := by omega
            subst this; exact hk)
        have hkk : (l[j].nm.toList == k.toList) = false := by rw [← beq_toListBytes, bytes_beq]; simpa using hk
        generalize l[j].nm = y at *
        clear hk
        go_wp2_with fail
        go_roundg (l.length - (j + 1))
        case measure => omega
        case rel => exact ⟨j + 1, by go_num, by omega, rfl, hA2, rfl⟩
    · have hp : Hid (posF l k = -1) := Lib.hid (posF_none fun x hx => by
        obtain ⟨i, hi, rfl⟩ := List.mem_iff_getElem.1 hx
        exact hA.out i (by omega) hi)
      go_wp2_with fail
      go_ret
      exact ⟨by rw [hp.out]; rfl, rfl⟩
end Go.Proofs.YtajppgngoffonaaGreatDoor

namespace Go.Proofs.YtajppgngoffonaaGreatDoor
open Go.RowKit

def getF (l : List Fd) (k : ByteArray) : Option Fd := l.find? fun x => decide (x.nm = k)
def noF : Fd := { nm := ByteArray.empty, tx := false, n := 0, s := ByteArray.empty }

theorem posF_cases (l : List Fd) (k : ByteArray) : (posF l k = -1 ∧ (∀ x ∈ l, x.nm ≠ k) ∧ getF l k = none) ∨
    ∃ (i : Nat) (hi : i < l.length), posF l k = i ∧ l[i].nm = k ∧ (∀ j (hj : j < i), l[j].nm ≠ k) ∧ getF l k = some l[i] := by
  by_cases h : ∃ x ∈ l, x.nm = k
  · right
    have hs : (l.findIdx? fun x => decide (x.nm = k)).isSome := by
      rw [List.findIdx?_isSome]
      obtain ⟨x, hx, hk⟩ := h
      exact List.any_eq_true.2 ⟨x, hx, by simpa using hk⟩
    obtain ⟨i, hi⟩ := Option.isSome_iff_exists.1 hs
    obtain ⟨hl, hk, hj⟩ := List.findIdx?_eq_some_iff_getElem.1 hi
    refine ⟨i, hl, posF_some hl (by simpa using hk) (fun j q => by simpa using hj j q), by simpa using hk, fun j q => by simpa using hj j q, ?_⟩
    unfold getF
    rw [List.find?_eq_some_iff_getElem]
    exact ⟨hk, i, hl, rfl, fun j q => by simpa using hj j q⟩
  · left
    have hn : ∀ x ∈ l, x.nm ≠ k := fun x hx q => h ⟨x, hx, q⟩
    refine ⟨posF_none hn, hn, ?_⟩
    unfold getF
    rw [List.find?_eq_none]
    intro x hx; simpa using hn x hx

theorem posF_lt (l : List Fd) (k : ByteArray) : -1 ≤ posF l k ∧ posF l k < l.length := by
  rcases posF_cases l k with ⟨h, -⟩ | ⟨i, hi, h, -⟩
  · rw [h]; omega
  · rw [h]; omega

def GetPost (r : Option Fd) (w : World) (e : Ending) (w' : World) : Prop := e = .returned (.tuple #[aggF (r.getD noF), .bool r.isSome]) ∧ Upd [] w w'

set_option maxRecDepth 100000 in
set_option maxHeartbeats 1000000 in
theorem refGet_ok (v : Value) (l : List Fd) (k : ByteArray) (w : World) (h : RecAt w v l) : Calls Tryz.prog 68 #[v, .string k] w (GetPost (getF l k) w) := by
  have HR := Lib.hid h
  obtain ⟨a, cap, rfl, h1, h2, h3⟩ := h
  unfold maxLen at h2
  rcases posF_cases l k with ⟨hp, -, hg⟩ | ⟨i, hi, hp, -, -, hg⟩
  · rw [hg]
    have HP := Lib.hid hp
    clear hp hg h3
    go_enter Tryz.func68, Tryz.ntmps68
    go_wp2_with fail
    refine (refFind_ok _ l k _ (HR.out.keep ((Upd.refl _ _).alloc _))).mono ?_
    rintro e w1 ⟨rfl, rfl⟩
    rw [HP.out]
    go_wp2_with fail
    go_returns
    exact ⟨rfl, (Upd.refl [] w).alloc _⟩
  · rw [hg]
    have HP := Lib.hid hp
    obtain ⟨b, off, rfl, hf⟩ := h3 i hi
    have hne : b ≠ w.heap.size := by have := hf.lt; omega
    have hblt := hf.lt
    obtain ⟨c0, c1, c2, c3⟩ := hf
    generalize l[i] = x at *
    clear hp hg h3
    go_enter Tryz.func68, Tryz.ntmps68
    go_wp2_with fail
    refine (refFind_ok _ l k _ (HR.out.keep ((Upd.refl _ _).alloc _))).mono ?_
    rintro e w1 ⟨rfl, rfl⟩
    rw [HP.out]
    have hi' : (i : Int) < (l.length : Int) := by omega
    go_wp2_with fail
    go_returns
    exact ⟨rfl, (Upd.refl [] w).alloc _⟩
end Go.Proofs.YtajppgngoffonaaGreatDoor

namespace Go.Proofs.YtajppgngoffonaaGreatDoor
open Go.RowKit

/-- An append to a row of the call's own, as one step of a region that draws its order. -/
theorem step_append_own {P : Program} {w : World} {ops : Array Oper} {o : Oper} {a : Act} {K : Act → World → Prop} {Q : Exit → Act → World → Prop} {E : Prop} (hgd : o.guard = none) (s x : Operand) (t : TypeId)
    (ho : o.op = .call { callee := .builtin .append, args := #[s, x], argTypes := #[t, t] })
    (base : Nat) (e : TypeId) (i : TypeInfo) (z : Value) (size bytes : Nat) (ht : P.underlying t = some (.slice e)) (hi : P.info? e = some i) (hz : i.zero = some z)
    (hsize : i.size = size) (hby : i.bytes = bytes) (hzs : z.cells.size = size) (hsz : 0 < size)
    (v : Value) (n : Nat) (xs : List Value) (hs : a.eval s = v) (hown : w.ownsRow base e size v n xs)
    (ad : Addr) (m c : Nat) (news : List Value) (hx : a.eval x = .slice (some ad) m c) (hl : news.length = m * size) (hnews : ∀ j u, news[j]? = some u → w.cell? (ad.add j) = some u) (h1 : ∀ u ∈ news, u.oneCell' = true)
    (h63 : n + m ≤ maxLen) (hbytes : (n + m) * bytes ≤ 140737488355328) (hbase : base ≤ w.heap.size)
    (h : ∀ v' w', w'.ownsRow base e size v' (n + m) (xs ++ news) → w.grownBy w' v.ownBlock → K (a.put o.dst v') w') :
    if Region.wanted o (yielded ops a.tmps) = true then Oper.wp P o a w K Q else E := by
  have hw : Region.wanted o (yielded ops a.tmps) = true := by simp [Region.wanted, hgd]
  rw [if_pos hw]
  exact wp_append_own w s x t ho base e i z size bytes ht hi hz hsize hby hzs hsz v n xs hs hown ad m c news hx hl hnews h1 h63 hbytes hbase fun v' w' h2 h3 _ => h v' w' h2 h3

theorem infoF : (Tryz.prog.info? 64).map (fun i => (i.zero, i.size, i.bytes)) = some (some (aggF noF), 4, 48) := by kernel_rfl

theorem flatF_one (l : List Fd) : ∀ u ∈ flatF l, u.oneCell' = true := by
  intro u hu
  obtain ⟨x, _, hx⟩ := List.mem_flatMap.1 hu
  simp [cellsF] at hx
  rcases hx with rfl | rfl | rfl | rfl <;> rfl

theorem own_empty (w : World) : (w.alloc (.cells #[] 64)).ownsRow w.heap.size 64 4 (.slice (some ⟨w.heap.size, 0, none⟩) 0 0) 0 [] :=
  ⟨rfl, .inr ⟨w.heap.size, 0, #[], rfl, Nat.le_refl _, by rw [heap_alloc, if_pos rfl], Nat.le_refl _, by unfold maxLen; omega, rfl, rfl⟩⟩

theorem elem24 : Tryz.prog.underlying 32 = some (.slice (Tryz.prog.elem 32)) := by kernel_rfl
theorem size24 (w : World) : (sizeOf (Tryz.prog.elem 32)).run Tryz.prog w = .ok 4 w := by kernel_rfl

theorem slice_hi (a : Addr) (n cap i : Nat) (h : i ≤ cap) (W : World) : (Instr.slice 32 (.slice (some a) n cap) none (some (.int .i64 i)) none).run Tryz.prog W = .ok (.slice (some (if cap = 0 then a else a.add 0)) i cap) W := by
  rw [run_slice_h (w := W) 32 (some a) n cap elem24 .i64 i (by omega) (by omega), size24]
  simp only [Result.andThen, sliced]
  split <;> simp_all

theorem slice_lo (a : Addr) (n cap i : Nat) (h : i ≤ n) (W : World) : (Instr.slice 32 (.slice (some a) n cap) (some (.int .i64 i)) none none).run Tryz.prog W = .ok (.slice (some (if cap = i then a else a.add (i * 4))) (n - i) (cap - i)) W := by
  rw [run_slice_l (w := W) 32 (some a) n cap elem24 .i64 i (by omega) (by omega), size24]
  simp only [Result.andThen, sliced]
  split <;> simp_all

/-- A part of a record's cells, as an append's source. -/
theorem src_part {w : World} {b off : Nat} {l1 l2 l3 : List Fd} (h : ∀ i (hi : i < (l1 ++ l2 ++ l3).length), FAt w b (off + i * 4) (l1 ++ l2 ++ l3)[i]) :
    ∀ j u, (flatF l2)[j]? = some u → w.cell? ((⟨b, off + l1.length * 4, none⟩ : Addr).add j) = some u := by
  intro j u hu
  have hj : j < (flatF l2).length := by
    rcases Nat.lt_or_ge j (flatF l2).length with h | h
    · exact h
    · rw [List.getElem?_eq_none h] at hu; cases hu
  have hj' := hj
  rw [flatF_len] at hj
  have hi : j / 4 < l2.length := by omega
  have hlt : l1.length + j / 4 < (l1 ++ l2 ++ l3).length := by simp; omega
  have hF := h (l1.length + j / 4) hlt
  have hx : (l1 ++ l2 ++ l3)[l1.length + j / 4] = l2[j / 4] := by
    rw [List.getElem_append_left (by simp; omega), List.getElem_append_right (by omega)]
    congr 1; omega
  rw [hx] at hF
  have h4 : j % 4 < 4 := Nat.mod_lt _ (by omega)
  have hat := flatF_at l2 hi h4
  rw [show j / 4 * 4 + j % 4 = j by omega, hu] at hat
  rw [Go.WideShapes.add_plain]
  obtain ⟨c0, c1, c2, c3⟩ := hF
  have e0 : off + l1.length * 4 + j = off + (l1.length + j / 4) * 4 + j % 4 := by omega
  rw [e0]
  generalize j % 4 = f at *
  match f, h4 with
  | 0, _ => simp [cellsF] at hat; subst hat; exact c0
  | 1, _ => simp [cellsF] at hat; subst hat; exact c1
  | 2, _ => simp [cellsF] at hat; subst hat; exact c2
  | 3, _ => simp [cellsF] at hat; subst hat; exact c3

def OwnPost (l : List Fd) (w : World) (e : Ending) (w' : World) : Prop := ∃ v, e = .returned v ∧ w'.ownsRow w.heap.size 64 4 v l.length (flatF l) ∧ Upd [] w w'

def dropF (l : List Fd) (k : ByteArray) : List Fd := l.eraseP fun x => decide (x.nm = k)

theorem dropF_miss {l : List Fd} {k : ByteArray} (h : ∀ x ∈ l, x.nm ≠ k) : dropF l k = l := by
  unfold dropF
  exact List.eraseP_of_forall_not (by intro x hx; simpa using h x hx)

theorem dropF_hit {l1 l2 : List Fd} {x : Fd} {k : ByteArray} (h : ∀ y ∈ l1, y.nm ≠ k) (hk : x.nm = k) : dropF (l1 ++ x :: l2) k = l1 ++ l2 := by
  unfold dropF
  rw [List.eraseP_append_right _ (by intro y hy; simpa using h y hy), List.eraseP_cons_of_pos (by simpa using hk)]

end Go.Proofs.YtajppgngoffonaaGreatDoor

namespace Go.Proofs.YtajppgngoffonaaGreatDoor
open Go.RowKit

/-- What an append's source holds: the cells of r, from A on. -/
def Src (w : World) (A : Option Addr) (r : List Fd) : Prop := (A = none → r = []) ∧ ∀ ad, A = some ad → ∀ j u, (flatF r)[j]? = some u → w.cell? (ad.add j) = some u

/-- A row of fields of the call's own. -/
abbrev Own (w : World) (base : Nat) (v : Value) (l : List Fd) : Prop := w.ownsRow base 64 4 v l.length (flatF l)

theorem append_rec {w : World} {base : Nat} {v : Value} {l : List Fd} (hown : Own w base v l) {A : Option Addr} (c : Nat) {r : List Fd} (hr : Src w A r) (hb : (l.length + r.length) * 48 ≤ 140737488355328) (hbase : base ≤ w.heap.size) (ty : TypeId) :
    ∃ v' w', (Builtin.append_ #[32, 32] ty #[v, .slice A r.length c]).run Tryz.prog w = .ok v' w' ∧ Own w' base v' (l ++ r) ∧ w.grownBy w' v.ownBlock := by
  obtain ⟨i0, hi0, hz0, hz1, hz2⟩ := info_parts infoF
  rcases A with _ | ad
  · obtain rfl := hr.1 rfl
    refine ⟨v, w, ?_, by simpa [Own] using hown, World.grownBy.refl w _⟩
    rcases hown.2 with ⟨rfl, hn⟩ | ⟨g, cap, cur, rfl, _, _, hnc, _⟩
    · simp [Builtin.append_, run_underlying Tryz.underlying32, sizeOf, typeInfo, hi0, Builtin.lenOf, Builtin.firstCells]
    · simp [Builtin.append_, run_underlying Tryz.underlying32, sizeOf, typeInfo, hi0, Builtin.lenOf, Builtin.firstCells, hnc, storeCells]
  · obtain ⟨v', w', hrun, h2, h3, _, _⟩ := run_append_own_at (P := Tryz.prog) w base 32 ty 64 i0 _ 4 48 Tryz.underlying32 hi0 hz0 hz1 hz2 rfl (by omega) v l.length (flatF l) hown ad r.length c (flatF r) (flatF_len r) (hr.2 ad rfl) (flatF_one r) (by unfold maxLen; omega) hb hbase
    exact ⟨v', w', hrun, by unfold Own; rw [flatF_app, List.length_append]; exact h2, h3⟩

theorem wp_append_rec {w : World} {o : Oper} {a : Act} {K : Act → World → Prop} {Q : Exit → Act → World → Prop} (s x : Operand)
    (ho : o.op = .call { callee := .builtin .append, args := #[s, x], argTypes := #[32, 32] }) {base : Nat} {v : Value} {l : List Fd} (hs : a.eval s = v) (hown : Own w base v l)
    {A : Option Addr} {c : Nat} {r : List Fd} (hx : a.eval x = .slice A r.length c) (hr : Src w A r) (hb : (l.length + r.length) * 48 ≤ 140737488355328) (hbase : base ≤ w.heap.size)
    (h : ∀ v' w', Own w' base v' (l ++ r) → w.grownBy w' v.ownBlock → K (a.put o.dst v') w') : o.wp Tryz.prog a w K Q := by
  obtain ⟨v', w', hrun, h2, h3⟩ := append_rec hown c hr hb hbase o.type
  unfold Oper.wp execOp
  simp only [ho, resolve, invoke, builtin, Sem.run_bind, Sem.run_pure, Result.andThen_ok, List.map_toArray, List.map_cons, List.map_nil, hs, hx, hrun]
  exact h v' w' h2 h3

theorem wpList_append_rec {w : World} {ops : Array Oper} {rest : List Oper} {o : Oper} {a : Act} {Q : Exit → Act → World → Prop} (hgd : o.guard = none) (s x : Operand)
    (ho : o.op = .call { callee := .builtin .append, args := #[s, x], argTypes := #[32, 32] }) {base : Nat} {v : Value} {l : List Fd} (hs : a.eval s = v) (hown : Own w base v l)
    {A : Option Addr} {c : Nat} {r : List Fd} (hx : a.eval x = .slice A r.length c) (hr : Src w A r) (hb : (l.length + r.length) * 48 ≤ 140737488355328) (hbase : base ≤ w.heap.size)
    (h : ∀ v' w', Own w' base v' (l ++ r) → w.grownBy w' v.ownBlock → wpList Tryz.prog ops Q rest (a.put o.dst v') w') : wpList Tryz.prog ops Q (o :: rest) a w :=
  wpList_plain hgd fun _ hK => wp_append_rec s x ho hs hown hx hr hb hbase fun v' w' h2 h3 => hK _ _ (h v' w' h2 h3)

theorem step_append_rec {w : World} {ops : Array Oper} {o : Oper} {a : Act} {K : Act → World → Prop} {Q : Exit → Act → World → Prop} {E : Prop} (hgd : o.guard = none) (s x : Operand)
    (ho : o.op = .call { callee := .builtin .append, args := #[s, x], argTypes := #[32, 32] }) {base : Nat} {v : Value} {l : List Fd} (hs : a.eval s = v) (hown : Own w base v l)
    {A : Option Addr} {c : Nat} {r : List Fd} (hx : a.eval x = .slice A r.length c) (hr : Src w A r) (hb : (l.length + r.length) * 48 ≤ 140737488355328) (hbase : base ≤ w.heap.size)
    (h : ∀ v' w', Own w' base v' (l ++ r) → w.grownBy w' v.ownBlock → K (a.put o.dst v') w') :
    if Region.wanted o (yielded ops a.tmps) = true then Oper.wp Tryz.prog o a w K Q else E := by
  have hw : Region.wanted o (yielded ops a.tmps) = true := by simp [Region.wanted, hgd]
  rw [if_pos hw]
  exact wp_append_rec s x ho hs hown hx hr hb hbase h

/-- A record as an append's source, whole. -/
theorem RecAt.src {w : World} {a : Option Addr} {n cap : Nat} {l : List Fd} (h : RecAt w (.slice a n cap) l) : n = l.length ∧ Src w a l := by
  obtain ⟨a', cap', hv, h1, h2, h3⟩ := h
  simp only [Value.slice.injEq] at hv
  obtain ⟨rfl, rfl, rfl⟩ := hv
  refine ⟨rfl, fun q => ?_, fun ad q j u hu => ?_⟩
  · cases l with
    | nil => rfl
    | cons x l => obtain ⟨b, off, e, _⟩ := h3 0 (by simp); rw [q] at e; cases e
  · have hj : j < (flatF l).length := by
      rcases Nat.lt_or_ge j (flatF l).length with h | h
      · exact h
      · rw [List.getElem?_eq_none h] at hu; cases hu
    rw [flatF_len] at hj
    obtain ⟨b, off, e, _⟩ := h3 0 (by omega)
    rw [q] at e
    cases e
    have := src_part (w := w) (b := b) (off := off) (l1 := []) (l2 := l) (l3 := []) (fun i hi => by
      obtain ⟨b', off', e', hf⟩ := h3 i (by simpa using hi)
      rw [q] at e'
      cases e'
      simpa using hf) j u hu
    simpa using this

theorem Own.recAt {w : World} {base : Nat} {v : Value} {l : List Fd} (h : Own w base v l) : RecAt w v l := by
  obtain ⟨h0, h2⟩ := h
  rcases h2 with ⟨rfl, hn⟩ | ⟨g, cap, cur, rfl, hg, hh, r1, r2, r3, r4⟩
  · have : l = [] := List.eq_nil_of_length_eq_zero hn
    subst this
    exact ⟨none, 0, rfl, by simp, by omega, by simp⟩
  · refine ⟨_, cap, rfl, r1, r2, fun i hi => ⟨g, 0, rfl, ?_⟩⟩
    have key : ∀ f, f < 4 → w.cell? ⟨g, i * 4 + f, none⟩ = (cellsF l[i])[f]? := fun f hf => by
      rw [cell_blk hh, ← Array.getElem?_toList, ← flatF_at l hi hf, ← r4, List.getElem?_take_of_lt (by omega)]
    rw [Nat.zero_add]
    exact ⟨key 0 (by omega), key 1 (by omega), key 2 (by omega), key 3 (by omega)⟩
end Go.Proofs.YtajppgngoffonaaGreatDoor

namespace Go.Proofs.YtajppgngoffonaaGreatDoor
open Go.RowKit

theorem src_nil (w : World) (A : Option Addr) : Src w A [] := ⟨fun _ => rfl, fun _ _ j u h => by simp [flatF] at h⟩

theorem RecAt.cells {w : World} {b off n cap : Nat} {l : List Fd} (h : RecAt w (.slice (some ⟨b, off, none⟩) n cap) l) : n = l.length ∧ ∀ i (hi : i < l.length), FAt w b (off + i * 4) l[i] := by
  obtain ⟨a', cap', hv, h1, h2, h3⟩ := h
  simp only [Value.slice.injEq] at hv
  obtain ⟨rfl, rfl, rfl⟩ := hv
  refine ⟨rfl, fun i hi => ?_⟩
  obtain ⟨b', off', e, hf⟩ := h3 i hi
  cases e
  exact hf

/-- The record up to i. -/
theorem rec_hi {w : World} {v : Value} {l : List Fd} (h : RecAt w v l) (l1 l2 : List Fd) (hl : l = l1 ++ l2) :
    ∃ A c, (∀ W : World, (Instr.slice 32 v none (some (.int .i64 l1.length)) none).run Tryz.prog W = .ok (.slice A l1.length c) W) ∧ ∀ W : World, RecAt W v l → Src W A l1 := by
  subst hl
  obtain ⟨a, cap, rfl, h1, h2, h3⟩ := h
  unfold maxLen at h2
  cases a with
  | none =>
    have hn : l1 = [] ∧ l2 = [] := by
      cases e : l1 ++ l2 with
      | nil => simpa using e
      | cons x l => obtain ⟨b, off, q, _⟩ := h3 0 (by rw [e]; simp); cases q
    obtain ⟨rfl, rfl⟩ := hn
    refine ⟨none, cap, fun W => ?_, fun W _ => src_nil _ _⟩
    rw [run_slice_h (w := W) 32 none _ cap elem24 .i64 _ (by omega) (by simp), size24]
    simp [Result.andThen, sliced]
  | some ad =>
    refine ⟨_, cap, fun W => slice_hi ad _ cap l1.length (by simp at h1; omega) W, fun W hW => ⟨fun q => by simp at q, fun ad' q j u hu => ?_⟩⟩
    have hpos : 0 < (l1 ++ l2).length := by
      cases l1 with
      | nil => simp [flatF] at hu
      | cons x l => simp
    obtain ⟨b, off, e, _⟩ := h3 0 hpos
    cases e
    have hc := hW.cells.2
    have hq : ad' = ⟨b, off, none⟩ := by
      simp only [Option.some.injEq] at q
      rw [← q, if_neg (by omega), Go.WideShapes.add_plain]; simp
    subst hq
    have := src_part (l1 := []) (l2 := l1) (l3 := l2) (fun i hi => by simpa using hc i (by simpa using hi)) j u hu
    simpa using this

/-- The record from i on. -/
theorem rec_lo {w : World} {v : Value} {l : List Fd} (h : RecAt w v l) (l1 l2 : List Fd) (hl : l = l1 ++ l2) :
    ∃ A c, (∀ W : World, (Instr.slice 32 v (some (.int .i64 l1.length)) none none).run Tryz.prog W = .ok (.slice A l2.length c) W) ∧ ∀ W : World, RecAt W v l → Src W A l2 := by
  subst hl
  obtain ⟨a, cap, rfl, h1, h2, h3⟩ := h
  unfold maxLen at h2
  cases a with
  | none =>
    have hn : l1 = [] ∧ l2 = [] := by
      cases e : l1 ++ l2 with
      | nil => simpa using e
      | cons x l => obtain ⟨b, off, q, _⟩ := h3 0 (by rw [e]; simp); cases q
    obtain ⟨rfl, rfl⟩ := hn
    refine ⟨none, cap, fun W => ?_, fun W _ => src_nil _ _⟩
    rw [run_slice_l (w := W) 32 none _ cap elem24 .i64 _ (by simp) (by simp), size24]
    simp [Result.andThen, sliced]
  | some ad =>
    refine ⟨some (if cap = l1.length then ad else ad.add (l1.length * 4)), cap - l1.length, fun W => ?_, fun W hW => ⟨fun q => by simp at q, fun ad' q j u hu => ?_⟩⟩
    · have := slice_lo ad (l1 ++ l2).length cap l1.length (by simp) W
      rw [show (l1 ++ l2).length - l1.length = l2.length by simp] at this
      exact this
    have hpos : 0 < l2.length := by
      cases l2 with
      | nil => simp [flatF] at hu
      | cons x l => simp
    obtain ⟨b, off, e, _⟩ := h3 0 (by simp; omega)
    cases e
    have hc := hW.cells.2
    have hq : ad' = ⟨b, off + l1.length * 4, none⟩ := by
      simp only [Option.some.injEq] at q
      rw [← q, if_neg (by simp at h1; omega), Go.WideShapes.add_plain]
    subst hq
    exact src_part (l1 := l1) (l2 := l2) (l3 := []) (fun i hi => by simpa using hc i (by simpa using hi)) j u hu

set_option maxRecDepth 100000 in
set_option maxHeartbeats 800000 in
theorem refDrop_ok (v : Value) (l : List Fd) (k : ByteArray) (w : World) (h : RecAt w v l) (hl : l.length * 48 ≤ 140737488355328) : Calls Tryz.prog 70 #[v, .string k] w (OwnPost (dropF l k) w) := by
  have HR := Lib.hid (fun (W : World) (u : Upd [] w W) => h.keep u)
  rcases posF_cases l k with ⟨hp, hn, -⟩ | ⟨i, hi, hp, hk, hn, -⟩
  · rw [dropF_miss hn]
    have HP := Lib.hid hp
    obtain ⟨a, cap, rfl, -⟩ := h
    clear hp hn
    go_enter Tryz.func70, Tryz.ntmps70
    go_wp2_with fail
    refine (refFind_ok _ l k _ (HR.out _ (Upd.refl _ _))).mono ?_
    rintro e w1 ⟨rfl, rfl⟩
    rw [HP.out]
    go_wp2_with (at_builtin; refine wpList_append_rec rfl _ _ rfl (l := []) rfl (own_empty _) rfl (HR.out _ ((Upd.refl _ _).alloc _)).src.2 ?c1 ?c2 ?_)
    case c1 => simp; omega
    case c2 => simp
    intro v' w1 hown hgrow
    have HO : Hid (Own w1 w.heap.size v' l ∧ Upd [] w w1) := Lib.hid ⟨by simpa using hown, ((Upd.refl [] w).alloc _).grown hgrow (fun k hk => by simp [Value.ownBlock] at hk; omega)⟩
    clear hown hgrow
    go_wp2_with fail
    go_ret
    exact ⟨_, rfl, HO.out.1, HO.out.2⟩
  · have hsp : l = l.take i ++ l[i] :: l.drop (i + 1) := by rw [List.getElem_cons_drop]; simp
    have hn' : ∀ y ∈ l.take i, y.nm ≠ k := fun y hy => by
      obtain ⟨j, hj, rfl⟩ := List.mem_iff_getElem.1 hy
      rw [List.getElem_take]
      exact hn j (by rw [List.length_take] at hj; omega)
    have hlen : (l.take i).length = i := by simp; omega
    generalize l.take i = l1 at *
    generalize l[i] = x at *
    generalize l.drop (i + 1) = l2 at *
    subst hsp
    rw [dropF_hit hn' hk]
    subst hlen
    obtain ⟨A1, q1, hs1, hS1⟩ := rec_hi h l1 (x :: l2) rfl
    obtain ⟨A2, q2, hs2, hS2⟩ := rec_lo h (l1 ++ [x]) l2 (by simp)
    rw [show ((l1 ++ [x]).length : Int) = (l1.length : Int) + 1 by simp] at hs2
    have HP := Lib.hid hp
    have HS1 := Lib.hid hS1
    have HS2 := Lib.hid hS2
    have hlen2 : (l1 ++ x :: l2).length = l1.length + 1 + l2.length := by simp; omega
    rw [hlen2] at hl
    obtain ⟨a, cap, rfl, -⟩ := h
    clear hp hn hn' hS1 hS2 hk hi
    generalize (l1 ++ x :: l2).length = n at *
    have hle : l1.length + 1 ≤ n := by omega
    clear hlen2
    go_enter Tryz.func70, Tryz.ntmps70
    go_wp2_with fail
    have hF := refFind_ok (.slice a n cap) (l1 ++ x :: l2) k w (HR.out w (Upd.refl _ _))
    rw [HP.out] at hF
    refine hF.mono ?_
    rintro e w1 ⟨rfl, rfl⟩
    clear HP hF
    go_wp2_with fail
    have hwr : IntKind.i64.wrap ((l1.length : Int) + 1) = (l1.length : Int) + 1 := IntWalk.i64_in _ (by omega)
    go_region_held3 (fun _ => True)
      (exact trivial)
      (first
        | (refine step_append_rec (by rfl) _ _ (by rfl) (base := w.heap.size) (v := .slice (some ⟨w.heap.size, 0, none⟩) 0 0) (l := []) (A := A1) (c := q1) (r := l1) (by rfl) (by exact (own_empty w).drew) (by rfl) (by exact HS1.out _ (HR.out _ (((Upd.refl _ _).alloc _).drew))) ?_ ?_ ?_; (simp; omega); (simp); intro v1 w1 hown1 hgrow)
        | (refine step_append_rec (by rfl) _ _ (by rfl) (base := w.heap.size) (v := v1) (l := [] ++ l1) (A := A2) (c := q2) (r := l2) (by rfl) (by exact hown1) (by rfl) (by exact HS2.out _ (HR.out _ ((((Upd.refl _ _).alloc _).drew).grown hgrow (fun k hk => by simp [Value.ownBlock] at hk; omega)))) ?_ ?_ ?_; (simp; omega); (have := hgrow.size; simp at this; omega); intro v2 w2 hown2 hgrow2))
    have u1 : Upd [] w w1 := (((Upd.refl [] w).alloc _).drew).grown hgrow (fun k hk => by simp [Value.ownBlock] at hk; omega)
    have HO : Hid (Own w2 w.heap.size v2 (l1 ++ l2) ∧ Upd [] w w2) := Lib.hid ⟨by simpa using hown2, u1.grown hgrow2 (fun k hk => (hown1.lt k hk).1)⟩
    clear hown2 hgrow2 hgrow hown1 hs1 hs2 hwr u1
    go_wp2
    go_ret
    exact ⟨v2, rfl, HO.out.1, HO.out.2⟩
end Go.Proofs.YtajppgngoffonaaGreatDoor

namespace Go.Proofs.YtajppgngoffonaaGreatDoor
open Go.RowKit

theorem flatF_set : ∀ (l : List Fd) (i : Nat) (x : Fd), i < l.length →
    ((((flatF l).set (i * 4) (.string x.nm)).set (i * 4 + 1) (.bool x.tx)).set (i * 4 + 2) (.int .i64 x.n)).set (i * 4 + 3) (.string x.s) = flatF (l.set i x) := by
  intro l
  induction l with
  | nil => intro i x h; simp at h
  | cons y l ih =>
    intro i x h
    cases i with
    | zero => simp [flatF, cellsF]
    | succ i =>
      have := ih i x (by simpa using h)
      have e : ∀ f, (i + 1) * 4 + f = (i * 4 + f) + 4 := fun f => by omega
      have e0 : (i + 1) * 4 = i * 4 + 4 := by omega
      rw [e, e, e, e0]
      simp only [flatF, List.flatMap_cons, cellsF, List.cons_append, List.nil_append, List.set_cons_succ] at this ⊢
      rw [this]

/-- A field stored whole in a row of the call's own. -/
theorem Own.set {w w' : World} {base g n cap i : Nat} {l : List Fd} (h : Own w base (.slice (some ⟨g, 0, none⟩) n cap) l) (hi : i < l.length) (x : Fd)
    (hw : w'.Alike ((((w.setCell ⟨g, i * 4, none⟩ (.string x.nm)).setCell ⟨g, i * 4 + 1, none⟩ (.bool x.tx)).setCell ⟨g, i * 4 + 2, none⟩ (.int .i64 x.n)).setCell ⟨g, i * 4 + 3, none⟩ (.string x.s))) :
    Own w' base (.slice (some ⟨g, 0, none⟩) n cap) (l.set i x) ∧ Upd [g] w w' := by
  have u0 : Upd [g] w w' := (((((Upd.refl _ _).setCell (by simp) _ _).setCell (by simp) _ _).setCell (by simp) _ _).setCell (by simp) _ _).alike hw
  refine ⟨⟨flatF_len _, .inr ?_⟩, u0⟩
  obtain ⟨h0, h2⟩ := h
  rcases h2 with ⟨q, hn⟩ | ⟨g', cap', cur, hv, hg, hh, r1, r2, r3, r4⟩
  · cases q
  simp only [Value.slice.injEq, Option.some.injEq, Addr.mk.injEq, and_true] at hv
  obtain ⟨rfl, rfl, rfl⟩ := hv
  refine ⟨g, cap, (((cur.setIfInBounds (i * 4) (.string x.nm)).setIfInBounds (i * 4 + 1) (.bool x.tx)).setIfInBounds (i * 4 + 2) (.int .i64 x.n)).setIfInBounds (i * 4 + 3) (.string x.s), by rw [List.length_set], hg, ?_, by rw [List.length_set]; exact r1, r2, by simpa using r3, ?_⟩
  · rw [hw.1, heap_setCell, if_pos rfl, heap_setCell, if_pos rfl, heap_setCell, if_pos rfl, heap_setCell, if_pos rfl, hh]; rfl
  · rw [← flatF_set l i x hi, List.length_set, ← r4]
    simp only [Array.toList_setIfInBounds, List.take_set]

end Go.Proofs.YtajppgngoffonaaGreatDoor

namespace Go.Proofs.YtajppgngoffonaaGreatDoor
open Go.RowKit

def boxF (x : Fd) : Obj := .cells #[.string x.nm, .bool x.tx, .int .i64 x.n, .string x.s] 64

theorem own_empty_at (w : World) {B base : Nat} (hB : w.heap.size = B) (hb : base ≤ B) : Own (w.alloc (.cells #[] 64)) base (.slice (some ⟨B, 0, none⟩) 0 0) [] := by
  subst hB
  exact ⟨rfl, .inr ⟨w.heap.size, 0, #[], rfl, hb, by rw [heap_alloc, if_pos rfl], Nat.le_refl _, by unfold maxLen; omega, rfl, rfl⟩⟩

set_option maxRecDepth 100000 in
set_option maxHeartbeats 800000 in
theorem refSet_hit (v : Value) (l : List Fd) (x : Fd) (w : World) (h : RecAt w v l) (hl : l.length * 48 ≤ 140737488355328) {i : Nat} (hi : i < l.length) (hp : posF l x.nm = i) :
    Calls Tryz.prog 69 #[v, aggF x] w (OwnPost (l.set i x) w) := by
  have HR := Lib.hid (fun (W : World) (u : Upd [] w W) => h.keep u)
  have HP := Lib.hid hp
  obtain ⟨a, cap, rfl, -⟩ := h
  clear hp
  go_enter Tryz.func69, Tryz.ntmps69
  go_wp2_with fail
  have hF := refFind_ok (.slice a l.length cap) l x.nm _ (HR.out _ ((Upd.refl _ _).alloc (boxF x)))
  rw [HP.out] at hF
  refine hF.mono ?_
  rintro e w1 ⟨rfl, rfl⟩
  clear hF
  go_wp2_with (at_builtin; refine wpList_append_rec rfl _ _ rfl (base := w.heap.size) (l := []) rfl (own_empty_at _ (B := w.heap.size + 1) (by simp) (by omega)) rfl (HR.out _ (((Upd.refl _ _).alloc _).alloc _)).src.2 ?c1 ?c2 ?_)
  case c1 => simp; omega
  case c2 => simp; omega
  intro v' w1 hown hgrow
  have hu1 : Upd [] w w1 := (((Upd.refl [] w).alloc _).alloc _).grown hgrow (fun k hk => by simp [Value.ownBlock] at hk; omega)
  have hbx : w1.heap[w.heap.size]? = some (boxF x) := by
    rw [hgrow.block _ (by simp; omega) (by simp [Value.ownBlock]), heap_alloc, if_neg (by simp), heap_alloc, if_pos rfl]
  have x0 : w1.cell? ⟨w.heap.size, 0, none⟩ = some (.string x.nm) := cell_blk hbx 0
  have x1 : w1.cell? ⟨w.heap.size, 1, none⟩ = some (.bool x.tx) := cell_blk hbx 1
  have x2 : w1.cell? ⟨w.heap.size, 2, none⟩ = some (.int .i64 x.n) := cell_blk hbx 2
  have x3 : w1.cell? ⟨w.heap.size, 3, none⟩ = some (.string x.s) := cell_blk hbx 3
  have hown' : Own w1 w.heap.size v' l := by simpa using hown
  have HO := Lib.hid hown'
  have HU := Lib.hid hu1
  rcases hown'.2 with ⟨_, hn⟩ | ⟨g, cap', cur, rfl, hg, hh, r1, r2, r3, r4⟩
  · omega
  have hfz := frozen_blk hh
  have hc := fun o (ho : o < cur.size) => show w1.cell? ⟨g, o, none⟩ = some (cur[o]'ho) by rw [cell_blk hh]; exact Array.getElem?_eq_getElem ho
  have y0 := hc (i * 4) (by omega)
  have y1 := hc (i * 4 + 1) (by omega)
  have y2 := hc (i * 4 + 2) (by omega)
  have y3 := hc (i * 4 + 3) (by omega)
  clear hown hgrow hown' hu1 hc hh r4 hbx
  have hii : (i : Int) < (l.length : Int) := by omega
  go_wp2_with fail
  obtain ⟨hS, -⟩ := HO.out.set hi x (alike_refl _)
  have HS : Hid (Own _ w.heap.size (.slice (some ⟨g, 0, none⟩) l.length cap') (l.set i x)) := Lib.hid hS
  have hu := (((HU.out.setCellNew hg (i * 4) (.string x.nm)).setCellNew hg (i * 4 + 1) (.bool x.tx)).setCellNew hg (i * 4 + 2) (.int .i64 x.n)).setCellNew hg (i * 4 + 3) (.string x.s)
  go_ret
  exact ⟨_, rfl, HS.out, hu⟩
end Go.Proofs.YtajppgngoffonaaGreatDoor

namespace Go.Proofs.YtajppgngoffonaaGreatDoor
open Go.RowKit

/-- A text is not behind another one. -/
def leB (a b : ByteArray) : Bool := Op.bytesLess a.toList b.toList || a.toList == b.toList
def insF (l : List Fd) (x : Fd) : List Fd := (l.takeWhile fun y => leB y.nm x.nm) ++ x :: l.dropWhile fun y => leB y.nm x.nm
def setF (l : List Fd) (x : Fd) : List Fd := if posF l x.nm < 0 then insF l x else l.set (posF l x.nm).toNat x

theorem split_while {α : Type} (p : α → Bool) (l : List α) {j : Nat} (hj : j ≤ l.length) (h1 : ∀ i (hi : i < j), p (l[i]'(by omega)) = true) (h2 : ∀ (h : j < l.length), p l[j] = false) : l.takeWhile p = l.take j ∧ l.dropWhile p = l.drop j := by
  induction l generalizing j with
  | nil => simp
  | cons x l ih =>
    cases j with
    | zero => have := h2 (by simp); simp at this; simp [this]
    | succ j =>
      have hx := h1 0 (by omega)
      simp at hx
      obtain ⟨e1, e2⟩ := ih (j := j) (by simpa using hj) (fun i hi => by have := h1 (i + 1) (by omega); simpa using this) (fun h => by have := h2 (by simpa using h); simpa using this)
      simp [hx, e1, e2]

theorem own_empty_blk {w : World} {B base : Nat} (hB : w.heap[B]? = some (.cells #[] 64 (0, 0))) (hb : base ≤ B) : Own w base (.slice (some ⟨B, 0, none⟩) 0 0) [] :=
  ⟨rfl, .inr ⟨B, 0, #[], rfl, hb, hB, Nat.le_refl _, by unfold maxLen; omega, rfl, rfl⟩⟩

theorem src_box {w : World} {B : Nat} {x : Fd} (hB : w.heap[B]? = some (boxF x)) : Src w (some ⟨B, 0, none⟩) [x] := by
  unfold Src
  refine ⟨fun q => (by cases q), fun ad q j u hu => ?_⟩
  cases q
  rw [Go.WideShapes.add_plain, cell_blk hB]
  simp only [flatF, List.flatMap_cons, List.flatMap_nil, List.append_nil, cellsF] at hu
  simpa using hu

theorem leB_run (a b : ByteArray) (t : TypeId) (P : Program) (W : World) : (binOp .leq t (.string a) (.string b)).run P W = .ok (.bool (leB a b)) W := by
  simp [binOp, Op.stringOp, leB]

theorem own_mono {w : World} {a b : Nat} {v : Value} {l : List Fd} (h : Own w a v l) (hb : b ≤ a) : Own w b v l := by
  obtain ⟨h1, h2⟩ := h
  refine ⟨h1, ?_⟩
  rcases h2 with h2 | ⟨g, cap, cur, hv, hg, r⟩
  · exact Or.inl h2
  · exact Or.inr ⟨g, cap, cur, hv, Nat.le_trans hb hg, r⟩

set_option maxRecDepth 100000 in
set_option maxHeartbeats 1600000 in
theorem refSet_miss (v : Value) (l : List Fd) (x : Fd) (w : World) (h : RecAt w v l) (hl : (l.length + 1) * 48 ≤ 140737488355328) (hp : posF l x.nm = -1) :
    Calls Tryz.prog 69 #[v, aggF x] w (OwnPost (insF l x) w) := by
  have HR := Lib.hid (fun (W : World) (u : Upd [] w W) => h.keep u)
  have HP := Lib.hid hp
  have HN : Hid (∀ i (hi : i < l.length), l[i].nm ≠ x.nm) := by
    rcases posF_cases l x.nm with ⟨-, hn, -⟩ | ⟨i, hi, q, -⟩
    · exact Lib.hid fun i hi => hn _ (List.getElem_mem hi)
    · rw [hp] at q; omega
  have HHI := Lib.hid (fun j => rec_hi h (l.take j) (l.drop j) (List.take_append_drop j l).symm)
  have HLO := Lib.hid (fun j => rec_lo h (l.take j) (l.drop j) (List.take_append_drop j l).symm)
  obtain ⟨a, cap, rfl, h1, h2, h3⟩ := h
  have H3 := Lib.hid h3
  clear hp h3
  unfold maxLen at h2
  go_enter Tryz.func69, Tryz.ntmps69
  go_wp2_with fail
  have hF := refFind_ok (.slice a l.length cap) l x.nm _ (HR.out _ ((Upd.refl _ _).alloc (boxF x)))
  rw [HP.out] at hF
  refine hF.mono ?_
  rintro e w1 ⟨rfl, rfl⟩
  clear hF
  go_wp2_with fail
  go_loopg [7] l.length (fun n i wr => ∃ j : Nat, i = .int .i64 j ∧ j ≤ l.length ∧ n = l.length - j ∧ Hid (∀ i (hi : i < j) (hl : i < l.length), leB l[i].nm x.nm = true) ∧ wr.Alike (w.alloc (boxF x)))
  case atStart => exact ⟨0, rfl, by omega, rfl, Lib.hid (fun i hi => by omega), alike_refl _⟩
  case round =>
    obtain ⟨j, rfl, hj, rfl, hC, hA⟩ := hrel
    have b0 : wr.heap[w.heap.size]? = some (boxF x) := by rw [hA.1, heap_alloc, if_pos rfl]
    have x0 : wr.cell? ⟨w.heap.size, 0, none⟩ = some (.string x.nm) := cell_blk b0 0
    have HU : Hid (Upd [] w wr) := Lib.hid (((Upd.refl [] w).alloc _).alike hA)
    have HA := Lib.hid hA
    have HB0 := Lib.hid b0
    clear hA b0
    by_cases hjl : ∃ h : j < l.length, leB l[j].nm x.nm = true
    · obtain ⟨hjl, hle⟩ := hjl
      have hd : decide ((j : Int) < (l.length : Int)) = true := by simpa using hjl
      obtain ⟨b, off, rfl, hf⟩ := H3.out j hjl
      have c0 := (hf.upd HU.out (by simp)).1
      clear hf
      have hC2 : Hid (∀ i (hi : i < j + 1) (hl : i < l.length), leB l[i].nm x.nm = true) := Lib.hid (fun i hi hl => by
        rcases Nat.lt_or_ge i j with h | h
        · exact hC.out i h hl
        · have : i = j := by omega
          subst this; exact hle)
      have hop : ∀ W, (binOp .leq 9 (.string l[j].nm) (.string x.nm)).run Tryz.prog W = .ok (.bool true) W := fun W => by rw [leB_run, hle]
      generalize l[j].nm = y at *
      clear hle
      go_upto_region 7 with (fail)
      go_quiet (fail)
      go_wp2_with fail
      go_roundg (l.length - (j + 1))
      case measure => omega
      case rel => exact ⟨j + 1, by go_num, by omega, rfl, hC2, HA.out⟩
    · have hspl := split_while (fun y : Fd => leB y.nm x.nm) l hj (fun i hi => hC.out i hi (by omega)) (fun h => by
        cases e : leB l[j].nm x.nm with
        | false => rfl
        | true => exact absurd ⟨h, e⟩ hjl)
      have hins : insF l x = l.take j ++ x :: l.drop j := by unfold insF; rw [hspl.1, hspl.2]
      have hlen : (l.take j).length = j := by simp; omega
      have hlen2 : (l.drop j).length = l.length - j := by simp
      obtain ⟨A1, q1, hs1, hS1⟩ := HHI.out j
      obtain ⟨A2, q2, hs2, hS2⟩ := HLO.out j
      have HI := Lib.hid hins
      have HS1 := Lib.hid hS1
      have HS2 := Lib.hid hS2
      have HX := Lib.hid (And.intro (cell_blk HB0.out 1) (And.intro (cell_blk HB0.out 2) (cell_blk HB0.out 3)))
      clear hS1 hS2 hspl hins
      have hlen' := Lib.hid hlen.symm
      have hL2 : (l.take j).length + (l.drop j).length ≤ l.length := by omega
      have hW1 := HU.out
      generalize l.take j = l1 at *
      generalize l.drop j = l2 at *
      have hlt : w.heap.size < wr.heap.size := lt_of_blk HB0.out
      have hgt := fun W : World => show (W.alloc (boxF x)).heap[W.heap.size]? = some (boxF x) by rw [heap_alloc, if_pos rfl]
      have HGT := Lib.hid hgt
      clear hgt hlen hlen2 hW1
      have HNE : Hid (∀ W : World, (W.alloc (.cells #[] 64)).heap[W.heap.size]? = some (.cells #[] 64 (0, 0))) := Lib.hid fun W => by rw [heap_alloc, if_pos rfl]
      have HE2 : Hid (∀ W : World, ((W.alloc (.cells #[] 64)).alloc (boxF x)).heap[W.heap.size]? = some (.cells #[] 64 (0, 0))) := Lib.hid fun W => by rw [heap_alloc, if_neg (by simp), heap_alloc, if_pos rfl]
      have HX2 : Hid (∀ W : World, ((W.alloc (.cells #[] 64)).alloc (boxF x)).heap[W.heap.size + 1]? = some (boxF x)) := Lib.hid fun W => by rw [heap_alloc, if_pos (by simp)]
      have HE3 : Hid (∀ W : World, ((W.alloc (boxF x)).alloc (.cells #[] 64)).heap[W.heap.size + 1]? = some (.cells #[] 64 (0, 0))) := Lib.hid fun W => by rw [heap_alloc, if_pos (by simp)]
      have HX3 : Hid (∀ W : World, ((W.alloc (boxF x)).alloc (.cells #[] 64)).heap[W.heap.size]? = some (boxF x)) := Lib.hid fun W => by rw [heap_alloc, if_neg (by simp), heap_alloc, if_pos rfl]
      by_cases hj2 : j < l.length
      · have hd : decide ((j : Int) < (l.length : Int)) = true := by simpa using hj2
        obtain ⟨b, off, rfl, hf⟩ := H3.out j hj2
        have c0 := (hf.upd HU.out (by simp)).1
        clear hf
        have hop : ∀ W, (binOp .leq 9 (.string l[j].nm) (.string x.nm)).run Tryz.prog W = .ok (.bool false) W := fun W => by
          rw [leB_run]
          cases e : leB l[j].nm x.nm with
          | false => rfl
          | true => exact absurd ⟨hj2, e⟩ hjl
        clear hjl
        generalize l[j].nm = y at *
        go_upto_region 7 with (fail)
        go_quiet (fail)
        go_wp2_with fail
        have hj9 := hlen'.out
        subst hj9
        clear hlen'
        obtain ⟨x1, x2, x3⟩ := HX.out
        simp only [List.getElem?_toArray, List.getElem?_cons_succ, List.getElem?_cons_zero] at x1 x2 x3
        have HUq : Hid (Upd [] w (wr.drewN nq)) := Lib.hid ((HU.out).alike ⟨rfl, rfl, rfl⟩)
        have hltq : w.heap.size < (wr.drewN nq).heap.size := hlt
        have y0 : (wr.drewN nq).cell? ⟨w.heap.size, 0, none⟩ = some (.string x.nm) := x0
        have y1 : (wr.drewN nq).cell? ⟨w.heap.size, 1, none⟩ = some (.bool x.tx) := x1
        have y2 : (wr.drewN nq).cell? ⟨w.heap.size, 2, none⟩ = some (.int .i64 x.n) := x2
        have y3 : (wr.drewN nq).cell? ⟨w.heap.size, 3, none⟩ = some (.string x.s) := x3
        clear x0 x1 x2 x3 HX HU hlt HHI HLO H3 HN HA HB0 c0
        generalize wr.drewN nq = wq at *
        clear hC hop hd wr
        go_region_held3 (fun w' => w'.cell? ⟨w.heap.size, 0, none⟩ = some (.string x.nm) ∧ w'.cell? ⟨w.heap.size, 1, none⟩ = some (.bool x.tx) ∧ w'.cell? ⟨w.heap.size, 2, none⟩ = some (.int .i64 x.n) ∧ w'.cell? ⟨w.heap.size, 3, none⟩ = some (.string x.s))
          (first
            | go_keep
            | (go_split_ands; refine ⟨?_, ?_, ?_, ?_⟩ <;> (rw [hgrow3.cell_far _ (by simp; omega) (fun q => hnb2 q.symm)]; assumption))
            | (go_split_ands; refine ⟨?_, ?_, ?_, ?_⟩ <;> (rw [hgrow2.cell_far _ (by simp; omega) (fun q => hnb1 q.symm)]; assumption))
            | (go_split_ands; refine ⟨?_, ?_, ?_, ?_⟩ <;> (rw [hgrow.cell_far _ (by simp; omega) (by simp [Value.ownBlock]; omega)]; assumption)))
          (first
            | (refine step_append_rec (by rfl) _ _ (by rfl) (base := wq.heap.size) (v := .slice (some ⟨wq.heap.size, 0, none⟩) 0 0) (l := []) (A := A1) (c := q1) (r := l1) (by rfl) (by exact own_empty_blk (by exact HNE.out wq) (by omega)) (by rfl) (by exact HS1.out _ (HR.out _ (by repeat' first | exact HUq.out | apply Upd.alloc | apply Upd.drew))) ?_ ?_ ?_; (simp; omega); (simp <;> omega); intro v1 w1 hown1 hgrow; have hnb1 : v1.ownBlock ≠ some w.heap.size := (fun q => by have := (hown1.lt _ q).1; omega); have hs1' : w.heap.size < w1.heap.size := (by have := hgrow.size; simp at this; omega); have u1 : Upd [] w w1 := Upd.grown (by repeat' first | exact HUq.out | apply Upd.alloc | apply Upd.drew) hgrow (fun k hk => by simp [Value.ownBlock] at hk; omega))
            | (refine step_append_rec (by rfl) _ _ (by rfl) (base := wq.heap.size) (v := .slice (some ⟨wq.heap.size, 0, none⟩) 0 0) (l := []) (A := A1) (c := q1) (r := l1) (by rfl) (by exact own_empty_blk (by exact HE2.out wq) (by omega)) (by rfl) (by exact HS1.out _ (HR.out _ (by repeat' first | exact HUq.out | apply Upd.alloc | apply Upd.drew))) ?_ ?_ ?_; (simp; omega); (simp <;> omega); intro v1 w1 hown1 hgrow; have hnb1 : v1.ownBlock ≠ some w.heap.size := (fun q => by have := (hown1.lt _ q).1; omega); have hs1' : w.heap.size < w1.heap.size := (by have := hgrow.size; simp at this; omega); have u1 : Upd [] w w1 := Upd.grown (by repeat' first | exact HUq.out | apply Upd.alloc | apply Upd.drew) hgrow (fun k hk => by simp [Value.ownBlock] at hk; omega); have hbx : w1.heap[wq.heap.size + 1]? = some (boxF x) := (by rw [hgrow.block _ (by simp <;> omega) (by simp [Value.ownBlock] <;> omega)]; exact HX2.out wq))
            | (refine step_append_rec (by rfl) _ _ (by rfl) (base := wq.heap.size) (v := .slice (some ⟨wq.heap.size + 1, 0, none⟩) 0 0) (l := []) (A := A1) (c := q1) (r := l1) (by rfl) (by exact own_empty_blk (by exact HE3.out wq) (by omega)) (by rfl) (by exact HS1.out _ (HR.out _ (by repeat' first | exact HUq.out | apply Upd.alloc | apply Upd.drew))) ?_ ?_ ?_; (simp; omega); (simp <;> omega); intro v1 w1 hown1 hgrow; have hnb1 : v1.ownBlock ≠ some w.heap.size := (fun q => by have := (hown1.lt _ q).1; omega); have hs1' : w.heap.size < w1.heap.size := (by have := hgrow.size; simp at this; omega); have u1 : Upd [] w w1 := Upd.grown (by repeat' first | exact HUq.out | apply Upd.alloc | apply Upd.drew) hgrow (fun k hk => by simp [Value.ownBlock] at hk; omega); have hbx : w1.heap[wq.heap.size]? = some (boxF x) := (by rw [hgrow.block _ (by simp <;> omega) (by simp [Value.ownBlock] <;> omega)]; exact HX3.out wq))
            | (refine step_append_rec (by rfl) _ _ (by rfl) (base := wq.heap.size) (v := v1) (l := [] ++ l1) (A := some ⟨w1.heap.size, 0, none⟩) (c := 1) (r := [x]) (by rfl) (by exact hown1.alloc _) (by rfl) (by exact src_box (HGT.out w1)) ?_ ?_ ?_; (simp; omega); (have := hgrow.size; simp at this ⊢; omega); intro v2 w2 hown2 hgrow2; have hnb2 : v2.ownBlock ≠ some w.heap.size := (fun q => by have := (hown2.lt _ q).1; omega); have hs2' : w.heap.size < w2.heap.size := (by have := hgrow2.size; (try simp at this); omega); have u2 : Upd [] w w2 := Upd.grown (u1.alloc _) hgrow2 (fun k hk => by have := (hown1.lt k hk).1; omega))
            | (refine step_append_rec (by rfl) _ _ (by rfl) (base := wq.heap.size) (v := v1) (l := [] ++ l1) (A := some ⟨wq.heap.size + 1, 0, none⟩) (c := 1) (r := [x]) (by rfl) (by exact hown1) (by rfl) (by exact src_box hbx) ?_ ?_ ?_; (simp; omega); (have := hgrow.size; simp at this ⊢; omega); intro v2 w2 hown2 hgrow2; have hnb2 : v2.ownBlock ≠ some w.heap.size := (fun q => by have := (hown2.lt _ q).1; omega); have hs2' : w.heap.size < w2.heap.size := (by have := hgrow2.size; (try simp at this); omega); have u2 : Upd [] w w2 := Upd.grown u1 hgrow2 (fun k hk => by have := (hown1.lt k hk).1; omega))
            | (refine step_append_rec (by rfl) _ _ (by rfl) (base := wq.heap.size) (v := v1) (l := [] ++ l1) (A := some ⟨wq.heap.size, 0, none⟩) (c := 1) (r := [x]) (by rfl) (by exact hown1) (by rfl) (by exact src_box hbx) ?_ ?_ ?_; (simp; omega); (have := hgrow.size; simp at this ⊢; omega); intro v2 w2 hown2 hgrow2; have hnb2 : v2.ownBlock ≠ some w.heap.size := (fun q => by have := (hown2.lt _ q).1; omega); have hs2' : w.heap.size < w2.heap.size := (by have := hgrow2.size; (try simp at this); omega); have u2 : Upd [] w w2 := Upd.grown u1 hgrow2 (fun k hk => by have := (hown1.lt k hk).1; omega))
            | (refine step_append_rec (by rfl) _ _ (by rfl) (base := wq.heap.size) (v := v2) (l := [] ++ l1 ++ [x]) (A := A2) (c := q2) (r := l2) (by rfl) (by exact hown2) (by rfl) (by exact HS2.out _ (HR.out _ u2)) ?_ ?_ ?_; (simp; omega); (have := hgrow.size; have := hgrow2.size; simp at *; omega); intro v3 w3 hown3 hgrow3; have hs3' : w.heap.size < w3.heap.size := (by have := hgrow3.size; omega); have u3 : Upd [] w w3 := Upd.grown u2 hgrow3 (fun k hk => by have := (hown2.lt k hk).1; omega)))
        all_goals
          have HO : Hid (Own w3 w.heap.size v3 (insF l x) ∧ Upd [] w w3) := Lib.hid ⟨by rw [HI.out]; exact own_mono (by simpa using hown3) (by omega), u3⟩
          clear hown3 hown2 hown1 hgrow hgrow2 hgrow3 u1 u2 u3 hs1 hs2
          go_wp2_with fail
          go_ret
          exact ⟨_, rfl, HO.out.1, HO.out.2⟩
      · have hd : decide ((j : Int) < (l.length : Int)) = false := by simpa using hj2
        clear hjl
        go_upto_region 7 with (fail)
        go_quiet (fail)
        go_wp2_with fail
        have hj9 := hlen'.out
        subst hj9
        clear hlen'
        obtain ⟨x1, x2, x3⟩ := HX.out
        simp only [List.getElem?_toArray, List.getElem?_cons_succ, List.getElem?_cons_zero] at x1 x2 x3
        have HUq : Hid (Upd [] w (wr.drewN nq)) := Lib.hid ((HU.out).alike ⟨rfl, rfl, rfl⟩)
        have hltq : w.heap.size < (wr.drewN nq).heap.size := hlt
        have y0 : (wr.drewN nq).cell? ⟨w.heap.size, 0, none⟩ = some (.string x.nm) := x0
        have y1 : (wr.drewN nq).cell? ⟨w.heap.size, 1, none⟩ = some (.bool x.tx) := x1
        have y2 : (wr.drewN nq).cell? ⟨w.heap.size, 2, none⟩ = some (.int .i64 x.n) := x2
        have y3 : (wr.drewN nq).cell? ⟨w.heap.size, 3, none⟩ = some (.string x.s) := x3
        clear x0 x1 x2 x3 HX HU hlt HHI HLO H3 HN HA HB0
        generalize wr.drewN nq = wq at *
        clear hC hd wr
        go_region_held3 (fun w' => w'.cell? ⟨w.heap.size, 0, none⟩ = some (.string x.nm) ∧ w'.cell? ⟨w.heap.size, 1, none⟩ = some (.bool x.tx) ∧ w'.cell? ⟨w.heap.size, 2, none⟩ = some (.int .i64 x.n) ∧ w'.cell? ⟨w.heap.size, 3, none⟩ = some (.string x.s))
          (first
            | go_keep
            | (go_split_ands; refine ⟨?_, ?_, ?_, ?_⟩ <;> (rw [hgrow3.cell_far _ (by simp; omega) (fun q => hnb2 q.symm)]; assumption))
            | (go_split_ands; refine ⟨?_, ?_, ?_, ?_⟩ <;> (rw [hgrow2.cell_far _ (by simp; omega) (fun q => hnb1 q.symm)]; assumption))
            | (go_split_ands; refine ⟨?_, ?_, ?_, ?_⟩ <;> (rw [hgrow.cell_far _ (by simp; omega) (by simp [Value.ownBlock]; omega)]; assumption)))
          (first
            | (refine step_append_rec (by rfl) _ _ (by rfl) (base := wq.heap.size) (v := .slice (some ⟨wq.heap.size, 0, none⟩) 0 0) (l := []) (A := A1) (c := q1) (r := l1) (by rfl) (by exact own_empty_blk (by exact HNE.out wq) (by omega)) (by rfl) (by exact HS1.out _ (HR.out _ (by repeat' first | exact HUq.out | apply Upd.alloc | apply Upd.drew))) ?_ ?_ ?_; (simp; omega); (simp <;> omega); intro v1 w1 hown1 hgrow; have hnb1 : v1.ownBlock ≠ some w.heap.size := (fun q => by have := (hown1.lt _ q).1; omega); have hs1' : w.heap.size < w1.heap.size := (by have := hgrow.size; simp at this; omega); have u1 : Upd [] w w1 := Upd.grown (by repeat' first | exact HUq.out | apply Upd.alloc | apply Upd.drew) hgrow (fun k hk => by simp [Value.ownBlock] at hk; omega))
            | (refine step_append_rec (by rfl) _ _ (by rfl) (base := wq.heap.size) (v := .slice (some ⟨wq.heap.size, 0, none⟩) 0 0) (l := []) (A := A1) (c := q1) (r := l1) (by rfl) (by exact own_empty_blk (by exact HE2.out wq) (by omega)) (by rfl) (by exact HS1.out _ (HR.out _ (by repeat' first | exact HUq.out | apply Upd.alloc | apply Upd.drew))) ?_ ?_ ?_; (simp; omega); (simp <;> omega); intro v1 w1 hown1 hgrow; have hnb1 : v1.ownBlock ≠ some w.heap.size := (fun q => by have := (hown1.lt _ q).1; omega); have hs1' : w.heap.size < w1.heap.size := (by have := hgrow.size; simp at this; omega); have u1 : Upd [] w w1 := Upd.grown (by repeat' first | exact HUq.out | apply Upd.alloc | apply Upd.drew) hgrow (fun k hk => by simp [Value.ownBlock] at hk; omega); have hbx : w1.heap[wq.heap.size + 1]? = some (boxF x) := (by rw [hgrow.block _ (by simp <;> omega) (by simp [Value.ownBlock] <;> omega)]; exact HX2.out wq))
            | (refine step_append_rec (by rfl) _ _ (by rfl) (base := wq.heap.size) (v := .slice (some ⟨wq.heap.size + 1, 0, none⟩) 0 0) (l := []) (A := A1) (c := q1) (r := l1) (by rfl) (by exact own_empty_blk (by exact HE3.out wq) (by omega)) (by rfl) (by exact HS1.out _ (HR.out _ (by repeat' first | exact HUq.out | apply Upd.alloc | apply Upd.drew))) ?_ ?_ ?_; (simp; omega); (simp <;> omega); intro v1 w1 hown1 hgrow; have hnb1 : v1.ownBlock ≠ some w.heap.size := (fun q => by have := (hown1.lt _ q).1; omega); have hs1' : w.heap.size < w1.heap.size := (by have := hgrow.size; simp at this; omega); have u1 : Upd [] w w1 := Upd.grown (by repeat' first | exact HUq.out | apply Upd.alloc | apply Upd.drew) hgrow (fun k hk => by simp [Value.ownBlock] at hk; omega); have hbx : w1.heap[wq.heap.size]? = some (boxF x) := (by rw [hgrow.block _ (by simp <;> omega) (by simp [Value.ownBlock] <;> omega)]; exact HX3.out wq))
            | (refine step_append_rec (by rfl) _ _ (by rfl) (base := wq.heap.size) (v := v1) (l := [] ++ l1) (A := some ⟨w1.heap.size, 0, none⟩) (c := 1) (r := [x]) (by rfl) (by exact hown1.alloc _) (by rfl) (by exact src_box (HGT.out w1)) ?_ ?_ ?_; (simp; omega); (have := hgrow.size; simp at this ⊢; omega); intro v2 w2 hown2 hgrow2; have hnb2 : v2.ownBlock ≠ some w.heap.size := (fun q => by have := (hown2.lt _ q).1; omega); have hs2' : w.heap.size < w2.heap.size := (by have := hgrow2.size; (try simp at this); omega); have u2 : Upd [] w w2 := Upd.grown (u1.alloc _) hgrow2 (fun k hk => by have := (hown1.lt k hk).1; omega))
            | (refine step_append_rec (by rfl) _ _ (by rfl) (base := wq.heap.size) (v := v1) (l := [] ++ l1) (A := some ⟨wq.heap.size + 1, 0, none⟩) (c := 1) (r := [x]) (by rfl) (by exact hown1) (by rfl) (by exact src_box hbx) ?_ ?_ ?_; (simp; omega); (have := hgrow.size; simp at this ⊢; omega); intro v2 w2 hown2 hgrow2; have hnb2 : v2.ownBlock ≠ some w.heap.size := (fun q => by have := (hown2.lt _ q).1; omega); have hs2' : w.heap.size < w2.heap.size := (by have := hgrow2.size; (try simp at this); omega); have u2 : Upd [] w w2 := Upd.grown u1 hgrow2 (fun k hk => by have := (hown1.lt k hk).1; omega))
            | (refine step_append_rec (by rfl) _ _ (by rfl) (base := wq.heap.size) (v := v1) (l := [] ++ l1) (A := some ⟨wq.heap.size, 0, none⟩) (c := 1) (r := [x]) (by rfl) (by exact hown1) (by rfl) (by exact src_box hbx) ?_ ?_ ?_; (simp; omega); (have := hgrow.size; simp at this ⊢; omega); intro v2 w2 hown2 hgrow2; have hnb2 : v2.ownBlock ≠ some w.heap.size := (fun q => by have := (hown2.lt _ q).1; omega); have hs2' : w.heap.size < w2.heap.size := (by have := hgrow2.size; (try simp at this); omega); have u2 : Upd [] w w2 := Upd.grown u1 hgrow2 (fun k hk => by have := (hown1.lt k hk).1; omega))
            | (refine step_append_rec (by rfl) _ _ (by rfl) (base := wq.heap.size) (v := v2) (l := [] ++ l1 ++ [x]) (A := A2) (c := q2) (r := l2) (by rfl) (by exact hown2) (by rfl) (by exact HS2.out _ (HR.out _ u2)) ?_ ?_ ?_; (simp; omega); (have := hgrow.size; have := hgrow2.size; simp at *; omega); intro v3 w3 hown3 hgrow3; have hs3' : w.heap.size < w3.heap.size := (by have := hgrow3.size; omega); have u3 : Upd [] w w3 := Upd.grown u2 hgrow3 (fun k hk => by have := (hown2.lt k hk).1; omega)))
        all_goals
          have HO : Hid (Own w3 w.heap.size v3 (insF l x) ∧ Upd [] w w3) := Lib.hid ⟨by rw [HI.out]; exact own_mono (by simpa using hown3) (by omega), u3⟩
          clear hown3 hown2 hown1 hgrow hgrow2 hgrow3 u1 u2 u3 hs1 hs2
          go_wp2_with fail
          go_ret
          exact ⟨_, rfl, HO.out.1, HO.out.2⟩

theorem refSet_ok (v : Value) (l : List Fd) (x : Fd) (w : World) (h : RecAt w v l) (hl : (l.length + 1) * 48 ≤ 140737488355328) :
    Calls Tryz.prog 69 #[v, aggF x] w (OwnPost (setF l x) w) := by
  unfold setF
  rcases posF_cases l x.nm with ⟨hp, -, -⟩ | ⟨i, hi, hp, -, -, -⟩
  · rw [if_pos (by omega)]
    exact refSet_miss v l x w h hl hp
  · rw [if_neg (by omega), hp, Int.toNat_natCast]
    exact refSet_hit v l x w h (by omega) hi hp
end Go.Proofs.YtajppgngoffonaaGreatDoor
