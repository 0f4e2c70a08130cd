/- Upcast, the ground: what a call leaves of the memory; rows; texts. Names: what may be one; the document's function answers so. Records in memory; the document's find and Get. Records: the document's Get. Records: rows of the call's own; the document's Drop. Records: an append of a record, nil or not, to a row of the call's own. Records: parts of a record; the document's Drop. Records: a field stored in a row; the document's Set. Records: the document's Set. Records: the document's Set, where the name is new. -/
import Derived.WalkKit
import Derived.ProofKit
import Derived.OpenShut
import Derived.Handy
import Derived.Lib.Hide
import Derived.Deep.LoopGhost
import Derived.Below
import Derived.Deep.RegionHeld3
import Derived.Deep.AppendLies
import Derived.Deep.RegionLaw
import Derived.Maps.AppendAt
import Derived.OwnWalk
import Derived.BigQuiet
import Derived.Deep.Cut
import Derived.Test.YtajppgngoffonaaDoorChecked
namespace Go.Proofs.YtajppgngoffonaaDoor
open Go.RowKit
def Obj.put (o : Nat) (v : Value) : Obj → Obj
  | .cells c e f => .cells (c.setIfInBounds o v) e f
  | x => x

theorem heap_setCell (w : World) (b o : Nat) (v : Value) (k : Nat) :
    (w.setCell ⟨b, o, none⟩ v).heap[k]? = if k = b then (w.heap[k]?).map (Obj.put o v) else w.heap[k]? := by
  simp only [World.setCell, Array.getElem?_modify]
  by_cases h : b = k
  · subst h
    simp only [if_true]
    cases w.heap[b]? with
    | none => rfl
    | some x => cases x <;> rfl
  · rw [if_neg h, if_neg (fun e => h e.symm)]

theorem heap_alloc (w : World) (o : Obj) (k : Nat) : (w.alloc o).heap[k]? = if k = w.heap.size then some o else w.heap[k]? := by
  show (w.heap.push o)[k]? = _
  rw [Array.getElem?_push]

theorem heap_drew (w : World) : w.drew.heap = w.heap := rfl

theorem cell_blk {w : World} {b : Nat} {c : Array Value} {e : TypeId} {f : Nat × Nat} (h : w.heap[b]? = some (.cells c e f)) (o : Nat) : w.cell? ⟨b, o, none⟩ = c[o]? := by
  simp [World.cell?, h]

theorem frozen_blk {w : World} {b : Nat} {c : Array Value} {e : TypeId} (h : w.heap[b]? = some (.cells c e (0, 0))) (o : Nat) : w.frozen? ⟨b, o, none⟩ = false := by
  simp [World.frozen?, h]

theorem lt_of_blk {w : World} {b : Nat} {o : Obj} (h : w.heap[b]? = some o) : b < w.heap.size := by
  rcases Nat.lt_or_ge b w.heap.size with h' | h'
  · exact h'
  · simp [Array.getElem?_eq_none h'] at h

/-- All blocks that were there stay, but those of F. -/
structure Upd (F : List Nat) (w w' : World) : Prop where
  os : w'.os = w.os
  output : w'.output = w.output
  size : w.heap.size ≤ w'.heap.size
  block : ∀ k, k < w.heap.size → k ∉ F → w'.heap[k]? = w.heap[k]?

theorem Upd.refl (F : List Nat) (w : World) : Upd F w w := ⟨rfl, rfl, Nat.le_refl _, fun _ _ _ => rfl⟩
theorem Upd.trans {F : List Nat} {a b c : World} (h : Upd F a b) (g : Upd F b c) : Upd F a c :=
  ⟨g.os.trans h.os, g.output.trans h.output, Nat.le_trans h.size g.size, fun k hk hn => (g.block k (Nat.lt_of_lt_of_le hk h.size) hn).trans (h.block k hk hn)⟩
theorem Upd.next {F G : List Nat} {a b c : World} (h : Upd F a b) (g : Upd G b c) (hs : ∀ k, k ∈ G → k < a.heap.size → k ∈ F) : Upd F a c :=
  ⟨g.os.trans h.os, g.output.trans h.output, Nat.le_trans h.size g.size, fun k hk hn => (g.block k (Nat.lt_of_lt_of_le hk h.size) (fun q => hn (hs k q hk))).trans (h.block k hk hn)⟩
theorem Upd.mono {F G : List Nat} {w w' : World} (h : Upd F w w') (hs : ∀ k, k ∈ F → k < w.heap.size → k ∈ G) : Upd G w w' :=
  ⟨h.os, h.output, h.size, fun k hk hn => h.block k hk (fun hf => hn (hs k hf hk))⟩
theorem Upd.alike {F : List Nat} {w w' w'' : World} (h : Upd F w w') (g : w''.Alike w') : Upd F w w'' :=
  ⟨g.2.1.trans h.os, g.2.2.trans h.output, by rw [g.1]; exact h.size, fun k hk hn => by rw [g.1]; exact h.block k hk hn⟩
theorem Upd.setCell {F : List Nat} {w w' : World} (h : Upd F w w') {b : Nat} (hb : b ∈ F) (o : Nat) (v : Value) : Upd F w (w'.setCell ⟨b, o, none⟩ v) :=
  h.trans ⟨rfl, rfl, by simp, fun k _ hn => by rw [heap_setCell, if_neg (by rintro rfl; exact hn hb)]⟩
theorem Upd.setCellNew {F : List Nat} {w w' : World} (h : Upd F w w') {b : Nat} (hb : w.heap.size ≤ b) (o : Nat) (v : Value) : Upd F w (w'.setCell ⟨b, o, none⟩ v) :=
  ⟨h.os, h.output, by simpa using h.size, fun k hk hn => by rw [heap_setCell, if_neg (by omega)]; exact h.block k hk hn⟩
theorem Upd.alloc {F : List Nat} {w w' : World} (h : Upd F w w') (o : Obj) : Upd F w (w'.alloc o) :=
  h.trans ⟨rfl, rfl, by simp, fun k hk _ => by rw [heap_alloc, if_neg (by omega)]⟩
theorem Upd.drew {F : List Nat} {w w' : World} (h : Upd F w w') : Upd F w w'.drew := ⟨h.os, h.output, h.size, h.block⟩

theorem alike_drew (w : World) : w.drew.Alike w := ⟨rfl, rfl, rfl⟩
theorem alike_refl (w : World) : w.Alike w := ⟨rfl, rfl, rfl⟩

theorem bytes_beq (a b : ByteArray) : (a == b) = decide (a = b) := by
  cases a with | mk a => cases b with | mk b =>
  rw [Bool.eq_iff_iff]
  show ByteArray.beq ⟨a⟩ ⟨b⟩ = true ↔ _
  simp only [ByteArray.beq, decide_eq_true_eq, ByteArray.mk.injEq]
  exact beq_iff_eq

/-- Behind an append to a row of the call's own. -/
theorem Upd.grown {F : List Nat} {w a b : World} {row : Option Nat} (h : Upd F w a) (hg : a.grownBy b row) (hr : ∀ k, row = some k → w.heap.size ≤ k) : Upd F w b :=
  ⟨hg.os.trans h.os, hg.output.trans h.output, Nat.le_trans h.size hg.size, fun k hk hn => (hg.block k (Nat.lt_of_lt_of_le hk h.size) (fun e => by have := hr k e.symm; omega)).trans (h.block k hk hn)⟩
theorem ownBlock_ge {w : World} {base : Nat} {e : TypeId} {size : Nat} {v : Value} {n : Nat} {xs : List Value} (h : w.ownsRow base e size v n xs) : ∀ k, v.ownBlock = some k → base ≤ k := fun k hk => (h.lt k hk).1
/-- A row is owned in whatever world has its block as it was. -/
theorem own_upd {F : List Nat} {w w' : World} {base : Nat} {e : TypeId} {size : Nat} {v : Value} {n : Nat} {xs : List Value} (h : w.ownsRow base e size v n xs) (u : Upd F w w') (hF : ∀ k ∈ F, v.ownBlock ≠ some k) : w'.ownsRow base e size v n xs := by
  have hlt := h.lt
  obtain ⟨h1, h2⟩ := h
  refine ⟨h1, ?_⟩
  rcases h2 with h2 | ⟨g, cap, cur, hv, hg, hh, r⟩
  · exact Or.inl h2
  · subst hv
    have := (hlt g rfl).2
    exact Or.inr ⟨g, cap, cur, rfl, hg, by rw [u.block g this (fun q => hF g q rfl)]; exact hh, r⟩
theorem Upd.below {F : List Nat} {w a b : World} (h : Upd F w a) {B : Nat} (g : Below B a b) (hB : w.heap.size ≤ B) : Upd F w b :=
  ⟨g.os.trans h.os, g.output.trans h.output, Nat.le_trans h.size g.size, fun k hk hn => (g.block k (Nat.lt_of_lt_of_le hk hB)).trans (h.block k hk hn)⟩
end Go.Proofs.YtajppgngoffonaaDoor

namespace Go.Proofs.YtajppgngoffonaaDoor
open Go.RowKit

def okByte (c : Nat) : Bool := (decide (97 ≤ c) && decide (c ≤ 122)) || (decide (48 ≤ c) && decide (c ≤ 57)) || decide (c = 95)
def nameL (l : List UInt8) : Bool := decide (1 ≤ l.length) && decide (l.length ≤ 32) && decide (97 ≤ (l.headD 0).toNat) && decide ((l.headD 0).toNat ≤ 122) && l.all fun c => okByte c.toNat
def nameOk (s : ByteArray) : Bool := nameL s.data.toList

theorem bytes_head (s : ByteArray) (h : 0 < s.size) : s.data.toList.headD 0 = s[0] := by
  obtain ⟨⟨l⟩⟩ := s
  cases l with
  | nil => exact absurd h (by decide)
  | cons c l => rfl

theorem bytes_getD (s : ByteArray) (i : Nat) (h : i < s.size) : s.data.toList.getD i 0 = s[i] := by
  obtain ⟨⟨l⟩⟩ := s
  simp [List.getD_eq_getElem?_getD, List.getElem?_eq_getElem (show i < l.length from h)]
  rfl

theorem all_take {α : Type} {p : α → Bool} {d : α} : ∀ (l : List α) (i : Nat), i < l.length → (l.take i).all p = true → ((l.take (i + 1)).all p = p (l.getD i d)) := by
  intro l i h1 h2
  rw [List.take_add_one, List.getElem?_eq_getElem h1]
  simp only [Option.toList_some, List.all_append, h2, Bool.true_and, List.getD_eq_getElem?_getD, List.getElem?_eq_getElem h1, Option.getD_some, List.all_cons, List.all_nil, Bool.and_true]

theorem all_of_take {α : Type} {p : α → Bool} (l : List α) (i : Nat) (h : (l.take i).all p = false) : l.all p = false := by
  rw [Bool.eq_false_iff] at h ⊢
  intro q
  exact h (List.all_eq_true.2 fun x hx => List.all_eq_true.1 q x (List.mem_of_mem_take hx))

end Go.Proofs.YtajppgngoffonaaDoor

namespace Go.Proofs.YtajppgngoffonaaDoor
open Go.RowKit

/-- A field. -/
structure Fd where
  nm : ByteArray
  tx : Bool
  n : Int
  s : ByteArray

def cellsF (x : Fd) : List Value := [.string x.nm, .bool x.tx, .int .i64 x.n, .string x.s]
abbrev aggF (x : Fd) : Value := .agg #[.string x.nm, .bool x.tx, .int .i64 x.n, .string x.s]
def flatF (l : List Fd) : List Value := l.flatMap cellsF

theorem flatF_len (l : List Fd) : (flatF l).length = l.length * 4 := by
  induction l with
  | nil => rfl
  | cons x l ih => simp only [flatF, List.flatMap_cons, List.length_append, List.length_cons] at ih ⊢; rw [ih]; simp [cellsF]; omega
theorem flatF_app (l r : List Fd) : flatF (l ++ r) = flatF l ++ flatF r := by simp [flatF]
theorem flatF_at (l : List Fd) {i f : Nat} (hi : i < l.length) (hf : f < 4) : (flatF l)[i * 4 + f]? = (cellsF (l[i]))[f]? := by
  induction l generalizing i with
  | nil => simp at hi
  | cons x l ih =>
    cases i with
    | zero =>
      simp only [flatF, List.flatMap_cons]
      rw [List.getElem?_append_left (by simp [cellsF]; omega)]; simp
    | succ i =>
      simp only [flatF, List.flatMap_cons]
      rw [List.getElem?_append_right (by simp [cellsF]; omega)]
      have := ih (i := i) (by simpa using hi)
      simp only [flatF] at this
      rw [show (i + 1) * 4 + f - (cellsF x).length = i * 4 + f by simp [cellsF]; omega, this]; simp

/-- A field's four cells at b, from o on. -/
def FAt (w : World) (b o : Nat) (x : Fd) : Prop :=
  w.cell? ⟨b, o, none⟩ = some (.string x.nm) ∧ w.cell? ⟨b, o + 1, none⟩ = some (.bool x.tx) ∧ w.cell? ⟨b, o + 2, none⟩ = some (.int .i64 x.n) ∧ w.cell? ⟨b, o + 3, none⟩ = some (.string x.s)

theorem FAt.lt {w : World} {b o : Nat} {x : Fd} (h : FAt w b o x) : b < w.heap.size := World.block_lt_of_cell? _ _ h.1

theorem FAt.upd {w w' : World} {b o : Nat} {x : Fd} (h : FAt w b o x) {F : List Nat} (u : Upd F w w') (hF : b ∉ F) : FAt w' b o x := by
  have e : ∀ p, w'.cell? ⟨b, p, none⟩ = w.cell? ⟨b, p, none⟩ := fun p => World.cell?_of_block (u.block b h.lt hF)
  unfold FAt
  rw [e, e, e, e]
  exact h

/-- A slice that reads as a list of fields. -/
def RecAt (w : World) (v : Value) (l : List Fd) : Prop :=
  ∃ a cap, v = .slice a l.length cap ∧ l.length ≤ cap ∧ cap ≤ maxLen ∧ ∀ i (h : i < l.length), ∃ b off, a = some ⟨b, off, none⟩ ∧ FAt w b (off + i * 4) l[i]

theorem RecAt.upd {w w' : World} {v : Value} {l : List Fd} (h : RecAt w v l) {F : List Nat} (u : Upd F w w') (hF : ∀ b off n cap, v = .slice (some ⟨b, off, none⟩) n cap → b ∉ F) : RecAt w' v l := by
  obtain ⟨a, cap, hv, h1, h2, h3⟩ := h
  refine ⟨a, cap, hv, h1, h2, fun i hi => ?_⟩
  obtain ⟨b, off, rfl, hf⟩ := h3 i hi
  exact ⟨b, off, rfl, hf.upd u (hF _ _ _ _ hv)⟩

theorem RecAt.keep {w w' : World} {v : Value} {l : List Fd} (h : RecAt w v l) (u : Upd [] w w') : RecAt w' v l := h.upd u (by simp)

/-- Where the first field of a name is. -/
def posF (l : List Fd) (k : ByteArray) : Int := match l.findIdx? (fun x => decide (x.nm = k)) with
  | some i => i
  | none => -1

theorem posF_none {l : List Fd} {k : ByteArray} (h : ∀ x ∈ l, x.nm ≠ k) : posF l k = -1 := by
  unfold posF
  rw [List.findIdx?_eq_none_iff.2 (by intro x hx; simpa using h x hx)]

theorem posF_some {l : List Fd} {k : ByteArray} {i : Nat} (hi : i < l.length) (hk : l[i].nm = k) (h : ∀ j (hj : j < i), l[j].nm ≠ k) : posF l k = i := by
  unfold posF
  rw [List.findIdx?_eq_some_iff_getElem.2 ⟨hi, by simpa using hk, fun j hj => by simpa using h j hj⟩]

end Go.Proofs.YtajppgngoffonaaDoor

namespace Go.Proofs.YtajppgngoffonaaDoor
open Go.RowKit

def getF (l : List Fd) (k : ByteArray) : Option Fd := l.find? fun x => decide (x.nm = k)
def noF : Fd := { nm := ByteArray.empty, tx := false, n := 0, s := ByteArray.empty }

theorem posF_cases (l : List Fd) (k : ByteArray) : (posF l k = -1 ∧ (∀ x ∈ l, x.nm ≠ k) ∧ getF l k = none) ∨
    ∃ (i : Nat) (hi : i < l.length), posF l k = i ∧ l[i].nm = k ∧ (∀ j (hj : j < i), l[j].nm ≠ k) ∧ getF l k = some l[i] := by
  by_cases h : ∃ x ∈ l, x.nm = k
  · right
    have hs : (l.findIdx? fun x => decide (x.nm = k)).isSome := by
      rw [List.findIdx?_isSome]
      obtain ⟨x, hx, hk⟩ := h
      exact List.any_eq_true.2 ⟨x, hx, by simpa using hk⟩
    obtain ⟨i, hi⟩ := Option.isSome_iff_exists.1 hs
    obtain ⟨hl, hk, hj⟩ := List.findIdx?_eq_some_iff_getElem.1 hi
    refine ⟨i, hl, posF_some hl (by simpa using hk) (fun j q => by simpa using hj j q), by simpa using hk, fun j q => by simpa using hj j q, ?_⟩
    unfold getF
    rw [List.find?_eq_some_iff_getElem]
    exact ⟨hk, i, hl, rfl, fun j q => by simpa using hj j q⟩
  · left
    have hn : ∀ x ∈ l, x.nm ≠ k := fun x hx q => h ⟨x, hx, q⟩
    refine ⟨posF_none hn, hn, ?_⟩
    unfold getF
    rw [List.find?_eq_none]
    intro x hx; simpa using hn x hx

theorem posF_lt (l : List Fd) (k : ByteArray) : -1 ≤ posF l k ∧ posF l k < l.length := by
  rcases posF_cases l k with ⟨h, -⟩ | ⟨i, hi, h, -⟩
  · rw [h]; omega
  · rw [h]; omega

def GetPost (r : Option Fd) (w : World) (e : Ending) (w' : World) : Prop := e = .returned (.tuple #[aggF (r.getD noF), .bool r.isSome]) ∧ Upd [] w w'

end Go.Proofs.YtajppgngoffonaaDoor

namespace Go.Proofs.YtajppgngoffonaaDoor
open Go.RowKit

/-- An append to a row of the call's own, as one step of a region that draws its order. -/
theorem step_append_own {P : Program} {w : World} {ops : Array Oper} {o : Oper} {a : Act} {K : Act → World → Prop} {Q : Exit → Act → World → Prop} {E : Prop} (hgd : o.guard = none) (s x : Operand) (t : TypeId)
    (ho : o.op = .call { callee := .builtin .append, args := #[s, x], argTypes := #[t, t] })
    (base : Nat) (e : TypeId) (i : TypeInfo) (z : Value) (size bytes : Nat) (ht : P.underlying t = some (.slice e)) (hi : P.info? e = some i) (hz : i.zero = some z)
    (hsize : i.size = size) (hby : i.bytes = bytes) (hzs : z.cells.size = size) (hsz : 0 < size)
    (v : Value) (n : Nat) (xs : List Value) (hs : a.eval s = v) (hown : w.ownsRow base e size v n xs)
    (ad : Addr) (m c : Nat) (news : List Value) (hx : a.eval x = .slice (some ad) m c) (hl : news.length = m * size) (hnews : ∀ j u, news[j]? = some u → w.cell? (ad.add j) = some u) (h1 : ∀ u ∈ news, u.oneCell' = true)
    (h63 : n + m ≤ maxLen) (hbytes : (n + m) * bytes ≤ 140737488355328) (hbase : base ≤ w.heap.size)
    (h : ∀ v' w', w'.ownsRow base e size v' (n + m) (xs ++ news) → w.grownBy w' v.ownBlock → K (a.put o.dst v') w') :
    if Region.wanted o (yielded ops a.tmps) = true then Oper.wp P o a w K Q else E := by
  have hw : Region.wanted o (yielded ops a.tmps) = true := by simp [Region.wanted, hgd]
  rw [if_pos hw]
  exact wp_append_own w s x t ho base e i z size bytes ht hi hz hsize hby hzs hsz v n xs hs hown ad m c news hx hl hnews h1 h63 hbytes hbase fun v' w' h2 h3 _ => h v' w' h2 h3

theorem infoF : (Tryd.prog.info? 55).map (fun i => (i.zero, i.size, i.bytes)) = some (some (aggF noF), 4, 48) := by kernel_rfl

theorem flatF_one (l : List Fd) : ∀ u ∈ flatF l, u.oneCell' = true := by
  intro u hu
  obtain ⟨x, _, hx⟩ := List.mem_flatMap.1 hu
  simp [cellsF] at hx
  rcases hx with rfl | rfl | rfl | rfl <;> rfl

theorem own_empty (w : World) : (w.alloc (.cells #[] 55)).ownsRow w.heap.size 55 4 (.slice (some ⟨w.heap.size, 0, none⟩) 0 0) 0 [] :=
  ⟨rfl, .inr ⟨w.heap.size, 0, #[], rfl, Nat.le_refl _, by rw [heap_alloc, if_pos rfl], Nat.le_refl _, by unfold maxLen; omega, rfl, rfl⟩⟩

theorem elem24 : Tryd.prog.underlying 30 = some (.slice (Tryd.prog.elem 30)) := by kernel_rfl
theorem size24 (w : World) : (sizeOf (Tryd.prog.elem 30)).run Tryd.prog w = .ok 4 w := by kernel_rfl

theorem slice_hi (a : Addr) (n cap i : Nat) (h : i ≤ cap) (W : World) : (Instr.slice 30 (.slice (some a) n cap) none (some (.int .i64 i)) none).run Tryd.prog W = .ok (.slice (some (if cap = 0 then a else a.add 0)) i cap) W := by
  rw [run_slice_h (w := W) 30 (some a) n cap elem24 .i64 i (by omega) (by omega), size24]
  simp only [Result.andThen, sliced]
  split <;> simp_all

theorem slice_lo (a : Addr) (n cap i : Nat) (h : i ≤ n) (W : World) : (Instr.slice 30 (.slice (some a) n cap) (some (.int .i64 i)) none none).run Tryd.prog W = .ok (.slice (some (if cap = i then a else a.add (i * 4))) (n - i) (cap - i)) W := by
  rw [run_slice_l (w := W) 30 (some a) n cap elem24 .i64 i (by omega) (by omega), size24]
  simp only [Result.andThen, sliced]
  split <;> simp_all

/-- A part of a record's cells, as an append's source. -/
theorem src_part {w : World} {b off : Nat} {l1 l2 l3 : List Fd} (h : ∀ i (hi : i < (l1 ++ l2 ++ l3).length), FAt w b (off + i * 4) (l1 ++ l2 ++ l3)[i]) :
    ∀ j u, (flatF l2)[j]? = some u → w.cell? ((⟨b, off + l1.length * 4, none⟩ : Addr).add j) = some u := by
  intro j u hu
  have hj : j < (flatF l2).length := by
    rcases Nat.lt_or_ge j (flatF l2).length with h | h
    · exact h
    · rw [List.getElem?_eq_none h] at hu; cases hu
  have hj' := hj
  rw [flatF_len] at hj
  have hi : j / 4 < l2.length := by omega
  have hlt : l1.length + j / 4 < (l1 ++ l2 ++ l3).length := by simp; omega
  have hF := h (l1.length + j / 4) hlt
  have hx : (l1 ++ l2 ++ l3)[l1.length + j / 4] = l2[j / 4] := by
    rw [List.getElem_append_left (by simp; omega), List.getElem_append_right (by omega)]
    congr 1; omega
  rw [hx] at hF
  have h4 : j % 4 < 4 := Nat.mod_lt _ (by omega)
  have hat := flatF_at l2 hi h4
  rw [show j / 4 * 4 + j % 4 = j by omega, hu] at hat
  rw [Go.WideShapes.add_plain]
  obtain ⟨c0, c1, c2, c3⟩ := hF
  have e0 : off + l1.length * 4 + j = off + (l1.length + j / 4) * 4 + j % 4 := by omega
  rw [e0]
  generalize j % 4 = f at *
  match f, h4 with
  | 0, _ => simp [cellsF] at hat; subst hat; exact c0
  | 1, _ => simp [cellsF] at hat; subst hat; exact c1
  | 2, _ => simp [cellsF] at hat; subst hat; exact c2
  | 3, _ => simp [cellsF] at hat; subst hat; exact c3

def OwnPost (l : List Fd) (w : World) (e : Ending) (w' : World) : Prop := ∃ v, e = .returned v ∧ w'.ownsRow w.heap.size 55 4 v l.length (flatF l) ∧ Upd [] w w'

def dropF (l : List Fd) (k : ByteArray) : List Fd := l.eraseP fun x => decide (x.nm = k)

theorem dropF_miss {l : List Fd} {k : ByteArray} (h : ∀ x ∈ l, x.nm ≠ k) : dropF l k = l := by
  unfold dropF
  exact List.eraseP_of_forall_not (by intro x hx; simpa using h x hx)

theorem dropF_hit {l1 l2 : List Fd} {x : Fd} {k : ByteArray} (h : ∀ y ∈ l1, y.nm ≠ k) (hk : x.nm = k) : dropF (l1 ++ x :: l2) k = l1 ++ l2 := by
  unfold dropF
  rw [List.eraseP_append_right _ (by intro y hy; simpa using h y hy), List.eraseP_cons_of_pos (by simpa using hk)]

end Go.Proofs.YtajppgngoffonaaDoor

namespace Go.Proofs.YtajppgngoffonaaDoor
open Go.RowKit

/-- What an append's source holds: the cells of r, from A on. -/
def Src (w : World) (A : Option Addr) (r : List Fd) : Prop := (A = none → r = []) ∧ ∀ ad, A = some ad → ∀ j u, (flatF r)[j]? = some u → w.cell? (ad.add j) = some u

/-- A row of fields of the call's own. -/
abbrev Own (w : World) (base : Nat) (v : Value) (l : List Fd) : Prop := w.ownsRow base 55 4 v l.length (flatF l)

theorem append_rec {w : World} {base : Nat} {v : Value} {l : List Fd} (hown : Own w base v l) {A : Option Addr} (c : Nat) {r : List Fd} (hr : Src w A r) (hb : (l.length + r.length) * 48 ≤ 140737488355328) (hbase : base ≤ w.heap.size) (ty : TypeId) :
    ∃ v' w', (Builtin.append_ #[30, 30] ty #[v, .slice A r.length c]).run Tryd.prog w = .ok v' w' ∧ Own w' base v' (l ++ r) ∧ w.grownBy w' v.ownBlock := by
  obtain ⟨i0, hi0, hz0, hz1, hz2⟩ := info_parts infoF
  rcases A with _ | ad
  · obtain rfl := hr.1 rfl
    refine ⟨v, w, ?_, by simpa [Own] using hown, World.grownBy.refl w _⟩
    rcases hown.2 with ⟨rfl, hn⟩ | ⟨g, cap, cur, rfl, _, _, hnc, _⟩
    · simp [Builtin.append_, run_underlying Tryd.underlying30, sizeOf, typeInfo, hi0, Builtin.lenOf, Builtin.firstCells]
    · simp [Builtin.append_, run_underlying Tryd.underlying30, sizeOf, typeInfo, hi0, Builtin.lenOf, Builtin.firstCells, hnc, storeCells]
  · obtain ⟨v', w', hrun, h2, h3, _, _⟩ := run_append_own_at (P := Tryd.prog) w base 30 ty 55 i0 _ 4 48 Tryd.underlying30 hi0 hz0 hz1 hz2 rfl (by omega) v l.length (flatF l) hown ad r.length c (flatF r) (flatF_len r) (hr.2 ad rfl) (flatF_one r) (by unfold maxLen; omega) hb hbase
    exact ⟨v', w', hrun, by unfold Own; rw [flatF_app, List.length_append]; exact h2, h3⟩

theorem wp_append_rec {w : World} {o : Oper} {a : Act} {K : Act → World → Prop} {Q : Exit → Act → World → Prop} (s x : Operand)
    (ho : o.op = .call { callee := .builtin .append, args := #[s, x], argTypes := #[30, 30] }) {base : Nat} {v : Value} {l : List Fd} (hs : a.eval s = v) (hown : Own w base v l)
    {A : Option Addr} {c : Nat} {r : List Fd} (hx : a.eval x = .slice A r.length c) (hr : Src w A r) (hb : (l.length + r.length) * 48 ≤ 140737488355328) (hbase : base ≤ w.heap.size)
    (h : ∀ v' w', Own w' base v' (l ++ r) → w.grownBy w' v.ownBlock → K (a.put o.dst v') w') : o.wp Tryd.prog a w K Q := by
  obtain ⟨v', w', hrun, h2, h3⟩ := append_rec hown c hr hb hbase o.type
  unfold Oper.wp execOp
  simp only [ho, resolve, invoke, builtin, Sem.run_bind, Sem.run_pure, Result.andThen_ok, List.map_toArray, List.map_cons, List.map_nil, hs, hx, hrun]
  exact h v' w' h2 h3

theorem wpList_append_rec {w : World} {ops : Array Oper} {rest : List Oper} {o : Oper} {a : Act} {Q : Exit → Act → World → Prop} (hgd : o.guard = none) (s x : Operand)
    (ho : o.op = .call { callee := .builtin .append, args := #[s, x], argTypes := #[30, 30] }) {base : Nat} {v : Value} {l : List Fd} (hs : a.eval s = v) (hown : Own w base v l)
    {A : Option Addr} {c : Nat} {r : List Fd} (hx : a.eval x = .slice A r.length c) (hr : Src w A r) (hb : (l.length + r.length) * 48 ≤ 140737488355328) (hbase : base ≤ w.heap.size)
    (h : ∀ v' w', Own w' base v' (l ++ r) → w.grownBy w' v.ownBlock → wpList Tryd.prog ops Q rest (a.put o.dst v') w') : wpList Tryd.prog ops Q (o :: rest) a w :=
  wpList_plain hgd fun _ hK => wp_append_rec s x ho hs hown hx hr hb hbase fun v' w' h2 h3 => hK _ _ (h v' w' h2 h3)

theorem step_append_rec {w : World} {ops : Array Oper} {o : Oper} {a : Act} {K : Act → World → Prop} {Q : Exit → Act → World → Prop} {E : Prop} (hgd : o.guard = none) (s x : Operand)
    (ho : o.op = .call { callee := .builtin .append, args := #[s, x], argTypes := #[30, 30] }) {base : Nat} {v : Value} {l : List Fd} (hs : a.eval s = v) (hown : Own w base v l)
    {A : Option Addr} {c : Nat} {r : List Fd} (hx : a.eval x = .slice A r.length c) (hr : Src w A r) (hb : (l.length + r.length) * 48 ≤ 140737488355328) (hbase : base ≤ w.heap.size)
    (h : ∀ v' w', Own w' base v' (l ++ r) → w.grownBy w' v.ownBlock → K (a.put o.dst v') w') :
    if Region.wanted o (yielded ops a.tmps) = true then Oper.wp Tryd.prog o a w K Q else E := by
  have hw : Region.wanted o (yielded ops a.tmps) = true := by simp [Region.wanted, hgd]
  rw [if_pos hw]
  exact wp_append_rec s x ho hs hown hx hr hb hbase h

/-- A record as an append's source, whole. -/
theorem RecAt.src {w : World} {a : Option Addr} {n cap : Nat} {l : List Fd} (h : RecAt w (.slice a n cap) l) : n = l.length ∧ Src w a l := by
  obtain ⟨a', cap', hv, h1, h2, h3⟩ := h
  simp only [Value.slice.injEq] at hv
  obtain ⟨rfl, rfl, rfl⟩ := hv
  refine ⟨rfl, fun q => ?_, fun ad q j u hu => ?_⟩
  · cases l with
    | nil => rfl
    | cons x l => obtain ⟨b, off, e, _⟩ := h3 0 (by simp); rw [q] at e; cases e
  · have hj : j < (flatF l).length := by
      rcases Nat.lt_or_ge j (flatF l).length with h | h
      · exact h
      · rw [List.getElem?_eq_none h] at hu; cases hu
    rw [flatF_len] at hj
    obtain ⟨b, off, e, _⟩ := h3 0 (by omega)
    rw [q] at e
    cases e
    have := src_part (w := w) (b := b) (off := off) (l1 := []) (l2 := l) (l3 := []) (fun i hi => by
      obtain ⟨b', off', e', hf⟩ := h3 i (by simpa using hi)
      rw [q] at e'
      cases e'
      simpa using hf) j u hu
    simpa using this

theorem Own.recAt {w : World} {base : Nat} {v : Value} {l : List Fd} (h : Own w base v l) : RecAt w v l := by
  obtain ⟨h0, h2⟩ := h
  rcases h2 with ⟨rfl, hn⟩ | ⟨g, cap, cur, rfl, hg, hh, r1, r2, r3, r4⟩
  · have : l = [] := List.eq_nil_of_length_eq_zero hn
    subst this
    exact ⟨none, 0, rfl, by simp, by omega, by simp⟩
  · refine ⟨_, cap, rfl, r1, r2, fun i hi => ⟨g, 0, rfl, ?_⟩⟩
    have key : ∀ f, f < 4 → w.cell? ⟨g, i * 4 + f, none⟩ = (cellsF l[i])[f]? := fun f hf => by
      rw [cell_blk hh, ← Array.getElem?_toList, ← flatF_at l hi hf, ← r4, List.getElem?_take_of_lt (by omega)]
    rw [Nat.zero_add]
    exact ⟨key 0 (by omega), key 1 (by omega), key 2 (by omega), key 3 (by omega)⟩
end Go.Proofs.YtajppgngoffonaaDoor

namespace Go.Proofs.YtajppgngoffonaaDoor
open Go.RowKit

theorem src_nil (w : World) (A : Option Addr) : Src w A [] := ⟨fun _ => rfl, fun _ _ j u h => by simp [flatF] at h⟩

theorem RecAt.cells {w : World} {b off n cap : Nat} {l : List Fd} (h : RecAt w (.slice (some ⟨b, off, none⟩) n cap) l) : n = l.length ∧ ∀ i (hi : i < l.length), FAt w b (off + i * 4) l[i] := by
  obtain ⟨a', cap', hv, h1, h2, h3⟩ := h
  simp only [Value.slice.injEq] at hv
  obtain ⟨rfl, rfl, rfl⟩ := hv
  refine ⟨rfl, fun i hi => ?_⟩
  obtain ⟨b', off', e, hf⟩ := h3 i hi
  cases e
  exact hf

/-- The record up to i. -/
theorem rec_hi {w : World} {v : Value} {l : List Fd} (h : RecAt w v l) (l1 l2 : List Fd) (hl : l = l1 ++ l2) :
    ∃ A c, (∀ W : World, (Instr.slice 30 v none (some (.int .i64 l1.length)) none).run Tryd.prog W = .ok (.slice A l1.length c) W) ∧ ∀ W : World, RecAt W v l → Src W A l1 := by
  subst hl
  obtain ⟨a, cap, rfl, h1, h2, h3⟩ := h
  unfold maxLen at h2
  cases a with
  | none =>
    have hn : l1 = [] ∧ l2 = [] := by
      cases e : l1 ++ l2 with
      | nil => simpa using e
      | cons x l => obtain ⟨b, off, q, _⟩ := h3 0 (by rw [e]; simp); cases q
    obtain ⟨rfl, rfl⟩ := hn
    refine ⟨none, cap, fun W => ?_, fun W _ => src_nil _ _⟩
    rw [run_slice_h (w := W) 30 none _ cap elem24 .i64 _ (by omega) (by simp), size24]
    simp [Result.andThen, sliced]
  | some ad =>
    refine ⟨_, cap, fun W => slice_hi ad _ cap l1.length (by simp at h1; omega) W, fun W hW => ⟨fun q => by simp at q, fun ad' q j u hu => ?_⟩⟩
    have hpos : 0 < (l1 ++ l2).length := by
      cases l1 with
      | nil => simp [flatF] at hu
      | cons x l => simp
    obtain ⟨b, off, e, _⟩ := h3 0 hpos
    cases e
    have hc := hW.cells.2
    have hq : ad' = ⟨b, off, none⟩ := by
      simp only [Option.some.injEq] at q
      rw [← q, if_neg (by omega), Go.WideShapes.add_plain]; simp
    subst hq
    have := src_part (l1 := []) (l2 := l1) (l3 := l2) (fun i hi => by simpa using hc i (by simpa using hi)) j u hu
    simpa using this

/-- The record from i on. -/
theorem rec_lo {w : World} {v : Value} {l : List Fd} (h : RecAt w v l) (l1 l2 : List Fd) (hl : l = l1 ++ l2) :
    ∃ A c, (∀ W : World, (Instr.slice 30 v (some (.int .i64 l1.length)) none none).run Tryd.prog W = .ok (.slice A l2.length c) W) ∧ ∀ W : World, RecAt W v l → Src W A l2 := by
  subst hl
  obtain ⟨a, cap, rfl, h1, h2, h3⟩ := h
  unfold maxLen at h2
  cases a with
  | none =>
    have hn : l1 = [] ∧ l2 = [] := by
      cases e : l1 ++ l2 with
      | nil => simpa using e
      | cons x l => obtain ⟨b, off, q, _⟩ := h3 0 (by rw [e]; simp); cases q
    obtain ⟨rfl, rfl⟩ := hn
    refine ⟨none, cap, fun W => ?_, fun W _ => src_nil _ _⟩
    rw [run_slice_l (w := W) 30 none _ cap elem24 .i64 _ (by simp) (by simp), size24]
    simp [Result.andThen, sliced]
  | some ad =>
    refine ⟨some (if cap = l1.length then ad else ad.add (l1.length * 4)), cap - l1.length, fun W => ?_, fun W hW => ⟨fun q => by simp at q, fun ad' q j u hu => ?_⟩⟩
    · have := slice_lo ad (l1 ++ l2).length cap l1.length (by simp) W
      rw [show (l1 ++ l2).length - l1.length = l2.length by simp] at this
      exact this
    have hpos : 0 < l2.length := by
      cases l2 with
      | nil => simp [flatF] at hu
      | cons x l => simp
    obtain ⟨b, off, e, _⟩ := h3 0 (by simp; omega)
    cases e
    have hc := hW.cells.2
    have hq : ad' = ⟨b, off + l1.length * 4, none⟩ := by
      simp only [Option.some.injEq] at q
      rw [← q, if_neg (by simp at h1; omega), Go.WideShapes.add_plain]
    subst hq
    exact src_part (l1 := l1) (l2 := l2) (l3 := []) (fun i hi => by simpa using hc i (by simpa using hi)) j u hu

end Go.Proofs.YtajppgngoffonaaDoor

namespace Go.Proofs.YtajppgngoffonaaDoor
open Go.RowKit

theorem flatF_set : ∀ (l : List Fd) (i : Nat) (x : Fd), i < l.length →
    ((((flatF l).set (i * 4) (.string x.nm)).set (i * 4 + 1) (.bool x.tx)).set (i * 4 + 2) (.int .i64 x.n)).set (i * 4 + 3) (.string x.s) = flatF (l.set i x) := by
  intro l
  induction l with
  | nil => intro i x h; simp at h
  | cons y l ih =>
    intro i x h
    cases i with
    | zero => simp [flatF, cellsF]
    | succ i =>
      have := ih i x (by simpa using h)
      have e : ∀ f, (i + 1) * 4 + f = (i * 4 + f) + 4 := fun f => by omega
      have e0 : (i + 1) * 4 = i * 4 + 4 := by omega
      rw [e, e, e, e0]
      simp only [flatF, List.flatMap_cons, cellsF, List.cons_append, List.nil_append, List.set_cons_succ] at this ⊢
      rw [this]

/-- A field stored whole in a row of the call's own. -/
theorem Own.set {w w' : World} {base g n cap i : Nat} {l : List Fd} (h : Own w base (.slice (some ⟨g, 0, none⟩) n cap) l) (hi : i < l.length) (x : Fd)
    (hw : w'.Alike ((((w.setCell ⟨g, i * 4, none⟩ (.string x.nm)).setCell ⟨g, i * 4 + 1, none⟩ (.bool x.tx)).setCell ⟨g, i * 4 + 2, none⟩ (.int .i64 x.n)).setCell ⟨g, i * 4 + 3, none⟩ (.string x.s))) :
    Own w' base (.slice (some ⟨g, 0, none⟩) n cap) (l.set i x) ∧ Upd [g] w w' := by
  have u0 : Upd [g] w w' := (((((Upd.refl _ _).setCell (by simp) _ _).setCell (by simp) _ _).setCell (by simp) _ _).setCell (by simp) _ _).alike hw
  refine ⟨⟨flatF_len _, .inr ?_⟩, u0⟩
  obtain ⟨h0, h2⟩ := h
  rcases h2 with ⟨q, hn⟩ | ⟨g', cap', cur, hv, hg, hh, r1, r2, r3, r4⟩
  · cases q
  simp only [Value.slice.injEq, Option.some.injEq, Addr.mk.injEq, and_true] at hv
  obtain ⟨rfl, rfl, rfl⟩ := hv
  refine ⟨g, cap, (((cur.setIfInBounds (i * 4) (.string x.nm)).setIfInBounds (i * 4 + 1) (.bool x.tx)).setIfInBounds (i * 4 + 2) (.int .i64 x.n)).setIfInBounds (i * 4 + 3) (.string x.s), by rw [List.length_set], hg, ?_, by rw [List.length_set]; exact r1, r2, by simpa using r3, ?_⟩
  · rw [hw.1, heap_setCell, if_pos rfl, heap_setCell, if_pos rfl, heap_setCell, if_pos rfl, heap_setCell, if_pos rfl, hh]; rfl
  · rw [← flatF_set l i x hi, List.length_set, ← r4]
    simp only [Array.toList_setIfInBounds, List.take_set]

end Go.Proofs.YtajppgngoffonaaDoor

namespace Go.Proofs.YtajppgngoffonaaDoor
open Go.RowKit

def boxF (x : Fd) : Obj := .cells #[.string x.nm, .bool x.tx, .int .i64 x.n, .string x.s] 55

theorem own_empty_at (w : World) {B base : Nat} (hB : w.heap.size = B) (hb : base ≤ B) : Own (w.alloc (.cells #[] 55)) base (.slice (some ⟨B, 0, none⟩) 0 0) [] := by
  subst hB
  exact ⟨rfl, .inr ⟨w.heap.size, 0, #[], rfl, hb, by rw [heap_alloc, if_pos rfl], Nat.le_refl _, by unfold maxLen; omega, rfl, rfl⟩⟩

end Go.Proofs.YtajppgngoffonaaDoor

namespace Go.Proofs.YtajppgngoffonaaDoor
open Go.RowKit

/-- A text is not behind another one. -/
def leB (a b : ByteArray) : Bool := Op.bytesLess a.toList b.toList || a.toList == b.toList
def insF (l : List Fd) (x : Fd) : List Fd := (l.takeWhile fun y => leB y.nm x.nm) ++ x :: l.dropWhile fun y => leB y.nm x.nm
def setF (l : List Fd) (x : Fd) : List Fd := if posF l x.nm < 0 then insF l x else l.set (posF l x.nm).toNat x

theorem split_while {α : Type} (p : α → Bool) (l : List α) {j : Nat} (hj : j ≤ l.length) (h1 : ∀ i (hi : i < j), p (l[i]'(by omega)) = true) (h2 : ∀ (h : j < l.length), p l[j] = false) : l.takeWhile p = l.take j ∧ l.dropWhile p = l.drop j := by
  induction l generalizing j with
  | nil => simp
  | cons x l ih =>
    cases j with
    | zero => have := h2 (by simp); simp at this; simp [this]
    | succ j =>
      have hx := h1 0 (by omega)
      simp at hx
      obtain ⟨e1, e2⟩ := ih (j := j) (by simpa using hj) (fun i hi => by have := h1 (i + 1) (by omega); simpa using this) (fun h => by have := h2 (by simpa using h); simpa using this)
      simp [hx, e1, e2]

theorem own_empty_blk {w : World} {B base : Nat} (hB : w.heap[B]? = some (.cells #[] 55 (0, 0))) (hb : base ≤ B) : Own w base (.slice (some ⟨B, 0, none⟩) 0 0) [] :=
  ⟨rfl, .inr ⟨B, 0, #[], rfl, hb, hB, Nat.le_refl _, by unfold maxLen; omega, rfl, rfl⟩⟩

theorem src_box {w : World} {B : Nat} {x : Fd} (hB : w.heap[B]? = some (boxF x)) : Src w (some ⟨B, 0, none⟩) [x] := by
  unfold Src
  refine ⟨fun q => (by cases q), fun ad q j u hu => ?_⟩
  cases q
  rw [Go.WideShapes.add_plain, cell_blk hB]
  simp only [flatF, List.flatMap_cons, List.flatMap_nil, List.append_nil, cellsF] at hu
  simpa using hu

theorem leB_run (a b : ByteArray) (t : TypeId) (P : Program) (W : World) : (binOp .leq t (.string a) (.string b)).run P W = .ok (.bool (leB a b)) W := by
  simp [binOp, Op.stringOp, leB]

theorem own_mono {w : World} {a b : Nat} {v : Value} {l : List Fd} (h : Own w a v l) (hb : b ≤ a) : Own w b v l := by
  obtain ⟨h1, h2⟩ := h
  refine ⟨h1, ?_⟩
  rcases h2 with h2 | ⟨g, cap, cur, hv, hg, r⟩
  · exact Or.inl h2
  · exact Or.inr ⟨g, cap, cur, hv, Nat.le_trans hb hg, r⟩

end Go.Proofs.YtajppgngoffonaaDoor
