/- Maps whose keys are a text and a number. Changes and upcasters in memory; slices.Backward's iterator. Upcasters by what they bring up: byKey. The changes: the map of what is done to fields. -/
import Derived.Laws.StructEq
import Derived.RangeFuncNested
import Derived.RangeFuncLeaves
import Derived.Shelf.Abstract
import Derived.OwnWalkIn
import Derived.TacticsInMore
import Derived.LoopNIn
import Derived.LoopIn
import Derived.Maps.OwnIn
import Derived.Test.YtajppgngoffonaaGreatDoorGIt
namespace Go.Proofs.YtajppgngoffonaaGreatDoor.U
open Go.RowKit

abbrev keyV (s : ByteArray) (n : Int) : Value := .agg #[.string s, .int .i64 n]

theorem run_eqKey (a b : ByteArray) (n m : Int) (w : World) : (Op.equal 86 (keyV a n) (keyV b m)).run Tryz.prog w = .ok (decide (a = b ∧ n = m)) w := by
  have u3 := Tryz.underlying3
  have u9 := Tryz.underlying9
  have a3 := Tryz.isAgg3
  have z3 := Tryz.sizeOf3
  have a9 := Tryz.isAgg9
  have z9 := Tryz.sizeOf9
  have hS : Tryz.prog.underlying 86 = some (.struct (Tryz.prog.fieldsOf 86)) := by kernel_rfl
  have hp : Tryz.prog.stoodInHeld 86 = false := by kernel_rfl
  unfold Op.equal Op.maxDepth
  rw [show (10000 : Nat) = 9999 + 1 from rfl, run_equalIn_struct w 9999 86 _ _ hS hp]
  simp only [Program.fieldsOf, Tryz.underlying86]
  go_simp
  have e := eqB a b
  by_cases h1 : a = b <;> by_cases h2 : n = m <;> simp_all

theorem run_checkKey45' (em : Bool) (a : ByteArray) (n : Int) (w : World) (k : Nat) : (Instr.checkKey em (k + 1 + 1) 86 (keyV a n)).run Tryz.prog w = .ok () w := by
  have u3 := Tryz.underlying3
  have u9 := Tryz.underlying9
  have a3 := Tryz.isAgg3
  have z3 := Tryz.sizeOf3
  have a9 := Tryz.isAgg9
  have z9 := Tryz.sizeOf9
  have hS : Tryz.prog.underlying 86 = some (.struct (Tryz.prog.fieldsOf 86)) := by kernel_rfl
  rw [Instr.checkKey]
  simp only [Sem.run_bind, run_underlying hS, Result.andThen_ok]
  simp only [Program.fieldsOf, Tryz.underlying86]
  go_simp
  simp [Instr.checkKey, run_underlying u3, run_underlying u9]

theorem run_checkKey45 (em : Bool) (a : ByteArray) (n : Int) (w : World) : (Instr.checkKey em 10000 86 (keyV a n)).run Tryz.prog w = .ok () w := run_checkKey45' em a n w 9998

/-- An entry. -/
structure Ent where
  s : ByteArray
  n : Int
  val : Value
  born : Nat

def entE (e : Ent) : MapEntry := { key := keyV e.s e.n, val := e.val, born := e.born }
def isKey (s : ByteArray) (n : Int) (e : Ent) : Bool := decide (s = e.s ∧ n = e.n)
def getE (L : List Ent) (s : ByteArray) (n : Int) : Option Value := (L.find? (isKey s n)).map (·.val)

/-- A map's block. -/
def MapB (w : World) (b : Nat) (L : List Ent) (clock : Nat) : Prop := w.heap[b]? = some (.map (L.map entE).toArray clock)

def lookFrom (s : ByteArray) (n : Int) : List Ent → Nat → Option (Nat × Value)
  | [], _ => none
  | e :: L, i => if isKey s n e then some (i, e.val) else lookFrom s n L (i + 1)

theorem run_findKey45 (w : World) (s : ByteArray) (n : Int) (L : List Ent) : (Instr.findKey 86 (keyV s n) (L.map entE)).run Tryz.prog w = .ok (lookFrom s n L 0) w := by
  have hS : Tryz.prog.underlying 86 = some (.struct (Tryz.prog.fieldsOf 86)) := by kernel_rfl
  have key : ∀ (L : List Ent) (i : Nat), (Instr.findAsking 86 (keyV s n) (L.map entE) i).run Tryz.prog w = .ok (lookFrom s n L i) w := by
    intro L
    induction L with
    | nil => intro i; simp [Instr.findAsking, lookFrom]
    | cons e L ih =>
      intro i
      simp only [List.map_cons, Instr.findAsking, Sem.run_bind]
      rw [show (entE e).key = keyV e.s e.n from rfl, run_eqKey]
      simp only [Result.andThen_ok]
      by_cases h : s = e.s ∧ n = e.n
      · rw [decide_eq_true h]
        simp [lookFrom, isKey, h, entE]
      · rw [decide_eq_false h]
        simp only [Bool.false_eq_true, if_false, ih, lookFrom, isKey, decide_eq_false h]
  unfold Instr.findKey
  simp only [Sem.run_bind, run_underlying hS, Result.andThen_ok]
  have hn : Instr.findNow (.struct (Tryz.prog.fieldsOf 86)) (keyV s n) (L.map entE) 0 = if L = [] then some none else none := by
    cases L with
    | nil => rfl
    | cons e L => rfl
  rw [hn]
  cases L with
  | nil => simp [lookFrom]
  | cons e L =>
    simp only [reduceCtorEq, if_false]
    have := key (e :: L) 0
    simpa using this

theorem lookFrom_cases (s : ByteArray) (n : Int) : ∀ (L : List Ent) (i : Nat), (lookFrom s n L i = none ∧ ∀ e ∈ L, isKey s n e = false) ∨ ∃ (j : Nat) (hj : j < L.length), lookFrom s n L i = some (i + j, L[j].val) ∧ isKey s n L[j] = true ∧ ∀ k (hk : k < j), isKey s n L[k] = false := by
  intro L
  induction L with
  | nil => intro i; left; simp [lookFrom]
  | cons e L ih =>
    intro i
    cases h : isKey s n e with
    | true => right; exact ⟨0, by simp, by simp [lookFrom, h], by simpa using h, fun k hk => by omega⟩
    | false =>
      rcases ih (i + 1) with ⟨h1, h2⟩ | ⟨j, hj, h1, h2, h3⟩
      · left
        refine ⟨by simp [lookFrom, h, h1], ?_⟩
        intro x hx
        rcases List.mem_cons.1 hx with rfl | hx
        · exact h
        · exact h2 x hx
      · right
        refine ⟨j + 1, by simp; omega, by simp [lookFrom, h, h1]; omega, by simpa using h2, fun k hk => ?_⟩
        cases k with
        | zero => simpa using h
        | succ k => simpa using h3 k (by omega)

theorem getE_none {L : List Ent} {s : ByteArray} {n : Int} (h : ∀ e ∈ L, isKey s n e = false) : getE L s n = none := by
  unfold getE
  rw [List.find?_eq_none.2 (fun e he => by simp [h e he])]
  rfl

theorem getE_some {L : List Ent} {s : ByteArray} {n : Int} {j : Nat} (hj : j < L.length) (h : isKey s n L[j] = true) (hb : ∀ k (hk : k < j), isKey s n L[k] = false) : getE L s n = some L[j].val := by
  unfold getE
  have : L.find? (isKey s n) = some L[j] := List.find?_eq_some_iff_getElem.2 ⟨h, j, hj, rfl, fun k hk => by simp [hb k hk]⟩
  rw [this]
  rfl

theorem lookFrom_val (s : ByteArray) (n : Int) (L : List Ent) : (lookFrom s n L 0).map (·.2) = getE L s n := by
  rcases lookFrom_cases s n L 0 with ⟨h1, h2⟩ | ⟨j, hj, h1, h2, h3⟩
  · rw [h1, getE_none h2]; rfl
  · rw [h1, getE_some hj h2 h3]; rfl

theorem getObj_mapB {w : World} {b : Nat} {L : List Ent} {c : Nat} (h : MapB w b L c) : (getObj b).run Tryz.prog w = .ok (.map (L.map entE).toArray c) w := MapKept.run_getObj_map h

theorem run_look_ok {w : World} {b : Nat} {L : List Ent} {c : Nat} (h : MapB w b L c) (s : ByteArray) (n : Int) : (Instr.lookup 81 (.map (some b)) (keyV s n) true).run Tryz.prog w = .ok (.tuple #[(getE L s n).getD (.agg #[.string ByteArray.empty, .int .i64 0, .slice none 0 0]), .bool (getE L s n).isSome]) w := by
  have hz : (zeroValue 61).run Tryz.prog w = .ok (.agg #[.string ByteArray.empty, .int .i64 0, .slice none 0 0]) w := Tryz.zeroValue61 w
  unfold Instr.lookup
  have ht : Tryz.prog.underlying 81 = some (.map 86 61) := Tryz.underlying81
  simp only [Sem.run_bind, run_underlying ht, Result.andThen_ok, getObj_mapB h, Sem.run_pure, run_checkKey45]
  rw [run_findKey45]
  have hv := lookFrom_val s n L
  cases hl : lookFrom s n L 0 with
  | none => rw [hl] at hv; simp [← hv, hz]
  | some p => rw [hl] at hv; simp [← hv]

def putE (L : List Ent) (s : ByteArray) (n : Int) (v : Value) (c : Nat) : List Ent := match lookFrom s n L 0 with
  | some (i, _) => L.modify i fun e => { e with val := v }
  | none => L ++ [⟨s, n, v, c⟩]
def putC (L : List Ent) (s : ByteArray) (n : Int) (c : Nat) : Nat := match lookFrom s n L 0 with
  | some _ => c
  | none => c + 1

theorem getE_put (L : List Ent) (s : ByteArray) (n : Int) (v : Value) (c : Nat) (s' : ByteArray) (n' : Int) : getE (putE L s n v c) s' n' = if s' = s ∧ n' = n then some v else getE L s' n' := by
  unfold putE
  rcases lookFrom_cases s n L 0 with ⟨h1, h2⟩ | ⟨j, hj, h1, h2, h3⟩
  · rw [h1]
    simp only
    by_cases hk : s' = s ∧ n' = n
    · obtain ⟨rfl, rfl⟩ := hk
      rw [if_pos ⟨rfl, rfl⟩]
      exact getE_some (j := L.length) (by simp) (by simp [isKey]) (fun k hk => by rw [List.getElem_append_left hk]; exact h2 _ (List.getElem_mem hk))
        |>.trans (by simp)
    · rw [if_neg hk]
      unfold getE
      rw [List.find?_append]
      have : List.find? (isKey s' n') [⟨s, n, v, c⟩] = none := by simp [isKey]; exact fun a b => hk ⟨a, b⟩
      rw [this, Option.or_none]
  · rw [h1, Nat.zero_add]
    simp only
    have hkey : s = L[j].s ∧ n = L[j].n := by simpa [isKey] using h2
    have hisK : ∀ (k : Nat) (hk : k < (L.modify j fun e => { e with val := v }).length), isKey s' n' (L.modify j fun e => { e with val := v })[k] = isKey s' n' (L[k]'(by simpa using hk)) := by
      intro k hk
      rw [List.getElem_modify]
      split
      · subst_vars; rfl
      · rfl
    by_cases hk : s' = s ∧ n' = n
    · obtain ⟨rfl, rfl⟩ := hk
      rw [if_pos ⟨rfl, rfl⟩]
      rw [getE_some (j := j) (by simpa using hj) (by rw [hisK]; exact h2) (fun k hk => by rw [hisK]; exact h3 k hk), List.getElem_modify, if_pos rfl]
    · rw [if_neg hk]
      rcases lookFrom_cases s' n' L 0 with ⟨g1, g2⟩ | ⟨i, hi, g1, g2, g3⟩
      · rw [getE_none g2, getE_none]
        intro e he
        obtain ⟨k, hk', rfl⟩ := List.mem_iff_getElem.1 he
        rw [hisK]
        exact g2 _ (List.getElem_mem _)
      · have hij : i ≠ j := by
          rintro rfl
          have : s' = L[i].s ∧ n' = L[i].n := by simpa [isKey] using g2
          exact hk ⟨this.1.trans hkey.1.symm, this.2.trans hkey.2.symm⟩
        rw [getE_some hi g2 g3, getE_some (j := i) (by simpa using hi) (by rw [hisK]; exact g2) (fun k hk => by rw [hisK]; exact g3 k hk), List.getElem_modify, if_neg (Ne.symm hij)]

theorem MapB.grown {w w' : World} {b : Nat} {L : List Ent} {c : Nat} (h : MapB w b L c) {F : List Nat} (u : Upd F w w') (hF : b ∉ F) : MapB w' b L c := by
  unfold MapB at h ⊢
  rw [u.block b (lt_of_blk h) hF]; exact h

theorem grown_set (w : World) (b : Nat) (o : Obj) : w.grownBy { w with heap := w.heap.setIfInBounds b o } (some b) :=
  ⟨rfl, rfl, rfl, by simp, fun k hk hne => by simp [show b ≠ k from fun e => hne (by rw [e])]⟩

theorem run_mapUpd {w : World} {b : Nat} {L : List Ent} {c : Nat} (h : MapB w b L c) (s : ByteArray) (n : Int) (v : Value) :
    ∃ w', (Instr.mapUpdate 81 (.map (some b)) (keyV s n) v).run Tryz.prog w = .ok () w' ∧ MapB w' b (putE L s n v c) (putC L s n c) ∧ w.grownBy w' (some b) := by
  have ht : Tryz.prog.underlying 81 = some (.map 86 61) := Tryz.underlying81
  have hlt : b < w.heap.size := lt_of_blk h
  unfold putE putC
  rcases lookFrom_cases s n L 0 with ⟨h1, h2⟩ | ⟨j, hj, h1, h2, h3⟩
  · refine ⟨{ w with heap := w.heap.setIfInBounds b (.map ((L.map entE).toArray.push { key := keyV s n, val := v, born := c }) (c + 1)) }, ?_, ?_, ?_⟩
    · unfold Instr.mapUpdate
      simp only [Sem.run_bind, run_underlying ht, Result.andThen_ok, getObj_mapB h, run_checkKey45]
      rw [run_findKey45, h1]
      simp only [Result.andThen_ok]
      exact MapKept.run_setObj_map _ h
    · unfold MapB
      rw [h1]
      simp [hlt, entE]
    · exact grown_set w b _
  · rw [Nat.zero_add] at h1
    have hkey : s = L[j].s ∧ n = L[j].n := by simpa [isKey] using h2
    have hjE : ((L.map entE).toArray[j]?).map (·.key) = some (keyV s n) := by
      simp [hj, entE, hkey]
    refine ⟨{ w with heap := w.heap.setIfInBounds b (.map ((L.map entE).toArray.modify j fun e => { e with key := keyV s n, val := v }) c) }, ?_, ?_, ?_⟩
    · unfold Instr.mapUpdate
      simp only [Sem.run_bind, run_underlying ht, Result.andThen_ok, getObj_mapB h, run_checkKey45]
      rw [run_findKey45, h1]
      simp only [Result.andThen_ok, hjE, Option.getD_some]
      have hst : (Instr.keyThatStays (keyV s n) (keyV s n)).run Tryz.prog w = .ok (keyV s n) w := by
        have hb : Instr.sameBits 10000 (keyV s n) (keyV s n) = true := by
          rw [show (10000 : Nat) = 9999 + 1 from rfl]
          simp [Instr.sameBits, bytes_beq]
        unfold Instr.keyThatStays
        rw [hb]
        rfl
      simp only [Sem.run_bind, hst, Result.andThen_ok]
      exact MapKept.run_setObj_map _ h
    · unfold MapB
      have : (L.map entE).toArray.modify j (fun e => { e with key := keyV s n, val := v }) = ((L.modify j fun e => { e with val := v }).map entE).toArray := by
        apply Array.ext
        · simp
        · intro i h1 h2
          simp only [Array.getElem_modify, List.getElem_toArray, List.getElem_map, List.getElem_modify]
          split
          · rename_i e
            subst e
            simp only [entE]
            rw [← hkey.1, ← hkey.2]
          · rfl
      rw [this, h1]
      simp [hlt]
    · exact grown_set w b _
end Go.Proofs.YtajppgngoffonaaGreatDoor.U

namespace Go.Proofs.YtajppgngoffonaaGreatDoor.U
open Go.RowKit Go.Shelf
attribute [local go_sem] Oper.semAt_some

/-- A change. -/
structure Ch where
  kd : Int
  nm : ByteArray
  to : ByteArray
  f : Fd

abbrev aggC (c : Ch) : Value := .agg #[.int .i64 c.kd, .string c.nm, .string c.to, .string c.f.nm, .bool c.f.tx, .int .i64 c.f.n, .string c.f.s]

def ChAt (w : World) (b o : Nat) (c : Ch) : Prop :=
  w.cell? ⟨b, o, none⟩ = some (.int .i64 c.kd) ∧ w.cell? ⟨b, o + 1, none⟩ = some (.string c.nm) ∧ w.cell? ⟨b, o + 2, none⟩ = some (.string c.to) ∧ FAt w b (o + 3) c.f

/-- A slice whose elements, k cells each, read as a list. -/
def SlAt {α : Type} (k : Nat) (At : World → Nat → Nat → α → Prop) (w : World) (v : Value) (l : List α) : Prop :=
  ∃ a cap, v = .slice a l.length cap ∧ l.length ≤ cap ∧ cap ≤ maxLen ∧ ∀ i (h : i < l.length), ∃ b off, a = some ⟨b, off, none⟩ ∧ At w b (off + i * k) l[i]

abbrev ChsAt (w : World) (v : Value) (l : List Ch) : Prop := SlAt 7 ChAt w v l

theorem ChAt.keep {w w' : World} {b o : Nat} {c : Ch} (h : ChAt w b o c) (u : Upd [] w w') : ChAt w' b o c := by
  have hlt : b < w.heap.size := World.block_lt_of_cell? _ _ h.1
  have e : ∀ p, w'.cell? ⟨b, p, none⟩ = w.cell? ⟨b, p, none⟩ := fun p => World.cell?_of_block (u.block b hlt (by simp))
  unfold ChAt
  rw [e, e, e]
  exact ⟨h.1, h.2.1, h.2.2.1, h.2.2.2.upd u (by simp)⟩

theorem ChsAt.keep {w w' : World} {v : Value} {l : List Ch} (h : ChsAt w v l) (u : Upd [] w w') : ChsAt w' v l := by
  obtain ⟨a, cap, hv, h1, h2, h3⟩ := h
  exact ⟨a, cap, hv, h1, h2, fun i hi => by obtain ⟨b, off, e, hc⟩ := h3 i hi; exact ⟨b, off, e, hc.keep u⟩⟩

/-- An upcaster. -/
structure Up where
  ty : ByteArray
  fr : Int
  cv : Value
  ch : List Ch

abbrev aggU (u : Up) : Value := .agg #[.string u.ty, .int .i64 u.fr, u.cv]
def boxU (u : Up) : Obj := .cells #[.string u.ty, .int .i64 u.fr, u.cv] 61

/-- An upcaster's three cells. -/
def U3 (w : World) (b o : Nat) (u : Up) : Prop :=
  w.cell? ⟨b, o, none⟩ = some (.string u.ty) ∧ w.cell? ⟨b, o + 1, none⟩ = some (.int .i64 u.fr) ∧ w.cell? ⟨b, o + 2, none⟩ = some u.cv

def UAt (w : World) (b o : Nat) (u : Up) : Prop := U3 w b o u ∧ ChsAt w u.cv u.ch

abbrev UpsAt (w : World) (v : Value) (l : List Up) : Prop := SlAt 3 UAt w v l

theorem U3.lt {w : World} {b o : Nat} {u : Up} (h : U3 w b o u) : b < w.heap.size := World.block_lt_of_cell? _ _ h.1

theorem U3.of_blk {w w' : World} {b o : Nat} {u : Up} (h : U3 w b o u) (e : w'.heap[b]? = w.heap[b]?) : U3 w' b o u := by
  have q : ∀ p, w'.cell? ⟨b, p, none⟩ = w.cell? ⟨b, p, none⟩ := fun p => World.cell?_of_block e
  unfold U3
  rw [q, q, q]
  exact h

theorem UAt.keep {w w' : World} {b o : Nat} {x : Up} (h : UAt w b o x) (u : Upd [] w w') : UAt w' b o x :=
  ⟨h.1.of_blk (u.block b h.1.lt (by simp)), h.2.keep u⟩

theorem UpsAt.keep {w w' : World} {v : Value} {l : List Up} (h : UpsAt w v l) (u : Upd [] w w') : UpsAt w' v l := by
  obtain ⟨a, cap, hv, h1, h2, h3⟩ := h
  exact ⟨a, cap, hv, h1, h2, fun i hi => by obtain ⟨b, off, e, hc⟩ := h3 i hi; exact ⟨b, off, e, hc.keep u⟩⟩

/-- What a round keeps: all that lay below N, but block m. -/
def KpB (N m : Nat) (A B : World) : Prop := ∀ k, k < N → k ≠ m → B.heap[k]? = A.heap[k]?

theorem KpB.t {N m : Nat} {A B C : World} (h : KpB N m A B) (g : KpB N m B C) : KpB N m A C := fun k h1 h2 => (g k h1 h2).trans (h k h1 h2)

theorem KpB.b {N m : Nat} {w : World} (hn : N ≤ w.heap.size) (W : World) (l : Nat) (o o' : Obj) (hl : w.heap.size ≤ l) (_h : W.heap[l]? = some o) (_ : o.isCells = false) (_ : o.isWalk = false) : KpB N m W (W.putObj l o') :=
  fun k hk _ => World.putObj_heap_other (by omega)

/-- The indices, from the last one on. -/
def backs (n : Nat) : List (Fin n) := (List.finRange n).reverse
theorem backs_length (n : Nat) : (backs n).length = n := by simp [backs]
theorem backs_take (n j : Nat) (hj : j < n) : (backs n).take (n - j) = (backs n).take (n - 1 - j) ++ [⟨j, hj⟩] := by
  have h1 : n - j = n - 1 - j + 1 := by omega
  have h2 : n - 1 - j < (backs n).length := by rw [backs_length]; omega
  rw [h1, List.take_add_one, List.getElem?_eq_getElem h2]
  congr 1
  simp only [Option.toList_some, List.cons.injEq, and_true]
  have h3 : (backs n)[n - 1 - j]? = some ⟨j, hj⟩ := by
    unfold backs
    rw [List.getElem?_reverse (by simp; omega)]
    simp only [List.length_finRange]
    rw [List.getElem?_eq_getElem (by simp; omega)]
    congr 1
    ext
    simp
    omega
  rw [List.getElem?_eq_getElem h2] at h3
  simpa using h3

set_option maxRecDepth 100000 in
set_option maxHeartbeats 2000000 in
theorem back1_in (F : Fence) (n : Nat) (h43 : F.fn 99) (hro : F.round = none) (hn : 1 ≤ n) (l Bs N m : Nat) (a : Option Addr) (cap : Nat) (us : List Up) (hcap : us.length ≤ cap) (hc63 : cap ≤ 9223372036854775807)
    (J Jx : List (Fin us.length) → World → Prop)
    (hY : ∀ pre (x : Fin us.length) W, J pre W → pre.length < us.length → YieldAt F (n - 1) Tryz.prog l #[.int .i64 ((x : Nat) : Int), aggU us[x]] W fun e W' =>
      (e = .returned (.bool true) ∧ J (pre ++ [x]) W' ∧ KpB N m W W') ∨ (e = .returned (.bool false) ∧ Jx (pre ++ [x]) W'))
    (W : World) (hBs : W.cell? ⟨Bs, 0, none⟩ = some (.slice a us.length cap)) (hB1 : Bs < N) (hB2 : Bs ≠ m)
    (hU : ∀ i (h : i < us.length), ∃ b off, a = some ⟨b, off, none⟩ ∧ b < N ∧ b ≠ m ∧ U3 W b (off + i * 3) us[i]) (h0 : J [] W) :
    CallsIn F n Tryz.prog 99 #[.func (.yield l) #[] #[], .pointer (some ⟨Bs, 0, none⟩)] W fun e W' => (∃ v, e = .returned v) ∧ ((∃ ys, ys = backs us.length ∧ J ys W') ∨ (∃ pre, True ∧ Jx pre W')) := by
  refine callsIn_of_wp Tryz.func99 rfl h43 ?_ hro
  simp only [Tryz.ntmps99, List.size_toArray, List.length_cons, List.length_nil, Nat.reduceAdd, Nat.reduceSub, Array.replicate_succ, Array.replicate_zero, List.push_toArray, List.append_toArray, List.nil_append, List.cons_append]
  gi_wp2
  gi_loopw [3] (fun i wr => ∃ r : Nat, r ≤ us.length ∧ i = .int .i64 ((r : Int) - 1) ∧ J ((backs us.length).take (us.length - r)) wr ∧ Aside (KpB N m W wr))
    (fun i _ => (intOf i + 1).toNat)
  case atStart => exact ⟨us.length, Nat.le_refl _, rfl, by simpa using h0, fun _ _ _ => rfl⟩
  case round =>
    obtain ⟨r, hr, hi, hJs, hkp⟩ := hrel
    by_cases hr0 : r = 0
    · subst hr0
      obtain rfl := hi
      rw [Nat.sub_zero, List.take_of_length_le (by rw [backs_length]; exact Nat.le_refl _)] at hJs
      gi_wp2
      go_end0
      exact ⟨⟨_, rfl⟩, .inl ⟨_, rfl, hJs⟩⟩
    · obtain ⟨j, rfl⟩ : ∃ j, r = j + 1 := ⟨r - 1, by omega⟩
      rw [show (((j + 1 : Nat) : Int) - 1) = (j : Int) by omega] at hi
      obtain rfl := hi
      have hj : j < us.length := by omega
      have hcB : wr.cell? ⟨Bs, 0, none⟩ = some (.slice a us.length cap) := (World.cell?_of_block (hkp.out Bs hB1 hB2)).trans hBs
      obtain ⟨b, off, rfl, hb1, hb2, hu3⟩ := hU j hj
      obtain ⟨c0, c1, c2⟩ := hu3.of_blk (hkp.out b hb1 hb2)
      obtain ⟨fn, tmps, assign, body, hy, hR⟩ := hY _ ⟨j, hj⟩ wr hJs (by rw [List.length_take, backs_length]; omega)
      dsimp only at hy
      have hjl : (j : Int) < (us.length : Int) := by omega
      have HJ : Aside ((backs us.length).take (us.length - j) = (backs us.length).take (us.length - (j + 1)) ++ [⟨j, hj⟩]) := by
        have := backs_take us.length j hj
        rw [show us.length - 1 - j = us.length - (j + 1) by omega] at this
        exact this
      clear hJs hBs hU
      change Sem.run Tryz.prog (Instr.yield l #[.int .i64 (j : Int), .agg #[.string us[j].ty, .int .i64 us[j].fr, us[j].cv]]) wr = _ at hy
      generalize us[j] = u at *
      obtain ⟨ty, fr, cv, ch⟩ := u
      gi_wp2
      refine hR.mono ?_
      rintro e W3 (⟨rfl, hJ3, hk3⟩ | ⟨rfl, hJx3⟩)
      · rw [← HJ.out] at hJ3
        have HK : Aside (KpB N m W W3) := hkp.out.t hk3
        clear hk3
        gi_wp2
        go_roundw
        case rel => exact ⟨j, by omega, by simp, hJ3, HK⟩
        case measure => simp [intOf]
      · gi_wp2
        refine bodyPost_ret (results_none rfl _ _ _) rfl ?_
        exact ⟨⟨_, rfl⟩, .inr ⟨_, trivial, hJx3⟩⟩
end Go.Proofs.YtajppgngoffonaaGreatDoor.U

namespace Go.Proofs.YtajppgngoffonaaGreatDoor.U
open Go.RowKit Go.Shelf
attribute [local go_sem] Oper.semAt_some

def isU (s : ByteArray) (n : Int) (u : Up) : Bool := decide (s = u.ty ∧ n = u.fr)
def findU (l : List Up) (s : ByteArray) (n : Int) : Option Up := l.find? (isU s n)

/-- A map that answers as a list of upcasters does. -/
def MapU (w : World) (b : Nat) (l : List Up) : Prop := ∃ L c, MapB w b L c ∧ ∀ s n, getE L s n = (findU l s n).map aggU

theorem MapU.upd {w w' : World} {b : Nat} {l : List Up} (h : MapU w b l) {F : List Nat} (u : Upd F w w') (hF : b ∉ F) : MapU w' b l := by
  obtain ⟨L, c, h1, h2⟩ := h
  exact ⟨L, c, h1.grown u hF, h2⟩

theorem MapU.grownBy {w w' : World} {b : Nat} {l : List Up} (h : MapU w b l) {row : Option Nat} (hg : w.grownBy w' row) (hne : row ≠ some b) : MapU w' b l := by
  obtain ⟨L, c, h1, h2⟩ := h
  exact ⟨L, c, by unfold MapB at h1 ⊢; rw [hg.block b (lt_of_blk h1) (fun e => hne e.symm)]; exact h1, h2⟩

theorem MapU.lt {w : World} {b : Nat} {l : List Up} (h : MapU w b l) : b < w.heap.size := by
  obtain ⟨L, c, h1, h2⟩ := h
  exact lt_of_blk h1

theorem MapU.put {w : World} {b : Nat} {l : List Up} (h : MapU w b l) (u : Up) :
    ∃ w', (Instr.mapUpdate 81 (.map (some b)) (keyV u.ty u.fr) (aggU u)).run Tryz.prog w = .ok () w' ∧ MapU w' b (u :: l) ∧ w.grownBy w' (some b) := by
  obtain ⟨L, c, h1, h2⟩ := h
  obtain ⟨w', hr, hm, hg⟩ := run_mapUpd h1 u.ty u.fr (aggU u)
  refine ⟨w', hr, ⟨_, _, hm, fun s n => ?_⟩, hg⟩
  rw [getE_put, h2]
  unfold findU
  by_cases hk : s = u.ty ∧ n = u.fr
  · rw [if_pos hk]; simp [isU, hk]
  · rw [if_neg hk]; simp [isU, hk]

theorem MapU.look {w : World} {b : Nat} {l : List Up} (h : MapU w b l) (s : ByteArray) (n : Int) :
    (Instr.lookup 81 (.map (some b)) (keyV s n) true).run Tryz.prog w = .ok (.tuple #[((findU l s n).map aggU).getD (.agg #[.string ByteArray.empty, .int .i64 0, .slice none 0 0]), .bool (findU l s n).isSome]) w := by
  obtain ⟨L, c, h1, h2⟩ := h
  rw [run_look_ok h1, h2]
  simp

theorem wpListIn_mapUpd {F : Fence} {nF : Nat} {w : World} {ops : Array Oper} {rest : List Oper} {o : Oper} {a : Act} {Q : Exit → Act → World → Prop}
    (hg : o.guard = none) (m x v : Operand) (t : TypeId) (hop : o.op = Op.mapUpdate t m x v) (mv kv vv : Value) (hm : a.eval m = mv) (hx : a.eval x = kv) (hv : a.eval v = vv) {w' : World}
    (hrun : (Instr.mapUpdate t mv kv vv).run Tryz.prog w = .ok () w') (hK : wpListIn F nF Tryz.prog ops Q rest (a.put o.dst undef) w') :
    wpListIn F nF Tryz.prog ops Q (o :: rest) a w := by
  refine wpListIn_plain hg fun K' hK' => ?_
  unfold Oper.wpIn
  refine ⟨by simp [Oper.about, hop], ?_⟩
  rw [Oper.semAt_plain F _ _ (by rw [hop]; intro c hc'; cases hc')]
  simp [execOp, hop, hm, hx, hv, hrun, Result.andThen]
  exact hK' _ _ hK

theorem backward_in (F : Fence) (n : Nat) (h30 : F.fn 59) (hro : F.round = none) (a : Option Addr) (len cap : Nat) (w : World) :
    CallsIn F n Tryz.prog 59 #[.slice a len cap] w fun e w' => e = .returned (.func (.func 99) #[] #[.pointer (some ⟨w.heap.size, 0, none⟩)]) ∧ w' = w.alloc (.cells #[.slice a len cap] 25) := by
  refine callsIn_of_wp Tryz.func59 rfl h30 ?_ hro
  simp only [Tryz.ntmps59, List.size_toArray, List.length_cons, List.length_nil, Nat.reduceAdd, Nat.reduceSub, Array.replicate_succ, Array.replicate_zero, List.push_toArray, List.append_toArray, List.nil_append, List.cons_append]
  gi_wp2
  go_ret
  exact ⟨rfl, rfl⟩

theorem Below.upd {w w' : World} (h : Below w.heap.size w w') : Upd [] w w' := (Upd.refl [] w).below h (Nat.le_refl _)

set_option maxRecDepth 100000 in
set_option maxHeartbeats 4000000 in
theorem byKey_in (F : Fence) (n : Nat) (h17 : F.fn 37) (h30 : F.fn 59) (h43 : F.fn 99) (hro : F.round = none) (hn : 6 ≤ n) (a : Option Addr) (cap : Nat) (us : List Up) (w : World) (hu : UpsAt w (.slice a us.length cap) us) :
    CallsIn F n Tryz.prog 37 #[.slice a us.length cap] w fun e W' => e = .returned (.map (some w.heap.size)) ∧ MapU W' w.heap.size us ∧ Below w.heap.size w W' := by
  have h1 : 1 ≤ n := by omega
  have hmm := @run_makeMap Tryz.prog
  obtain ⟨a', cap', hv, hcap, hmax, hU⟩ := hu
  simp only [Value.slice.injEq, true_and] at hv
  obtain ⟨rfl, rfl⟩ := hv
  refine callsIn_of_wp_marks Tryz.func37 rfl h17 ?_ hro
  simp only [Tryz.ntmps37, List.size_toArray, List.length_cons, List.length_nil, Nat.reduceAdd, Nat.reduceSub, Array.replicate_succ, Array.replicate_zero, List.push_toArray, List.append_toArray, List.nil_append, List.cons_append]
  gi_wp2_with (gi_at_call 59; refine (backward_in F (n - 1) h30 hro _ _ _ _).mono ?_; rintro e w' ⟨rfl, rfl⟩)
  have hm0 : MapU (((w.alloc (.map #[] 0)).alloc (.cells #[.map (some w.heap.size)] 81)).alloc (.cells #[.slice a us.length cap] 25)) w.heap.size [] :=
    ⟨[], 0, by unfold MapB; rw [heap_alloc, if_neg (by simp; omega), heap_alloc, if_neg (by simp), heap_alloc, if_pos rfl]; rfl, fun s n => rfl⟩
  have bO := (Boxed.new (w.alloc (.map #[] 0)) 81 (.map (some w.heap.size))).alloc (.cells #[.slice a us.length cap] 25)
  have bS := Boxed.new ((w.alloc (.map #[] 0)).alloc (.cells #[.map (some w.heap.size)] 81)) 25 (.slice a us.length cap)
  simp only [World.size_alloc] at bO bS
  have hB0 : Below w.heap.size w (((w.alloc (.map #[] 0)).alloc (.cells #[.map (some w.heap.size)] 81)).alloc (.cells #[.slice a us.length cap] 25)) := (((Below.refl _ w).alloc (Nat.le_refl _) _).alloc (by simp) _).alloc (by simp; omega) _
  have hsz : (((w.alloc (.map #[] 0)).alloc (.cells #[.map (some w.heap.size)] 81)).alloc (.cells #[.slice a us.length cap] 25)).heap.size = w.heap.size + 3 := by simp
  obtain ⟨W0, hW0⟩ : ∃ W0, ((w.alloc (.map #[] 0)).alloc (.cells #[.map (some w.heap.size)] 81)).alloc (.cells #[.slice a us.length cap] 25) = W0 := ⟨_, rfl⟩
  rw [hW0] at hm0 bO bS hB0 hsz ⊢
  clear hW0 hmm
  have hseq : SeqStopsK F (n - 1) Tryz.prog 99 #[.pointer (some ⟨w.heap.size + 1 + 1, 0, none⟩)] (fun x : Fin us.length => #[.int .i64 ((x : Nat) : Int), aggU us[x.1]]) (KpB W0.heap.size w.heap.size) (fun ys => ys = backs us.length) (fun _ => True) us.length W0 :=
    fun l J Jx W hW _ _ hY hJ0 => back1_in F (n - 1) h43 hro (by omega) l (w.heap.size + 1 + 1) W0.heap.size w.heap.size a cap us hcap (by unfold maxLen at hmax; omega) J Jx hY W ((hW.cell (p := ⟨w.heap.size + 1 + 1, 0, none⟩) (by show w.heap.size + 1 + 1 < W0.heap.size; omega)).trans bS.cell) (by omega) (by omega)
      (fun i hi => by
        obtain ⟨b, off, e, hx⟩ := hU i hi
        have hlt := hx.1.lt
        refine ⟨b, off, e, by omega, by omega, ?_⟩
        have e1 : W0.heap[b]? = w.heap[b]? := hB0.block b hlt
        have e2 : W.heap[b]? = W0.heap[b]? := hW.block b (by omega)
        exact hx.1.of_blk (e2.trans e1)) hJ0
  refine wpIn_rangeFunc_ownH hro h1 (gf := 99) (lb := #[.pointer (some ⟨w.heap.size + 1 + 1, 0, none⟩)]) rfl h43 (enters_of Tryz.func99 (by kernel_rfl) rfl)
    hseq (fun h g => KpB.t h g) (KpB.b (Nat.le_refl _)) (Below.refl _ _) (fun _ => rfl)
    (fun pre W => (Boxed W (w.heap.size + 1) 81 (.map (some w.heap.size)) ∧ MapU W w.heap.size ((pre.map fun x => us[x.1]).reverse)) ∧ (Below w.heap.size w W ∧ W0.heap.size ≤ W.heap.size))
    (fun _ _ _ => False)
    (OwnFrom.and (OwnFrom.and (Own.from (boxed_own _ _ _) _) (fun s A B row hs hg hr => hs.grownBy hg (fun e => by have := (hr _ e).1; omega))) (OwnFrom.and (ownFrom_below (Nat.le_refl _) (by omega)) (fun _ _ _ _ hs hg _ => Nat.le_trans hs hg.size)))
    (fun _ _ _ _ _ hs _ _ => hs)
    ⟨⟨bO, hm0⟩, hB0, Nat.le_refl _⟩
    (fun x a' W => ∃ Bx, W0.heap.size ≤ Bx ∧ W.heap[Bx]? = some (boxU us[x.1]) ∧ a' = { tmps := #[.slice a us.length cap, undef, .map none, .pointer (some ⟨w.heap.size + 1, 0, none⟩), undef, .pointer (some ⟨Bx, 0, none⟩), .map (some w.heap.size), .slice a us.length cap, .func (.func 99) #[] #[.pointer (some ⟨w.heap.size + 1 + 1, 0, none⟩)], .int .i64 ((x : Nat) : Int), aggU us[x.1], undef, undef, undef, undef, undef, undef, undef, undef], defers := [] })
    (fun x a' _ X Y row hs hg hr => by
      obtain ⟨Bx, h1, h2, h3⟩ := hs
      refine ⟨Bx, h1, ?_, h3⟩
      rw [hg.block Bx (lt_of_blk h2) (fun e => by obtain ⟨-, o, ho, hoc⟩ := hr Bx e.symm; rw [h2] at ho; cases ho; cases hoc)]
      exact h2)
    ?assign ?body ?done ?stop
  case assign =>
    rintro l pre x W K ⟨⟨bO1, hm1⟩, hB1, hW1⟩ hK
    obtain ⟨b, off, -, -, a2, c2, hcv, -⟩ := hU x.1 x.2
    generalize us[x.1] = u at *
    obtain ⟨ty, fr, cv, ch⟩ := u
    dsimp only at hcv
    subst hcv
    gi_wp2
    exact hK _ _ ((KeepsOthers.alloc _ _).from _) (fun k hk _ => by rw [heap_alloc, if_neg (by omega)]) ⟨⟨bO1.alloc _, hm1.grownBy (World.grownBy_alloc W _ none) (by simp)⟩, hB1.alloc hB1.size _, by simp; omega⟩ ⟨W.heap.size, hW1, by rw [heap_alloc, if_pos rfl]; rfl, rfl⟩
  case body =>
    rintro l pre x a' W hl ⟨r, hr⟩ ⟨⟨bO1, hm1⟩, hB1, hW1⟩ ⟨Bx, hBx, hbx, rfl⟩ hlt
    obtain ⟨b, off, -, -, a2, c2, hcv, -⟩ := hU x.1 x.2
    obtain ⟨w1, hrun, hm2, hg⟩ := hm1.put us[x.1]
    have hm2' : MapU w1 w.heap.size (((pre ++ [x]).map fun x => us[x.1]).reverse) := by simpa using hm2
    have HM : Aside (MapU w1 w.heap.size (((pre ++ [x]).map fun x => us[x.1]).reverse)) := hm2'
    clear hm2 hm2'
    generalize us[x.1] = u at *
    obtain ⟨ty, fr, cv, ch⟩ := u
    dsimp only at hcv
    subst hcv
    have cO := bO1.cell
    have c0 : W.cell? ⟨Bx, 0, none⟩ = some (.string ty) := cell_blk hbx 0
    have c1 : W.cell? ⟨Bx, 1, none⟩ = some (.int .i64 fr) := cell_blk hbx 1
    have c2' : W.cell? ⟨Bx, 2, none⟩ = some (.slice a2 ch.length c2) := cell_blk hbx 2
    gi_wp2_with (gi_at_mapUpdate; refine wpListIn_mapUpd rfl _ _ _ 81 rfl _ _ _ rfl rfl rfl hrun ?_)
    have hlt := hm1.lt
    have hle : w.heap.size ≤ W.heap.size := by omega
    refine ⟨KeepsFrom.of_grownBy hg (fun j e => by cases e; omega), fun k hk hne => hg.block k (by have := bO1.lt; have := lt_of_blk hbx; omega) (fun e => hne (by cases e; rfl)), ⟨bO1.kept hg (fun e => by have := Option.some.inj e; omega), HM.out⟩, hB1.grown hg hB1.size (fun k e => by cases e; exact Nat.le_refl _), by have := hg.size; omega⟩
  case done =>
    rintro D ys W hD rfl ⟨⟨bO1, hm1⟩, hB1, hW1⟩ hK
    have cO := bO1.cell
    have hrev : ((backs us.length).map fun x => us[x.1]).reverse = us := by
      unfold backs
      rw [List.map_reverse, List.reverse_reverse]
      apply List.ext_getElem
      · simp
      · intro i h1 h2; simp
    rw [hrev] at hm1
    gi_wp2
    refine ⟨by simp, .inl ⟨_, _, rfl, run_takeDeferred hK, ?_⟩⟩
    exact ⟨_, results_tmp rfl _ _ _, rfl, hm1.grownBy (grownBy_putObj' W D _) (fun e => by cases e; omega), hB1.trans (belowK_b (w := w) (Nat.le_refl _) W D _ _ (by omega) hK rfl rfl)⟩
  case stop =>
    rintro D c pre W _ _ h _
    exact h.elim

theorem byKey_ok (v : Value) (us : List Up) (w : World) (hu : UpsAt w v us) :
    Calls Tryz.prog 37 #[v] w fun e w' => ∃ b, e = .returned (.map (some b)) ∧ w.heap.size ≤ b ∧ MapU w' b us ∧ Upd [] w w' := by
  obtain ⟨a, cap, rfl, h⟩ := hu
  have := byKey_in Fence.wide 6 trivial trivial trivial rfl (by omega) a cap us w ⟨a, cap, rfl, h⟩
  refine ((callsIn_wide (n := 6)).1 this).mono ?_
  rintro e w' ⟨rfl, hm, hb⟩
  exact ⟨_, rfl, Nat.le_refl _, hm, Below.upd hb⟩
end Go.Proofs.YtajppgngoffonaaGreatDoor.U

namespace Go.Proofs.YtajppgngoffonaaGreatDoor.U
open Go.RowKit

def fnOf (k : Int) : Value := if k = 2 then .func (.func 104) #[] #[] else if k = 3 then .func (.func 106) #[] #[] else if k = 4 then .func (.func 107) #[] #[] else if k = 5 then .func (.func 108) #[] #[] else .nilFunc

theorem findNow_none (k : Int) : ∀ (es : List MapEntry) (i : Nat), (∀ e ∈ es, ∃ j, e.key = .int .i64 j ∧ j ≠ k) → Instr.findNow (.int .i64) (.int .i64 k) es i = some none := by
  intro es
  induction es with
  | nil => intro i _; rfl
  | cons e es ih =>
    intro i h
    obtain ⟨j, hj, hne⟩ := h e (by simp)
    have : (k == j) = false := by simpa using Ne.symm hne
    simp [Instr.findNow, hj, Instr.sameNow, this, ih (i + 1) (fun e he => h e (by simp [he]))]

theorem mapUpd_int {W : World} {b : Nat} {es : List MapEntry} {c : Nat} (h : W.heap[b]? = some (.map es.toArray c)) (k : Int) (v : Value) (hk : ∀ e ∈ es, ∃ j, e.key = .int .i64 j ∧ j ≠ k) :
    ∃ W', (Instr.mapUpdate 121 (.map (some b)) (.int .i64 k) v).run Tryz.prog W = .ok () W' ∧ W'.heap[b]? = some (.map (es ++ [({ key := .int .i64 k, val := v, born := c } : MapEntry)]).toArray (c + 1)) ∧ W.grownBy W' (some b) := by
  have hlt : b < W.heap.size := lt_of_blk h
  have ht : Tryz.prog.underlying 121 = some (.map 3 120) := Tryz.underlying121
  refine ⟨{ W with heap := W.heap.setIfInBounds b (.map (es.toArray.push { key := .int .i64 k, val := v, born := c }) (c + 1)) }, ?_, ?_, grown_set W b _⟩
  · unfold Instr.mapUpdate
    simp only [Sem.run_bind, run_underlying ht, Result.andThen_ok, MapKept.run_getObj_map h]
    have hck : (Instr.checkKey false 10000 3 (.int .i64 k)).run Tryz.prog W = .ok () W := by
      rw [show (10000 : Nat) = 9999 + 1 from rfl, Instr.checkKey]
      simp only [Sem.run_bind, run_underlying Tryz.underlying3, Result.andThen_ok]
      rfl
    have hfk : (Instr.findKey 3 (.int .i64 k) es).run Tryz.prog W = .ok none W := by
      unfold Instr.findKey
      simp only [Sem.run_bind, run_underlying Tryz.underlying3, Result.andThen_ok, findNow_none k es 0 hk]
      rfl
    simp only [hck, Result.andThen_ok, hfk]
    exact MapKept.run_setObj_map _ h
  · simp [hlt]

theorem look_changes {W : World} {b : Nat} {n0 n1 n2 n3 c : Nat} (h : W.heap[b]? = some (.map [{ key := .int .i64 2, val := .func (.func 104) #[] #[], born := n0 }, { key := .int .i64 3, val := .func (.func 106) #[] #[], born := n1 }, { key := .int .i64 4, val := .func (.func 107) #[] #[], born := n2 }, { key := .int .i64 5, val := .func (.func 108) #[] #[], born := n3 }].toArray c)) (k : Int) :
    (Instr.lookup 121 (.map (some b)) (.int .i64 k) false).run Tryz.prog W = .ok (fnOf k) W := by
  have ht : Tryz.prog.underlying 121 = some (.map 3 120) := Tryz.underlying121
  have hz : (zeroValue 120).run Tryz.prog W = .ok .nilFunc W := Tryz.zeroValue120 W
  unfold Instr.lookup
  simp only [Sem.run_bind, run_underlying ht, Result.andThen_ok, MapKept.run_getObj_map h, Sem.run_pure]
  have hck : ∀ e, (Instr.checkKey e 10000 3 (.int .i64 k)).run Tryz.prog W = .ok () W := fun e => by
    rw [show (10000 : Nat) = 9999 + 1 from rfl, Instr.checkKey]
    simp only [Sem.run_bind, run_underlying Tryz.underlying3, Result.andThen_ok]
    rfl
  simp only [hck, Result.andThen_ok]
  unfold Instr.findKey fnOf
  simp only [Sem.run_bind, run_underlying Tryz.underlying3, Result.andThen_ok]
  by_cases h2 : k = 2
  · subst h2; simp [Instr.findNow, Instr.sameNow]
  by_cases h3 : k = 3
  · subst h3; simp [Instr.findNow, Instr.sameNow]
  by_cases h4 : k = 4
  · subst h4; simp [Instr.findNow, Instr.sameNow]
  by_cases h5 : k = 5
  · subst h5; simp [Instr.findNow, Instr.sameNow]
  have e2 : (k == 2) = false := by simpa using h2
  have e3 : (k == 3) = false := by simpa using h3
  have e4 : (k == 4) = false := by simpa using h4
  have e5 : (k == 5) = false := by simpa using h5
  simp [Instr.findNow, Instr.sameNow, e2, e3, e4, e5, h2, h3, h4, h5, hz]

set_option maxRecDepth 100000 in
set_option maxHeartbeats 1000000 in
theorem changes_ok (w : World) : Calls Tryz.prog 62 #[] w fun e w' => ∃ b, e = .returned (.map (some b)) ∧ (∀ W k, W.heap[b]? = w'.heap[b]? → (Instr.lookup 121 (.map (some b)) (.int .i64 k) false).run Tryz.prog W = .ok (fnOf k) W) ∧ b < w'.heap.size ∧ w.heap.size ≤ b ∧ Upd [] w w' := by
  have hmm := @run_makeMap Tryz.prog
  have h0 : (w.alloc (.map #[] 0)).heap[w.heap.size]? = some (.map ([] : List MapEntry).toArray 0) := by rw [heap_alloc, if_pos rfl]
  have u0 : Upd [] w (w.alloc (.map #[] 0)) := (Upd.refl [] w).alloc _
  obtain ⟨W1, r1, b1, g1⟩ := mapUpd_int h0 2 (.func (.func 104) #[] #[]) (by simp)
  obtain ⟨W2, r2, b2, g2⟩ := mapUpd_int b1 3 (.func (.func 106) #[] #[]) (by simp)
  obtain ⟨W3, r3, b3, g3⟩ := mapUpd_int b2 4 (.func (.func 107) #[] #[]) (by simp)
  obtain ⟨W4, r4, b4, g4⟩ := mapUpd_int b3 5 (.func (.func 108) #[] #[]) (by simp)
  have hk : ∀ k, (some w.heap.size : Option Nat) = some k → w.heap.size ≤ k := fun k e => by cases e; exact Nat.le_refl _
  have HU : Hid (Upd [] w W4 ∧ (∀ W k, W.heap[w.heap.size]? = W4.heap[w.heap.size]? → (Instr.lookup 121 (.map (some w.heap.size)) (.int .i64 k) false).run Tryz.prog W = .ok (fnOf k) W) ∧ w.heap.size < W4.heap.size) :=
    Lib.hid ⟨(((u0.grown g1 hk).grown g2 hk).grown g3 hk).grown g4 hk, fun W k e => look_changes (by rw [e, b4]; rfl) k, lt_of_blk b4⟩
  clear b1 b2 b3 b4 g1 g2 g3 g4 h0 u0 hk
  go_enter Tryz.func62, Tryz.ntmps62
  go_wp2_with fail
  go_ret
  exact ⟨_, rfl, HU.out.2.1, HU.out.2.2, Nat.le_refl _, HU.out.1⟩
end Go.Proofs.YtajppgngoffonaaGreatDoor.U
