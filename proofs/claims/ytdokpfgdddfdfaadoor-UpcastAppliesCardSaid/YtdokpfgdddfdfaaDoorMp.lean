/- Maps whose keys are a text and a number. -/
import Derived.Test.YtdokpfgdddfdfaaDoorCk
import Derived.Laws.StructEq
namespace Go.Proofs.YtdokpfgdddfdfaaDoor
open Go.RowKit

abbrev keyV (s : ByteArray) (n : Int) : Value := .agg #[.string s, .int .i64 n]

theorem run_eqKey (a b : ByteArray) (n m : Int) (w : World) : (Op.equal 45 (keyV a n) (keyV b m)).run Tryd.prog w = .ok (decide (a = b ∧ n = m)) w := by
  have u3 := Tryd.underlying3
  have u9 := Tryd.underlying9
  have a3 := Tryd.isAgg3
  have z3 := Tryd.sizeOf3
  have a9 := Tryd.isAgg9
  have z9 := Tryd.sizeOf9
  have hS : Tryd.prog.underlying 45 = some (.struct (Tryd.prog.fieldsOf 45)) := by kernel_rfl
  have hp : Tryd.prog.stoodInHeld 45 = false := by kernel_rfl
  unfold Op.equal Op.maxDepth
  rw [show (10000 : Nat) = 9999 + 1 from rfl, run_equalIn_struct w 9999 45 _ _ hS hp]
  simp only [Program.fieldsOf, Tryd.underlying45]
  go_simp
  have e := eqB a b
  by_cases h1 : a = b <;> by_cases h2 : n = m <;> simp_all

theorem run_checkKey45' (em : Bool) (a : ByteArray) (n : Int) (w : World) (k : Nat) : (Instr.checkKey em (k + 1 + 1) 45 (keyV a n)).run Tryd.prog w = .ok () w := by
  have u3 := Tryd.underlying3
  have u9 := Tryd.underlying9
  have a3 := Tryd.isAgg3
  have z3 := Tryd.sizeOf3
  have a9 := Tryd.isAgg9
  have z9 := Tryd.sizeOf9
  have hS : Tryd.prog.underlying 45 = some (.struct (Tryd.prog.fieldsOf 45)) := by kernel_rfl
  rw [Instr.checkKey]
  simp only [Sem.run_bind, run_underlying hS, Result.andThen_ok]
  simp only [Program.fieldsOf, Tryd.underlying45]
  go_simp
  simp [Instr.checkKey, run_underlying u3, run_underlying u9]

theorem run_checkKey45 (em : Bool) (a : ByteArray) (n : Int) (w : World) : (Instr.checkKey em 10000 45 (keyV a n)).run Tryd.prog w = .ok () w := run_checkKey45' em a n w 9998

/-- An entry. -/
structure Ent where
  s : ByteArray
  n : Int
  val : Value
  born : Nat

def entE (e : Ent) : MapEntry := { key := keyV e.s e.n, val := e.val, born := e.born }
def isKey (s : ByteArray) (n : Int) (e : Ent) : Bool := decide (s = e.s ∧ n = e.n)
def getE (L : List Ent) (s : ByteArray) (n : Int) : Option Value := (L.find? (isKey s n)).map (·.val)

/-- A map's block. -/
def MapB (w : World) (b : Nat) (L : List Ent) (clock : Nat) : Prop := w.heap[b]? = some (.map (L.map entE).toArray clock)

def lookFrom (s : ByteArray) (n : Int) : List Ent → Nat → Option (Nat × Value)
  | [], _ => none
  | e :: L, i => if isKey s n e then some (i, e.val) else lookFrom s n L (i + 1)

theorem run_findKey45 (w : World) (s : ByteArray) (n : Int) (L : List Ent) : (Instr.findKey 45 (keyV s n) (L.map entE)).run Tryd.prog w = .ok (lookFrom s n L 0) w := by
  have hS : Tryd.prog.underlying 45 = some (.struct (Tryd.prog.fieldsOf 45)) := by kernel_rfl
  have key : ∀ (L : List Ent) (i : Nat), (Instr.findAsking 45 (keyV s n) (L.map entE) i).run Tryd.prog w = .ok (lookFrom s n L i) w := by
    intro L
    induction L with
    | nil => intro i; simp [Instr.findAsking, lookFrom]
    | cons e L ih =>
      intro i
      simp only [List.map_cons, Instr.findAsking, Sem.run_bind]
      rw [show (entE e).key = keyV e.s e.n from rfl, run_eqKey]
      simp only [Result.andThen_ok]
      by_cases h : s = e.s ∧ n = e.n
      · rw [decide_eq_true h]
        simp [lookFrom, isKey, h, entE]
      · rw [decide_eq_false h]
        simp only [Bool.false_eq_true, if_false, ih, lookFrom, isKey, decide_eq_false h]
  unfold Instr.findKey
  simp only [Sem.run_bind, run_underlying hS, Result.andThen_ok]
  have hn : Instr.findNow (.struct (Tryd.prog.fieldsOf 45)) (keyV s n) (L.map entE) 0 = if L = [] then some none else none := by
    cases L with
    | nil => rfl
    | cons e L => rfl
  rw [hn]
  cases L with
  | nil => simp [lookFrom]
  | cons e L =>
    simp only [reduceCtorEq, if_false]
    have := key (e :: L) 0
    simpa using this

theorem lookFrom_cases (s : ByteArray) (n : Int) : ∀ (L : List Ent) (i : Nat), (lookFrom s n L i = none ∧ ∀ e ∈ L, isKey s n e = false) ∨ ∃ (j : Nat) (hj : j < L.length), lookFrom s n L i = some (i + j, L[j].val) ∧ isKey s n L[j] = true ∧ ∀ k (hk : k < j), isKey s n L[k] = false := by
  intro L
  induction L with
  | nil => intro i; left; simp [lookFrom]
  | cons e L ih =>
    intro i
    cases h : isKey s n e with
    | true => right; exact ⟨0, by simp, by simp [lookFrom, h], by simpa using h, fun k hk => by omega⟩
    | false =>
      rcases ih (i + 1) with ⟨h1, h2⟩ | ⟨j, hj, h1, h2, h3⟩
      · left
        refine ⟨by simp [lookFrom, h, h1], ?_⟩
        intro x hx
        rcases List.mem_cons.1 hx with rfl | hx
        · exact h
        · exact h2 x hx
      · right
        refine ⟨j + 1, by simp; omega, by simp [lookFrom, h, h1]; omega, by simpa using h2, fun k hk => ?_⟩
        cases k with
        | zero => simpa using h
        | succ k => simpa using h3 k (by omega)

theorem getE_none {L : List Ent} {s : ByteArray} {n : Int} (h : ∀ e ∈ L, isKey s n e = false) : getE L s n = none := by
  unfold getE
  rw [List.find?_eq_none.2 (fun e he => by simp [h e he])]
  rfl

theorem getE_some {L : List Ent} {s : ByteArray} {n : Int} {j : Nat} (hj : j < L.length) (h : isKey s n L[j] = true) (hb : ∀ k (hk : k < j), isKey s n L[k] = false) : getE L s n = some L[j].val := by
  unfold getE
  have : L.find? (isKey s n) = some L[j] := List.find?_eq_some_iff_getElem.2 ⟨h, j, hj, rfl, fun k hk => by simp [hb k hk]⟩
  rw [this]
  rfl

theorem lookFrom_val (s : ByteArray) (n : Int) (L : List Ent) : (lookFrom s n L 0).map (·.2) = getE L s n := by
  rcases lookFrom_cases s n L 0 with ⟨h1, h2⟩ | ⟨j, hj, h1, h2, h3⟩
  · rw [h1, getE_none h2]; rfl
  · rw [h1, getE_some hj h2 h3]; rfl

theorem getObj_mapB {w : World} {b : Nat} {L : List Ent} {c : Nat} (h : MapB w b L c) : (getObj b).run Tryd.prog w = .ok (.map (L.map entE).toArray c) w := MapKept.run_getObj_map h

theorem run_look_ok {w : World} {b : Nat} {L : List Ent} {c : Nat} (h : MapB w b L c) (s : ByteArray) (n : Int) : (Instr.lookup 40 (.map (some b)) (keyV s n) true).run Tryd.prog w = .ok (.tuple #[(getE L s n).getD (.agg #[.string ByteArray.empty, .int .i64 0, .slice none 0 0]), .bool (getE L s n).isSome]) w := by
  have hz : (zeroValue 38).run Tryd.prog w = .ok (.agg #[.string ByteArray.empty, .int .i64 0, .slice none 0 0]) w := Tryd.zeroValue38 w
  unfold Instr.lookup
  have ht : Tryd.prog.underlying 40 = some (.map 45 38) := Tryd.underlying40
  simp only [Sem.run_bind, run_underlying ht, Result.andThen_ok, getObj_mapB h, Sem.run_pure, run_checkKey45]
  rw [run_findKey45]
  have hv := lookFrom_val s n L
  cases hl : lookFrom s n L 0 with
  | none => rw [hl] at hv; simp [← hv, hz]
  | some p => rw [hl] at hv; simp [← hv]

theorem run_look_int {w : World} {b : Nat} {L : List Ent} {c : Nat} (h : MapB w b L c) (s : ByteArray) (n : Int) : (Instr.lookup 53 (.map (some b)) (keyV s n) false).run Tryd.prog w = .ok ((getE L s n).getD (.int .i64 0)) w := by
  have hz : (zeroValue 3).run Tryd.prog w = .ok (.int .i64 0) w := Tryd.zeroValue3 w
  unfold Instr.lookup
  have ht : Tryd.prog.underlying 53 = some (.map 45 3) := Tryd.underlying53
  simp only [Sem.run_bind, run_underlying ht, Result.andThen_ok, getObj_mapB h, Sem.run_pure, run_checkKey45]
  rw [run_findKey45]
  have hv := lookFrom_val s n L
  cases hl : lookFrom s n L 0 with
  | none => rw [hl] at hv; simp [← hv, hz]
  | some p => rw [hl] at hv; simp [← hv]

def putE (L : List Ent) (s : ByteArray) (n : Int) (v : Value) (c : Nat) : List Ent := match lookFrom s n L 0 with
  | some (i, _) => L.modify i fun e => { e with val := v }
  | none => L ++ [⟨s, n, v, c⟩]
def putC (L : List Ent) (s : ByteArray) (n : Int) (c : Nat) : Nat := match lookFrom s n L 0 with
  | some _ => c
  | none => c + 1

theorem getE_put (L : List Ent) (s : ByteArray) (n : Int) (v : Value) (c : Nat) (s' : ByteArray) (n' : Int) : getE (putE L s n v c) s' n' = if s' = s ∧ n' = n then some v else getE L s' n' := by
  unfold putE
  rcases lookFrom_cases s n L 0 with ⟨h1, h2⟩ | ⟨j, hj, h1, h2, h3⟩
  · rw [h1]
    simp only
    by_cases hk : s' = s ∧ n' = n
    · obtain ⟨rfl, rfl⟩ := hk
      rw [if_pos ⟨rfl, rfl⟩]
      exact getE_some (j := L.length) (by simp) (by simp [isKey]) (fun k hk => by rw [List.getElem_append_left hk]; exact h2 _ (List.getElem_mem hk))
        |>.trans (by simp)
    · rw [if_neg hk]
      unfold getE
      rw [List.find?_append]
      have : List.find? (isKey s' n') [⟨s, n, v, c⟩] = none := by simp [isKey]; exact fun a b => hk ⟨a, b⟩
      rw [this, Option.or_none]
  · rw [h1, Nat.zero_add]
    simp only
    have hkey : s = L[j].s ∧ n = L[j].n := by simpa [isKey] using h2
    have hisK : ∀ (k : Nat) (hk : k < (L.modify j fun e => { e with val := v }).length), isKey s' n' (L.modify j fun e => { e with val := v })[k] = isKey s' n' (L[k]'(by simpa using hk)) := by
      intro k hk
      rw [List.getElem_modify]
      split
      · subst_vars; rfl
      · rfl
    by_cases hk : s' = s ∧ n' = n
    · obtain ⟨rfl, rfl⟩ := hk
      rw [if_pos ⟨rfl, rfl⟩]
      rw [getE_some (j := j) (by simpa using hj) (by rw [hisK]; exact h2) (fun k hk => by rw [hisK]; exact h3 k hk), List.getElem_modify, if_pos rfl]
    · rw [if_neg hk]
      rcases lookFrom_cases s' n' L 0 with ⟨g1, g2⟩ | ⟨i, hi, g1, g2, g3⟩
      · rw [getE_none g2, getE_none]
        intro e he
        obtain ⟨k, hk', rfl⟩ := List.mem_iff_getElem.1 he
        rw [hisK]
        exact g2 _ (List.getElem_mem _)
      · have hij : i ≠ j := by
          rintro rfl
          have : s' = L[i].s ∧ n' = L[i].n := by simpa [isKey] using g2
          exact hk ⟨this.1.trans hkey.1.symm, this.2.trans hkey.2.symm⟩
        rw [getE_some hi g2 g3, getE_some (j := i) (by simpa using hi) (by rw [hisK]; exact g2) (fun k hk => by rw [hisK]; exact g3 k hk), List.getElem_modify, if_neg (Ne.symm hij)]

theorem MapB.grown {w w' : World} {b : Nat} {L : List Ent} {c : Nat} (h : MapB w b L c) {F : List Nat} (u : Upd F w w') (hF : b ∉ F) : MapB w' b L c := by
  unfold MapB at h ⊢
  rw [u.block b (lt_of_blk h) hF]; exact h

theorem grown_set (w : World) (b : Nat) (o : Obj) : w.grownBy { w with heap := w.heap.setIfInBounds b o } (some b) :=
  ⟨rfl, rfl, rfl, by simp, fun k hk hne => by simp [show b ≠ k from fun e => hne (by rw [e])]⟩

theorem run_mapUpd {w : World} {b : Nat} {L : List Ent} {c : Nat} (h : MapB w b L c) (s : ByteArray) (n : Int) (v : Value) :
    ∃ w', (Instr.mapUpdate 40 (.map (some b)) (keyV s n) v).run Tryd.prog w = .ok () w' ∧ MapB w' b (putE L s n v c) (putC L s n c) ∧ w.grownBy w' (some b) := by
  have ht : Tryd.prog.underlying 40 = some (.map 45 38) := Tryd.underlying40
  have hlt : b < w.heap.size := lt_of_blk h
  unfold putE putC
  rcases lookFrom_cases s n L 0 with ⟨h1, h2⟩ | ⟨j, hj, h1, h2, h3⟩
  · refine ⟨{ w with heap := w.heap.setIfInBounds b (.map ((L.map entE).toArray.push { key := keyV s n, val := v, born := c }) (c + 1)) }, ?_, ?_, ?_⟩
    · unfold Instr.mapUpdate
      simp only [Sem.run_bind, run_underlying ht, Result.andThen_ok, getObj_mapB h, run_checkKey45]
      rw [run_findKey45, h1]
      simp only [Result.andThen_ok]
      exact MapKept.run_setObj_map _ h
    · unfold MapB
      rw [h1]
      simp [hlt, entE]
    · exact grown_set w b _
  · rw [Nat.zero_add] at h1
    have hkey : s = L[j].s ∧ n = L[j].n := by simpa [isKey] using h2
    have hjE : ((L.map entE).toArray[j]?).map (·.key) = some (keyV s n) := by
      simp [hj, entE, hkey]
    refine ⟨{ w with heap := w.heap.setIfInBounds b (.map ((L.map entE).toArray.modify j fun e => { e with key := keyV s n, val := v }) c) }, ?_, ?_, ?_⟩
    · unfold Instr.mapUpdate
      simp only [Sem.run_bind, run_underlying ht, Result.andThen_ok, getObj_mapB h, run_checkKey45]
      rw [run_findKey45, h1]
      simp only [Result.andThen_ok, hjE, Option.getD_some]
      have hst : (Instr.keyThatStays (keyV s n) (keyV s n)).run Tryd.prog w = .ok (keyV s n) w := by
        have hb : Instr.sameBits 10000 (keyV s n) (keyV s n) = true := by
          rw [show (10000 : Nat) = 9999 + 1 from rfl]
          simp [Instr.sameBits, bytes_beq]
        unfold Instr.keyThatStays
        rw [hb]
        rfl
      simp only [Sem.run_bind, hst, Result.andThen_ok]
      exact MapKept.run_setObj_map _ h
    · unfold MapB
      have : (L.map entE).toArray.modify j (fun e => { e with key := keyV s n, val := v }) = ((L.modify j fun e => { e with val := v }).map entE).toArray := by
        apply Array.ext
        · simp
        · intro i h1 h2
          simp only [Array.getElem_modify, List.getElem_toArray, List.getElem_map, List.getElem_modify]
          split
          · rename_i e
            subst e
            simp only [entE]
            rw [← hkey.1, ← hkey.2]
          · rfl
      rw [this, h1]
      simp [hlt]
    · exact grown_set w b _
end Go.Proofs.YtdokpfgdddfdfaaDoor
