/- The document's rows: where a key's row is; whether a number fits; Get; Same. Rows: parts of a row, as what is appended. The document: are two lists of rows the same? -/
import Derived.Laws.StructEq
import Derived.Test.YtajppgngoffonaaGreatDoorGPt
import Derived.Test.YtajppgngoffonaaGreatDoorGHo
import Derived.Test.YtajppgngoffonaaGreatDoorGRec
import Derived.Test.YtajppgngoffonaaGreatDoorGPw
namespace Go.Proofs.YtajppgngoffonaaGreatDoor
open Go.RowKit

set_option maxRecDepth 100000 in
theorem fits_ok (n : Int) (w : World) : Calls Tryz.prog 49 #[.int .i64 n] w fun e w' => e = .returned (.bool (withinB n)) ∧ w' = w := by
  have hR : Hid (withinB n = decide (-1000000000000000 ≤ n ∧ n ≤ 1000000000000000)) := Lib.hid rfl
  generalize withinB n = R at *
  go_enter Tryz.func49, Tryz.ntmps49
  by_cases h1 : -1000000000000000 ≤ n
  · by_cases h2 : n ≤ 1000000000000000
    · have hR2 : Hid (R = true) := Lib.hid (by rw [hR.out]; simp [h1, h2])
      clear hR
      go_wp2_with fail
      go_ret
      exact ⟨by rw [hR2.out]; rfl, rfl⟩
    · have hR2 : Hid (R = false) := Lib.hid (by rw [hR.out]; simp [h1, h2])
      clear hR
      go_wp2_with fail
      go_ret
      exact ⟨by rw [hR2.out]; rfl, rfl⟩
  · have hR2 : Hid (R = false) := Lib.hid (by rw [hR.out]; simp [h1])
    clear hR
    go_wp2_with fail
    go_ret
    exact ⟨by rw [hR2.out]; rfl, rfl⟩

theorem there_eq {L : List Rw} (hs : RSrt L) (k : ByteArray) : (getR L k).isSome = if hp : posR L k < L.length then decide ((L[posR L k]).key = k) else false := by
  rw [getR_pos hs]
  split
  · split
    · rename_i h; rw [decide_eq_true h]; rfl
    · rename_i h; rw [decide_eq_false h]; rfl
  · rfl

set_option maxRecDepth 100000 in
set_option maxHeartbeats 800000 in
theorem refRow_ok (v : Value) (L : List Rw) (k : ByteArray) (w : World) (h : SlAt 2 (CellsAt cellsR) w v L) (hs : RSrt L) :
    Calls Tryz.prog 31 #[v, .string k] w fun e w' => e = .returned (.tuple #[.int .i64 (posR L k), .bool (getR L k).isSome]) ∧ Upd [] w w' := by
  have hT := there_eq hs k
  have HE := Lib.hid (fun (i : Nat) hi hb he => posR_stop (l := L) (k := k) (i := i) hi hb he)
  have HT := Lib.hid hT
  obtain ⟨a, cap, rfl, h1, h2, h3⟩ := h
  have H := Lib.hid h3
  unfold maxLen at h2
  clear h3 hs hT
  go_enter Tryz.func31, Tryz.ntmps31
  go_wp2_with fail
  go_loopg [6] L.length (fun n i wr => ∃ j : Nat, i = .int .i64 j ∧ j ≤ L.length ∧ n = L.length - j ∧ Hid (∀ i (hi : i < j) (hl : i < L.length), ltB L[i].key k = true) ∧ wr = w)
  case atStart => exact ⟨0, rfl, by omega, rfl, Lib.hid (fun i hi => by omega), rfl⟩
  case round =>
    obtain ⟨j, rfl, hj, rfl, hA, rfl⟩ := hrel
    by_cases hjl : j < L.length
    · have hlt : (j : Int) < (L.length : Int) := by omega
      obtain ⟨b, off, rfl, hf⟩ := H.out j hjl
      have c0 : wr.cell? ⟨b, off + j * 2, none⟩ = some (.string L[j].key) := hf 0 _ rfl
      clear hf
      cases hb : ltB L[j].key k with
      | true =>
        have hA2 : Hid (∀ i (hi : i < j + 1) (hl : i < L.length), ltB L[i].key k = true) := Lib.hid (fun i hi hl => by
          rcases Nat.lt_or_ge i j with h | h
          · exact hA.out i h hl
          · have : i = j := by omega
            subst this; exact hb)
        have hbb : Op.bytesLess L[j].key.toList k.toList = true := hb
        clear hb HE HT hA
        generalize L[j].key = y at *
        go_wp2_with fail
        go_roundg (L.length - (j + 1))
        case measure => omega
        case rel => exact ⟨j + 1, by go_num, by omega, rfl, hA2, rfl⟩
      | false =>
        have hpj := HE.out j (by omega) hA.out (fun _ => hb)
        have ht : (getR L k).isSome = decide (L[j].key = k) := by
          have h := HT.out
          simp only [hpj, dif_pos hjl] at h
          rewrite [h]
          exact decide_eq_decide.2 Iff.rfl
        have hbb : Op.bytesLess L[j].key.toList k.toList = false := hb
        have HP := Lib.hid (And.intro hpj ht)
        by_cases hk : L[j].key = k
        · have hR : Hid ((getR L k).isSome = true) := Lib.hid (by rw [ht, decide_eq_true hk])
          have hkk : (L[j].key.toList == k.toList) = true := by rw [hk]; simp
          clear hb hpj ht HE HT hA hk
          generalize L[j].key = y at *
          go_wp2_with fail
          go_quiet (fail)
          go_wp2_with fail
          go_ret2
          exact ⟨by rw [HP.out.1, hR.out]; rfl, by exact (Upd.refl [] wr).alike ⟨rfl, rfl, rfl⟩⟩
        · have hR : Hid ((getR L k).isSome = false) := Lib.hid (by rw [ht, decide_eq_false hk])
          have hkk : (L[j].key.toList == k.toList) = false := by rw [← beq_toListBytes, bytes_beq]; simpa using hk
          clear hb hpj ht HE HT hA hk
          generalize L[j].key = y at *
          go_wp2_with fail
          go_quiet (fail)
          go_wp2_with fail
          go_ret2
          exact ⟨by rw [HP.out.1, hR.out]; rfl, by exact (Upd.refl [] wr).alike ⟨rfl, rfl, rfl⟩⟩
    · have hlt : ¬ (j : Int) < (L.length : Int) := by omega
      have hpj := HE.out j (by omega) (fun i hi hl => hA.out i hi hl) (fun h => absurd h hjl)
      have ht : (getR L k).isSome = false := by
        have h := HT.out
        simp only [hpj, dif_neg hjl] at h
        exact h
      have HP := Lib.hid (And.intro hpj ht)
      clear hpj ht HE HT hA
      go_wp2_with fail
      go_quiet (fail)
      go_wp2_with fail
      go_ret2
      exact ⟨by rw [HP.out.1, HP.out.2]; rfl, by exact (Upd.refl [] wr).alike ⟨rfl, rfl, rfl⟩⟩

set_option maxRecDepth 100000 in
set_option maxHeartbeats 800000 in
theorem refGet_ok' (v : Value) (L : List Rw) (k : ByteArray) (w : World) (h : SlAt 2 (CellsAt cellsR) w v L) (hs : RSrt L) :
    Calls Tryz.prog 11 #[v, .string k] w fun e w' => e = .returned (.tuple #[.int .i64 ((getR L k).getD 0), .bool (getR L k).isSome]) ∧ Upd [] w w' := by
  have HC := Lib.hid (refRow_ok v L k w h hs)
  have hT := there_eq hs k
  have hG := getR_pos hs k
  obtain ⟨a, cap, rfl, h1, h2, h3⟩ := h
  unfold maxLen at h2
  cases hg : getR L k with
  | none =>
    rw [hg] at HC
    clear hT hG hg h3
    go_enter Tryz.func11, Tryz.ntmps11
    go_wp2_with fail
    refine HC.out.mono ?_
    rintro e w1 ⟨rfl, hu⟩
    have HU := Lib.hid hu
    clear hu
    go_wp2_with fail
    go_ret2
    exact ⟨rfl, HU.out⟩
  | some m =>
    rw [hg] at HC hG hT
    have hp : posR L k < L.length := by
      rcases Nat.lt_or_ge (posR L k) L.length with h | h
      · exact h
      · rw [dif_neg (by omega)] at hG; cases hG
    rw [dif_pos hp] at hG
    have hm : L[posR L k].n = m := by
      split at hG
      · exact (Option.some.inj hG).symm
      · cases hG
    have hlt : ((posR L k : Nat) : Int) < (L.length : Int) := by omega
    obtain ⟨b, off, rfl, hf⟩ := h3 _ hp
    have c1 : w.cell? ⟨b, off + posR L k * 2 + 1, none⟩ = some (.int .i64 m) := by rw [← hm]; exact hf 1 _ rfl
    clear hT hG hg h3 hf hm
    generalize posR L k = p at *
    go_enter Tryz.func11, Tryz.ntmps11
    go_wp2_with fail
    refine HC.out.mono ?_
    rintro e w1 ⟨rfl, hu⟩
    replace c1 := cell_keep hu c1
    have HU := Lib.hid hu
    clear hu
    go_wp2_with fail
    go_ret2
    exact ⟨rfl, HU.out⟩
end Go.Proofs.YtajppgngoffonaaGreatDoor

namespace Go.Proofs.YtajppgngoffonaaGreatDoor
open Go.RowKit

theorem elemR : Tryz.prog.underlying 30 = some (.slice (Tryz.prog.elem 30)) := by kernel_rfl
theorem sizeR (w : World) : (sizeOf (Tryz.prog.elem 30)).run Tryz.prog w = .ok 2 w := by kernel_rfl

theorem slice_hiR (a : Addr) (n cap i : Nat) (h : i ≤ cap) (W : World) : (Instr.slice 30 (.slice (some a) n cap) none (some (.int .i64 i)) none).run Tryz.prog W = .ok (.slice (some (if cap = 0 then a else a.add 0)) i cap) W := by
  rw [run_slice_h (w := W) 30 (some a) n cap elemR .i64 i (by omega) (by omega), sizeR]
  simp only [Result.andThen, sliced]
  split <;> simp_all

theorem slice_loR (a : Addr) (n cap i : Nat) (h : i ≤ n) (W : World) : (Instr.slice 30 (.slice (some a) n cap) (some (.int .i64 i)) none none).run Tryz.prog W = .ok (.slice (some (if cap = i then a else a.add (i * 2))) (n - i) (cap - i)) W := by
  rw [run_slice_l (w := W) 30 (some a) n cap elemR .i64 i (by omega) (by omega), sizeR]
  simp only [Result.andThen, sliced]
  split <;> simp_all

theorem srcR_nil (w : World) (A : Option Addr) : SrcG cellsR w A [] := ⟨fun _ => rfl, fun _ _ j u h => by simp [flatG] at h⟩

theorem sl_cells {w : World} {b off n cap : Nat} {l : List Rw} (h : SlAt 2 (CellsAt cellsR) w (.slice (some ⟨b, off, none⟩) n cap) l) : n = l.length ∧ ∀ i (hi : i < l.length), CellsAt cellsR w b (off + i * 2) l[i] := by
  obtain ⟨a', cap', hv, h1, h2, h3⟩ := h
  simp only [Value.slice.injEq] at hv
  obtain ⟨rfl, rfl, rfl⟩ := hv
  refine ⟨rfl, fun i hi => ?_⟩
  obtain ⟨b', off', e, hf⟩ := h3 i hi
  cases e
  exact hf

theorem src_cells {w : World} {b off : Nat} {l : List Rw} (h : ∀ i (hi : i < l.length), CellsAt cellsR w b (off + i * 2) l[i]) (hl : l.length ≤ maxLen) : SrcG cellsR w (some ⟨b, off, none⟩) l :=
  SlAt.srcG rowT (fun _ _ _ hx => hx) (show SlAt 2 (CellsAt cellsR) w (.slice (some ⟨b, off, none⟩) l.length l.length) l from ⟨_, _, rfl, Nat.le_refl _, hl, fun i hi => ⟨b, off, rfl, h i hi⟩⟩)

theorem rw_hi {w : World} {v : Value} {l : List Rw} (h : SlAt 2 (CellsAt cellsR) w v l) (l1 l2 : List Rw) (hl : l = l1 ++ l2) :
    ∃ A c, (∀ W : World, (Instr.slice 30 v none (some (.int .i64 l1.length)) none).run Tryz.prog W = .ok (.slice A l1.length c) W) ∧ ∀ W : World, SlAt 2 (CellsAt cellsR) W v l → SrcG cellsR W A l1 := by
  subst hl
  obtain ⟨a, cap, rfl, h1, h2, h3⟩ := h
  cases a with
  | none =>
    unfold maxLen at h2
    have hn : l1 = [] ∧ l2 = [] := by
      cases e : l1 ++ l2 with
      | nil => simpa using e
      | cons x l => obtain ⟨b, off, q, _⟩ := h3 0 (by rw [e]; simp); cases q
    obtain ⟨rfl, rfl⟩ := hn
    refine ⟨none, cap, fun W => ?_, fun W _ => srcR_nil _ _⟩
    rw [run_slice_h (w := W) 30 none _ cap elemR .i64 _ (by omega) (by simp), sizeR]
    simp [Result.andThen, sliced]
  | some ad =>
    refine ⟨_, cap, fun W => slice_hiR ad _ cap l1.length (by simp at h1; omega) W, fun W hW => ?_⟩
    cases hl1 : l1 with
    | nil => exact srcR_nil _ _
    | cons y l1' =>
      obtain ⟨b, off, e, _⟩ := h3 0 (by rw [hl1]; simp)
      cases e
      have hc := (sl_cells hW).2
      rw [if_neg (by rw [hl1] at h1; simp at h1; omega), add_plainG, Nat.add_zero, ← hl1]
      refine src_cells (fun i hi => ?_) (by simp at h1; omega)
      have := hc i (by simp; omega)
      rwa [List.getElem_append_left hi] at this

theorem rw_lo {w : World} {v : Value} {l : List Rw} (h : SlAt 2 (CellsAt cellsR) w v l) (l1 l2 : List Rw) (hl : l = l1 ++ l2) :
    ∃ A c, (∀ W : World, (Instr.slice 30 v (some (.int .i64 l1.length)) none none).run Tryz.prog W = .ok (.slice A l2.length c) W) ∧ ∀ W : World, SlAt 2 (CellsAt cellsR) W v l → SrcG cellsR W A l2 := by
  subst hl
  obtain ⟨a, cap, rfl, h1, h2, h3⟩ := h
  cases a with
  | none =>
    unfold maxLen at h2
    have hn : l1 = [] ∧ l2 = [] := by
      cases e : l1 ++ l2 with
      | nil => simpa using e
      | cons x l => obtain ⟨b, off, q, _⟩ := h3 0 (by rw [e]; simp); cases q
    obtain ⟨rfl, rfl⟩ := hn
    refine ⟨none, cap, fun W => ?_, fun W _ => srcR_nil _ _⟩
    rw [run_slice_l (w := W) 30 none _ cap elemR .i64 _ (by simp) (by simp), sizeR]
    simp [Result.andThen, sliced]
  | some ad =>
    refine ⟨some (if cap = l1.length then ad else ad.add (l1.length * 2)), cap - l1.length, fun W => ?_, fun W hW => ?_⟩
    · have := slice_loR ad (l1 ++ l2).length cap l1.length (by simp) W
      rw [show (l1 ++ l2).length - l1.length = l2.length by simp] at this
      exact this
    cases hl2 : l2 with
    | nil => exact srcR_nil _ _
    | cons y l2' =>
      obtain ⟨b, off, e, _⟩ := h3 0 (by rw [hl2]; simp; omega)
      cases e
      have hc := (sl_cells hW).2
      rw [if_neg (by rw [hl2] at h1; simp at h1; omega), add_plainG, ← hl2]
      refine src_cells (fun i hi => ?_) (by simp at h1; omega)
      have := hc (l1.length + i) (by simp; omega)
      rw [List.getElem_append_right (by omega)] at this
      simp only [Nat.add_sub_cancel_left] at this
      rwa [Nat.add_mul, ← Nat.add_assoc] at this

theorem srcR_box {w : World} {B : Nat} {x : Rw} (h : w.heap[B]? = some (.cells #[.string x.key, .int .i64 x.n] 41 (0, 0))) : SrcG cellsR w (some ⟨B, 0, none⟩) [x] :=
  src_cells (fun i hi => by
    obtain rfl : i = 0 := by simpa using hi
    intro j u hu
    match j, hu with
    | 0, hu => cases hu; exact cell_blk h 0
    | 1, hu => cases hu; exact cell_blk h 1
    | j + 2, hu => simp [cellsR] at hu) (by simp; unfold maxLen; omega)

/-- An append to a row of the call's own, as one step of a region that draws its order. -/
theorem step_append_R {w : World} {ops : Array Oper} {o : Oper} {a : Act} {K : Act → World → Prop} {Q : Exit → Act → World → Prop} {E : Prop} (hgd : o.guard = none) (s x : Operand)
    (ho : o.op = .call { callee := .builtin .append, args := #[s, x], argTypes := #[30, 30] }) {base : Nat} {v : Value} {l : List Rw} (hs : a.eval s = v) (hown : OwnG cellsR 41 2 w base v l)
    {A : Option Addr} {c : Nat} {r : List Rw} (hx : a.eval x = .slice A r.length c) (hr : SrcG cellsR w A r) (hb : (l.length + r.length) * 24 ≤ 140737488355328) (hbase : base ≤ w.heap.size)
    (h : ∀ v' w', OwnG cellsR 41 2 w' base v' (l ++ r) → w.grownBy w' v.ownBlock → K (a.put o.dst v') w') :
    if Region.wanted o (yielded ops a.tmps) = true then Oper.wp Tryz.prog o a w K Q else E := by
  have hw : Region.wanted o (yielded ops a.tmps) = true := by simp [Region.wanted, hgd]
  rw [if_pos hw]
  obtain ⟨v', w', hrun, h2, h3, -⟩ := append_G rowT hown c hr (one_R r) hb (by omega) hbase o.type
  unfold Oper.wp execOp
  simp only [ho, resolve, invoke, builtin, Sem.run_bind, Sem.run_pure, Result.andThen_ok, List.map_toArray, List.map_cons, List.map_nil, hs, hx, hrun]
  exact h v' w' h2 h3
end Go.Proofs.YtajppgngoffonaaGreatDoor

namespace Go.Proofs.YtajppgngoffonaaGreatDoor
open Go.RowKit

theorem run_eqRw (a b : ByteArray) (n m : Int) (w : World) : (Op.equal 41 (.agg #[.string a, .int .i64 n]) (.agg #[.string b, .int .i64 m])).run Tryz.prog w = .ok (decide (a = b ∧ n = m)) w := by
  have u3 := Tryz.underlying3
  have u9 := Tryz.underlying9
  have a3 := Tryz.isAgg3
  have z3 := Tryz.sizeOf3
  have a9 := Tryz.isAgg9
  have z9 := Tryz.sizeOf9
  have hS : Tryz.prog.underlying 41 = some (.struct (Tryz.prog.fieldsOf 41)) := by kernel_rfl
  have hp : Tryz.prog.stoodInHeld 41 = false := by kernel_rfl
  unfold Op.equal Op.maxDepth
  rw [show (10000 : Nat) = 9999 + 1 from rfl, run_equalIn_struct w 9999 41 _ _ hS hp]
  simp only [Program.fieldsOf, Tryz.underlying41]
  go_simp
  have e := eqB a b
  by_cases h1 : a = b <;> by_cases h2 : n = m <;> simp_all

theorem run_neqRw (a b : ByteArray) (n m : Int) (w : World) : (binOp .neq 41 (.agg #[.string a, .int .i64 n]) (.agg #[.string b, .int .i64 m])).run Tryz.prog w = .ok (.bool (!decide (a = b ∧ n = m))) w := by
  have h := run_eqRw a b n m w
  unfold Op.equal Op.maxDepth at h
  rw [run_neq_struct, h]
  rfl

noncomputable def sameR (L R : List Rw) : Bool := @decide (L = R) (Classical.propDecidable _)
theorem sameR_iff {L R : List Rw} : sameR L R = true ↔ L = R := by unfold sameR; exact @decide_eq_true_iff (L = R) (Classical.propDecidable _)
theorem sameR_not {L R : List Rw} (h : L ≠ R) : sameR L R = false := by
  cases q : sameR L R
  · rfl
  · exact absurd (sameR_iff.1 q) h

set_option maxRecDepth 100000 in
set_option maxHeartbeats 800000 in
theorem refSame_ok (v u : Value) (L R : List Rw) (w : World) (h : SlAt 2 (CellsAt cellsR) w v L) (g : SlAt 2 (CellsAt cellsR) w u R) :
    Calls Tryz.prog 9 #[v, u] w fun e w' => e = .returned (.bool (sameR L R)) ∧ Upd [] w w' := by
  obtain ⟨a, cap, rfl, h1, h2, h3⟩ := h
  obtain ⟨a', cap', rfl, g1, g2, g3⟩ := g
  have H := Lib.hid h3
  have G := Lib.hid g3
  unfold maxLen at h2 g2
  clear h3 g3
  have hX : ∀ W : World, Upd [] w W → Upd [] w W := fun _ u => u
  go_enter Tryz.func9, Tryz.ntmps9
  by_cases hl : L.length = R.length
  · have hl' : (L.length : Int) = (R.length : Int) := by omega
    go_wp2_with fail
    go_loopg [5] L.length (fun n i wr => ∃ j : Nat, i = .int .i64 j ∧ j ≤ L.length ∧ n = L.length - j ∧ Hid (∀ i (hi : i < j) (h1 : i < L.length) (h2 : i < R.length), L[i] = R[i]) ∧ Hid (Upd [] w wr))
    case atStart => exact ⟨0, rfl, by omega, rfl, Lib.hid (fun i hi => by omega), Lib.hid (Upd.refl _ _)⟩
    case round =>
      obtain ⟨j, rfl, hj, rfl, hA, HU⟩ := hrel
      by_cases hjl : j < L.length
      · have hlt : (j : Int) < (L.length : Int) := by omega
        have hjr : j < R.length := by omega
        have hlr : (j : Int) < (R.length : Int) := by omega
        obtain ⟨b, off, rfl, hf⟩ := H.out j hjl
        obtain ⟨b', off', rfl, hg⟩ := G.out j hjr
        have c0 : wr.cell? ⟨b, off + j * 2, none⟩ = some (.string L[j].key) := cell_keep HU.out (hf 0 _ rfl)
        have c1 : wr.cell? ⟨b, off + j * 2 + 1, none⟩ = some (.int .i64 L[j].n) := cell_keep HU.out (hf 1 _ rfl)
        have e0 : wr.cell? ⟨b', off' + j * 2, none⟩ = some (.string R[j].key) := cell_keep HU.out (hg 0 _ rfl)
        have e1 : wr.cell? ⟨b', off' + j * 2 + 1, none⟩ = some (.int .i64 R[j].n) := cell_keep HU.out (hg 1 _ rfl)
        have hE : Hid (L[j] = R[j] ↔ L[j].key = R[j].key ∧ L[j].n = R[j].n) := Lib.hid (by
          generalize L[j] = x
          generalize R[j] = y
          obtain ⟨x1, x2⟩ := x
          obtain ⟨y1, y2⟩ := y
          simp)
        clear hf hg
        have hop := run_neqRw L[j].key R[j].key L[j].n R[j].n
        by_cases hq : L[j].key = R[j].key ∧ L[j].n = R[j].n
        · rw [decide_eq_true hq] at hop
          have hA2 : Hid (∀ i (hi : i < j + 1) (h1 : i < L.length) (h2 : i < R.length), L[i] = R[i]) := Lib.hid (fun i hi q1 q2 => by
            rcases Nat.lt_or_ge i j with q | q
            · exact hA.out i q q1 q2
            · have : i = j := by omega
              subst this; exact hE.out.2 hq)
          clear hE hA hq
          generalize L[j].key = lk at *
          generalize L[j].n = ln at *
          generalize R[j].key = rk at *
          generalize R[j].n = rn at *
          go_upto_region 6 with (fail)
          go_quiet (fail)
          go_wp2_with fail
          go_roundg (L.length - (j + 1))
          case measure => omega
          case rel => exact ⟨j + 1, by go_num, by omega, rfl, hA2, Lib.hid (HU.out.alike ⟨rfl, rfl, rfl⟩)⟩
        · rw [decide_eq_false hq] at hop
          have hN : Hid (L ≠ R) := Lib.hid (fun q => hq (hE.out.1 (by subst q; rfl)))
          clear hE hA hq
          generalize L[j].key = lk at *
          generalize L[j].n = ln at *
          generalize R[j].key = rk at *
          generalize R[j].n = rn at *
          go_upto_region 6 with (fail)
          go_quiet (fail)
          go_wp2_with fail
          go_ret
          exact ⟨by rw [sameR_not hN.out]; rfl, HU.out.alike ⟨rfl, rfl, rfl⟩⟩
      · have hlt : ¬ (j : Int) < (L.length : Int) := by omega
        have hlr : ¬ (j : Int) < (R.length : Int) := by omega
        go_wp2_with fail
        go_ret
        exact ⟨by rw [sameR_iff.2 (List.ext_getElem hl fun i q1 q2 => hA.out i (by omega) q1 q2)]; rfl, HU.out⟩
  · have hl' : ¬ (L.length : Int) = (R.length : Int) := by omega
    go_wp2_with fail
    go_ret
    exact ⟨by rw [sameR_not (fun q => hl (congrArg List.length q))]; rfl, Upd.refl _ _⟩
end Go.Proofs.YtajppgngoffonaaGreatDoor
