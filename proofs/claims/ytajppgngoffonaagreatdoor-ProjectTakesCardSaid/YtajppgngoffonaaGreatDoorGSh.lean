/- The sheet: the first place at which a predicate holds; at; Get. The sheet: Clone, Delete, Drop. The sheet: Drop. The sheet: slices.Insert of one field. The sheet: slices.Insert of one field, as a contract; Set. The sheet: Set. The sheet: Name. The table that strconv reads; slices of structs; ranges of numbers. -/
import Derived.Shelf.GgClosure.Gives
import Derived.Laws.CopyOwn
import Derived.Laws.AppendOwn
import Derived.Shelf.RegionOpenPlain
import Derived.Lib.SliceRun
import Derived.Lib.AppendZerosOnto
import Derived.Lib.Overlaps
import Derived.Lib.OthersKept
import Derived.Lib.LaidTab
import Derived.Lib.ItoaNum
import Derived.Test.YtajppgngoffonaaGreatDoorGRec
namespace Go.Proofs.YtajppgngoffonaaGreatDoor
open Go.RowKit

def idxF {α : Type} (p : α → Bool) (l : List α) : Int := match l.findIdx? p with
  | some i => i
  | none => -1

theorem idxF_none {α : Type} {p : α → Bool} {l : List α} (h : ∀ i (hi : i < l.length), p l[i] = false) : idxF p l = -1 := by
  unfold idxF
  rw [List.findIdx?_eq_none_iff.2 (by intro x hx; obtain ⟨i, hi, rfl⟩ := List.mem_iff_getElem.1 hx; exact h i hi)]

theorem idxF_some {α : Type} {p : α → Bool} {l : List α} {i : Nat} (hi : i < l.length) (hk : p l[i] = true) (h : ∀ j (hj : j < i), p l[j] = false) : idxF p l = i := by
  unfold idxF
  rw [List.findIdx?_eq_some_iff_getElem.2 ⟨hi, hk, fun j hj => by simpa using h j hj⟩]

theorem RecAt.isSlice {w : World} {v : Value} {l : List Fd} (h : RecAt w v l) : ∃ a cap, v = .slice a l.length cap ∧ l.length ≤ cap ∧ cap ≤ 9223372036854775807 := by
  obtain ⟨a, cap, rfl, h1, h2, -⟩ := h
  exact ⟨a, cap, rfl, h1, by unfold maxLen at h2; omega⟩

/-- What is asked of a predicate over fields. -/
def PredF (g : Nat) (lb : Array Value) (p : Fd → Bool) (w : World) : Prop :=
  ∀ (W : World) (x : Fd), Upd [] w W → Calls Tryz.prog g (#[aggF x] ++ lb) W fun e w' => e = .returned (.bool (p x)) ∧ Upd [] w w'

set_option maxRecDepth 100000 in
set_option maxHeartbeats 800000 in
theorem idxField_ok (g : Nat) (lb : Array Value) (p : Fd → Bool) (eg : ∀ args w, (callFunc g args).run Tryz.prog w = .ok (.enter g args) w) (v : Value) (l : List Fd) (w : World) (h : RecAt w v l) (hp : PredF g lb p w) :
    Calls Tryz.prog 101 #[v, .func (.func g) #[] lb] w fun e w' => e = .returned (.int .i64 (idxF p l)) ∧ Upd [] w w' := by
  have HR := Lib.hid (fun (W : World) (u : Upd [] w W) => h.keep u)
  have HP := Lib.hid hp
  obtain ⟨a, cap, rfl, h1, h2, h3⟩ := h
  have H3 := Lib.hid h3
  clear h3 hp
  unfold maxLen at h2
  go_enter Tryz.func101, Tryz.ntmps101
  go_wp2_with fail
  go_loopg [5, 8] l.length (fun n _ i wr => ∃ j : Nat, i = .int .i64 j ∧ j ≤ l.length ∧ n = l.length - j ∧ Hid (∀ i (hi : i < j) (hl : i < l.length), p l[i] = false) ∧ Hid (Upd [] w wr))
  case atStart => exact ⟨0, rfl, by omega, rfl, Lib.hid (fun i hi => by omega), Lib.hid (Upd.refl _ _)⟩
  case round =>
    obtain ⟨j, rfl, hj, rfl, hA, HU⟩ := hrel
    by_cases hjl : j < l.length
    · have hlt : (j : Int) < (l.length : Int) := by omega
      obtain ⟨b, off, rfl, hf⟩ := H3.out j hjl
      obtain ⟨c0, c1, c2, c3⟩ := hf.upd HU.out (by simp)
      clear hf
      have hcall := HP.out wr l[j] HU.out
      cases hq : p l[j] with
      | true =>
        have hres : Hid (idxF p l = j) := Lib.hid (idxF_some hjl hq (fun i hi => hA.out i hi (by omega)))
        rw [hq] at hcall
        clear hq
        generalize l[j] = x at *
        go_wp2_with (go_at_fn g; refine hcall.mono ?_; rintro e w' ⟨rfl, hu'⟩)
        go_ret
        exact ⟨by rw [hres.out]; rfl, hu'⟩
      | false =>
        have hA2 : Hid (∀ i (hi : i < j + 1) (hl : i < l.length), p l[i] = false) := Lib.hid (fun i hi hl => by
          rcases Nat.lt_or_ge i j with h | h
          · exact hA.out i h hl
          · have : i = j := by omega
            subst this; exact hq)
        rw [hq] at hcall
        clear hq
        generalize l[j] = x at *
        go_wp2_with (go_at_fn g; refine hcall.mono ?_; rintro e w' ⟨rfl, hu'⟩)
        go_roundg (l.length - (j + 1))
        case measure => omega
        case rel => exact ⟨j + 1, by go_num, by omega, rfl, hA2, Lib.hid hu'⟩
    · have hlt : ¬ (j : Int) < (l.length : Int) := by omega
      have hres : Hid (idxF p l = -1) := Lib.hid (idxF_none (fun i hi => hA.out i (by omega) hi))
      go_wp2_with fail
      go_ret
      exact ⟨by rw [hres.out]; rfl, HU.out⟩

theorem eqB (a b : ByteArray) : (a.toList == b.toList) = decide (a = b) := by rw [← beq_toListBytes, bytes_beq]

theorem gtB_run (a b : ByteArray) (t : TypeId) (P : Program) (W : World) : (binOp .gtr t (.string a) (.string b)).run P W = .ok (.bool (!leB a b)) W := by
  simp [binOp, Op.stringOp, leB]

set_option maxRecDepth 100000 in
theorem at1_ok (k : ByteArray) (B : Nat) (w : World) (hB : w.heap[B]? = some (.cells #[.string k] 9 (0, 0))) : PredF 137 #[.pointer (some ⟨B, 0, none⟩)] (fun x => decide (x.nm = k)) w := fun W x hu => by
  have hB' : W.heap[B]? = some (.cells #[.string k] 9 (0, 0)) := by rw [hu.block B (lt_of_blk hB) (by simp)]; exact hB
  have hc : W.cell? ⟨B, 0, none⟩ = some (.string k) := cell_blk hB' 0
  have hlt := lt_of_blk hB'
  have hne : B ≠ W.heap.size := by omega
  have HU := Lib.hid hu
  clear hu hB hB'
  show Calls Tryz.prog 137 #[aggF x, .pointer (some ⟨B, 0, none⟩)] W _
  go_enter Tryz.func137, Tryz.ntmps137
  go_wp2_with fail
  go_ret
  exact ⟨by rw [← eqB]; rfl, HU.out.alloc _⟩

set_option maxRecDepth 100000 in
theorem set1_ok (x : Fd) (B : Nat) (w : World) (hB : w.heap[B]? = some (boxF x)) : PredF 102 #[.pointer (some ⟨B, 0, none⟩)] (fun y => !leB y.nm x.nm) w := fun W y hu => by
  have hB' : W.heap[B]? = some (boxF x) := by rw [hu.block B (lt_of_blk hB) (by simp)]; exact hB
  have hc : W.cell? ⟨B, 0, none⟩ = some (.string x.nm) := cell_blk hB' 0
  have hlt := lt_of_blk hB'
  have hne : B ≠ W.heap.size := by omega
  have hop := fun W' => gtB_run y.nm x.nm 9 Tryz.prog W'
  have HU := Lib.hid hu
  clear hu hB hB'
  show Calls Tryz.prog 102 #[aggF y, .pointer (some ⟨B, 0, none⟩)] W _
  go_enter Tryz.func102, Tryz.ntmps102
  go_wp2_with fail
  go_ret
  exact ⟨rfl, HU.out.alloc _⟩

theorem enters58 : ∀ args w, (callFunc 137 args).run Tryz.prog w = .ok (.enter 137 args) w := enters_of Tryz.func137 (by kernel_rfl) rfl
theorem enters46 : ∀ args w, (callFunc 102 args).run Tryz.prog w = .ok (.enter 102 args) w := enters_of Tryz.func102 (by kernel_rfl) rfl

set_option maxRecDepth 100000 in
theorem at_ok (v : Value) (l : List Fd) (k : ByteArray) (w : World) (h : RecAt w v l) :
    Calls Tryz.prog 100 #[v, .string k] w fun e w' => e = .returned (.int .i64 (posF l k)) ∧ Upd [] w w' := by
  have u0 := (Upd.refl [] w).alloc (.cells #[.string k] 9)
  have hcon := idxField_ok 137 #[.pointer (some ⟨w.heap.size, 0, none⟩)] (fun x => decide (x.nm = k)) enters58 v l (w.alloc (.cells #[.string k] 9)) (h.keep u0) (at1_ok k w.heap.size _ (by rw [heap_alloc, if_pos rfl]))
  have HU := Lib.hid u0
  clear u0
  obtain ⟨a, cap, rfl, -, -⟩ := h.isSlice
  change Calls Tryz.prog 101 _ _ _ at hcon
  have hpos : idxF (fun x => decide (x.nm = k)) l = posF l k := rfl
  rw [hpos] at hcon
  clear hpos h
  generalize posF l k = r at *
  go_enter Tryz.func100, Tryz.ntmps100
  go_wp2_with (go_at_call 101; refine hcon.mono ?_; rintro e w' ⟨rfl, hu⟩)
  go_ret
  exact ⟨rfl, HU.out.trans hu⟩

set_option maxRecDepth 100000 in
set_option maxHeartbeats 1000000 in
theorem get_ok (v : Value) (l : List Fd) (k : ByteArray) (w : World) (h : RecAt w v l) : Calls Tryz.prog 60 #[v, .string k] w (GetPost (getF l k) w) := by
  have HR := Lib.hid (fun (W : World) (u : Upd [] w W) => h.keep u)
  obtain ⟨a, cap, rfl, h1, h2, h3⟩ := h
  have H3 := Lib.hid h3
  unfold maxLen at h2
  have HC := Lib.hid (at_ok _ l k _ (HR.out _ ((Upd.refl [] w).alloc (boxF noF))))
  clear h3
  go_enter Tryz.func60, Tryz.ntmps60
  go_wp2_with fail
  refine HC.out.mono ?_
  rintro e w1 ⟨rfl, hu⟩
  have hb : w1.heap[w.heap.size]? = some (boxF noF) := by rw [hu.block _ (by simp) (by simp), heap_alloc, if_pos rfl]
  have hlt := lt_of_blk hb
  have b0 : w1.cell? ⟨w.heap.size, 0, none⟩ = some (.string ByteArray.empty) := cell_blk hb 0
  have b1 : w1.cell? ⟨w.heap.size, 1, none⟩ = some (.bool false) := cell_blk hb 1
  have b2 : w1.cell? ⟨w.heap.size, 2, none⟩ = some (.int .i64 0) := cell_blk hb 2
  have b3 : w1.cell? ⟨w.heap.size, 3, none⟩ = some (.string ByteArray.empty) := cell_blk hb 3
  have fz := frozen_blk hb
  have HU : Hid (Upd [] w w1) := Lib.hid (((Upd.refl [] w).alloc _).trans hu)
  clear hu hb HC
  rcases posF_cases l k with ⟨hp, -, hg⟩ | ⟨i, hi, hp, -, -, hg⟩
  · rw [hp]
    have HG := Lib.hid hg
    clear hp hg
    go_wp2_with fail
    try simp only [Exit.inBlock, Exit.then]
    refine bodyPost_ret (by simp [results, Tryz.results60, go_sem, World.cell?_setCell_same _ _ _ b0, b1, b2, b3]; try rfl) rfl ?_
    exact ⟨by rw [HG.out]; rfl, (((HU.out.setCellNew (Nat.le_refl _) 0 _).setCellNew (Nat.le_refl _) 1 _).setCellNew (Nat.le_refl _) 2 _).setCellNew (Nat.le_refl _) 3 _⟩
  · rw [hp]
    have HG := Lib.hid hg
    obtain ⟨b, off, rfl, hf⟩ := H3.out i hi
    have hblt := hf.lt
    have hne : b ≠ w.heap.size := by omega
    obtain ⟨c0, c1, c2, c3⟩ := hf.upd HU.out (by simp)
    clear hf hp hg
    have hi' : (i : Int) < (l.length : Int) := by omega
    generalize l[i] = x at *
    go_wp2_with fail
    try simp only [Exit.inBlock, Exit.then]
    refine bodyPost_ret (by simp [results, Tryz.results60, go_sem, World.cell?_setCell_same _ _ _ b0, b1, b2, b3]; try rfl) rfl ?_
    exact ⟨by rw [HG.out]; rfl, (((HU.out.setCellNew (Nat.le_refl _) 0 _).setCellNew (Nat.le_refl _) 1 _).setCellNew (Nat.le_refl _) 2 _).setCellNew (Nat.le_refl _) 3 _⟩
end Go.Proofs.YtajppgngoffonaaGreatDoor

namespace Go.Proofs.YtajppgngoffonaaGreatDoor
open Go.RowKit

theorem size30 : ∃ i, Tryz.prog.info? 64 = some i ∧ i.zero = some (aggF noF) ∧ i.size = 4 ∧ i.bytes = 48 := info_parts infoF

/-- A row in place: the cells X at block g. -/
def Blk (w : World) (g : Nat) (X : List Value) : Prop := w.heap[g]? = some (.cells X.toArray 64 (0, 0))

theorem Blk.set {w : World} {g : Nat} {X : List Value} (h : Blk w g X) (Y : List Value) : Blk (w.setRow g Y.toArray) g Y := setRow_heap w g _ _ 64 _ h

theorem Upd.setRow {F : List Nat} {w w' : World} (h : Upd F w w') {g : Nat} (hg : w.heap.size ≤ g ∨ g ∈ F) (cs : Array Value) : Upd F w (w'.setRow g cs) :=
  ⟨h.os, h.output, by simpa [World.setRow] using h.size, fun k hk hn => by
    rw [setRow_other w' g k cs (by rintro rfl; rcases hg with hg | hg; omega; exact hn hg)]
    exact h.block k hk hn⟩

theorem Own.blk {w : World} {base : Nat} {v : Value} {l : List Fd} (h : Own w base v l) (hl : 0 < l.length) : ∃ g cap X, v = .slice (some ⟨g, 0, none⟩) l.length cap ∧ base ≤ g ∧ Blk w g X ∧ l.length ≤ cap ∧ cap ≤ maxLen ∧ X.length = cap * 4 ∧ X.take (l.length * 4) = flatF l := by
  obtain ⟨h0, h2⟩ := h
  rcases h2 with ⟨rfl, hn⟩ | ⟨g, cap, cur, rfl, hg, hh, r1, r2, r3, r4⟩
  · omega
  · exact ⟨g, cap, cur.toList, rfl, hg, by unfold Blk; simpa using hh, r1, r2, by simpa using r3, r4⟩

theorem Blk.own {w : World} {base g n cap : Nat} {X : List Value} {l : List Fd} (h : Blk w g X) (hn : n = l.length) (hg : base ≤ g) (r1 : l.length ≤ cap) (r2 : cap ≤ maxLen) (r3 : X.length = cap * 4) (r4 : X.take (l.length * 4) = flatF l) : Own w base (.slice (some ⟨g, 0, none⟩) n cap) l := by
  subst hn
  exact ⟨flatF_len l, .inr ⟨g, cap, X.toArray, rfl, hg, h, r1, r2, by simpa using r3, by simpa using r4⟩⟩

theorem take_splice (L : List Value) (o : Nat) (cs : List Value) (ho : o ≤ L.length) : (splice L o cs).take o = L.take o := by
  unfold splice
  rw [List.take_append_of_le_length (by simp; omega), List.take_take, Nat.min_self]

theorem take_splice2 (L : List Value) (o : Nat) (cs : List Value) (ho : o ≤ L.length) : (splice L o cs).take (o + cs.length) = L.take o ++ cs := by
  unfold splice
  rw [← List.append_assoc]
  exact List.take_left' (by simp; omega)

theorem drop_splice (L : List Value) (o : Nat) (cs : List Value) (ho : o ≤ L.length) : (splice L o cs).drop o = cs ++ L.drop (o + cs.length) := by
  unfold splice
  exact List.drop_left' (by simp; omega)

theorem drop_splice2 (L : List Value) (o : Nat) (cs : List Value) (ho : o ≤ L.length) : (splice L o cs).drop (o + cs.length) = L.drop (o + cs.length) := by
  rw [← List.drop_drop, drop_splice L o cs ho, List.drop_left]

theorem take_pre {L A : List Value} {n k : Nat} (h : L.take n = A) (hk : k ≤ n) : L.take k = A.take k := by
  rw [← h, List.take_take, Nat.min_eq_left hk]

theorem flat_pre {L : List Value} {l1 l2 : List Fd} {n : Nat} (h : L.take n = flatF (l1 ++ l2)) (hn : n = (l1 ++ l2).length * 4) : L.take (l1.length * 4) = flatF l1 := by
  rw [take_pre h (by rw [hn]; simp; omega), flatF_app, List.take_append_of_le_length (by rw [flatF_len]; exact Nat.le_refl _), List.take_of_length_le (by rw [flatF_len]; exact Nat.le_refl _)]

theorem run_append_blk (w : World) (ty : TypeId) (g sLen sCap : Nat) (X : List Value) (hg : Blk w g X) (a : Addr) (c : Nat) (r : List Fd) (hr : Src w (some a) r) (hroom : sLen + r.length ≤ sCap) (hfit : (sLen + r.length) * 4 ≤ X.length) :
    (Builtin.append_ #[32, 32] ty #[.slice (some ⟨g, 0, none⟩) sLen sCap, .slice (some a) r.length c]).run Tryz.prog w = .ok (.slice (some ⟨g, 0, none⟩) (sLen + r.length) sCap) (w.setRow g (splice X (sLen * 4) (flatF r)).toArray) := by
  obtain ⟨i0, hi0, hz0, hz1, hz2⟩ := size30
  have := run_append_room (P := Tryz.prog) w 32 ty 64 i0 Tryz.underlying32 hi0 g sLen sCap X.toArray hg a r.length c (flatF r) (by rw [hz1, flatF_len]) (hr.2 a rfl) (flatF_one r) hroom (by rw [hz1, flatF_len]; simp; omega)
  rw [this, hz1]
  simp [splice]

theorem run_copy_blk (w : World) (ty : TypeId) (g o dLen dCap : Nat) (X : List Value) (hg : Blk w g X) (a : Addr) (sLen c : Nat) (r : List Fd) (hr : Src w (some a) r) (hn : r.length = Nat.min sLen dLen) (hfit : o + r.length * 4 ≤ X.length) :
    (Builtin.copy_ #[32, 32] ty #[.slice (some ⟨g, o, none⟩) dLen dCap, .slice (some a) sLen c]).run Tryz.prog w = .ok (goInt r.length) (w.setRow g (splice X o (flatF r)).toArray) := by
  obtain ⟨i0, hi0, hz0, hz1, hz2⟩ := size30
  have hf := run_firstCells_some (P := Tryz.prog) w i0.size r.length a sLen c (flatF r) (by rw [hz1, flatF_len]) (hr.2 a rfl)
  have hst := run_storeCells_at Tryz.prog g o 64 (flatF r) 0 X.toArray w hg (by simpa [flatF_len] using hfit) (flatF_one r)
  simp [Builtin.copy_, run_underlying Tryz.underlying32, Builtin.lenOf, sizeOf, typeInfo, hi0, ← hn, hf, hst, splice]

theorem run_clear_blk (w : World) (ty : TypeId) (g o c : Nat) (X : List Value) (hg : Blk w g X) (hfit : o + 4 ≤ X.length) :
    (Builtin.clear_ #[32] ty #[.slice (some ⟨g, o, none⟩) 1 c]).run Tryz.prog w = .ok (.tuple #[]) (w.setRow g (splice X o (cellsF noF)).toArray) := by
  obtain ⟨i0, hi0, hz0, hz1, hz2⟩ := size30
  have hst := run_storeCells_at Tryz.prog g o 64 (cellsF noF) 0 X.toArray w hg (by simpa [cellsF] using hfit) (by intro v hv; simp [cellsF] at hv; rcases hv with rfl | rfl | rfl | rfl <;> rfl)
  have hz : (Builtin.zeroCells (aggF noF).cells 1).toList = cellsF noF := by kernel_rfl
  simp [Builtin.clear_, run_underlying Tryz.underlying32, zeroValue, typeInfo, hi0, hz0, hz, hst, splice]

set_option maxRecDepth 100000 in
theorem clone_ok (v : Value) (l : List Fd) (w : World) (h : RecAt w v l) (hl : l.length * 48 ≤ 140737488355328) : Calls Tryz.prog 38 #[v] w (OwnPost l w) := by
  have HR := Lib.hid (fun (W : World) (u : Upd [] w W) => h.keep u)
  obtain ⟨a, cap, rfl, h1, h2, h3⟩ := h
  cases a with
  | none =>
    have hn : l = [] := by
      cases l with
      | nil => rfl
      | cons x l => obtain ⟨b, off, e, _⟩ := h3 0 (by simp); cases e
    subst hn
    have hop : ∀ W, (binOp .eql 32 (.slice none 0 cap) (.slice none 0 0)).run Tryz.prog W = .ok (.bool true) W := fun W => Lib.run_eql_slice_nil W _ _ _ _ _ _ _ Tryz.underlying32
    go_enter Tryz.func38, Tryz.ntmps38
    go_wp2_with fail
    go_ret
    exact ⟨_, rfl, ⟨rfl, .inl ⟨rfl, rfl⟩⟩, Upd.refl _ _⟩
  | some ad =>
    clear h3
    have hop : ∀ W, (binOp .eql 32 (.slice (some ad) l.length cap) (.slice none 0 0)).run Tryz.prog W = .ok (.bool false) W := fun W => Lib.run_eql_slice_nil W _ _ _ _ _ _ _ Tryz.underlying32
    go_enter Tryz.func38, Tryz.ntmps38
    go_wp2_with (at_builtin; refine wpList_append_rec rfl _ _ rfl (l := []) rfl (own_empty _) rfl (HR.out _ ((Upd.refl _ _).alloc _)).src.2 ?c1 ?c2 ?_)
    case c1 => simp; omega
    case c2 => simp
    intro v' w1 hown hgrow
    have HO : Hid (Own w1 w.heap.size v' l ∧ Upd [] w w1) := Lib.hid ⟨by simpa using hown, ((Upd.refl [] w).alloc _).grown hgrow (fun k hk => by simp [Value.ownBlock] at hk; omega)⟩
    clear hown hgrow
    go_wp2_with fail
    go_ret
    exact ⟨_, rfl, HO.out.1, HO.out.2⟩

theorem cells_src {w : World} {g : Nat} {X : List Value} (hg : Blk w g X) {o : Nat} {r : List Fd} (h : (X.drop o).take (r.length * 4) = flatF r) : Src w (some ⟨g, o, none⟩) r := by
  refine ⟨fun q => (by cases q), fun ad q j u hu => ?_⟩
  cases q
  have hj : j < r.length * 4 := by
    rcases Nat.lt_or_ge j (flatF r).length with h | h
    · rwa [flatF_len] at h
    · rw [List.getElem?_eq_none h] at hu; cases hu
  rw [← h, List.getElem?_take_of_lt hj, List.getElem?_drop] at hu
  rw [Go.WideShapes.add_plain, cell_blk hg]
  simpa using hu

theorem flat_mid {L : List Value} {l1 l2 : List Fd} {n : Nat} (h : L.take n = flatF (l1 ++ l2)) (hn : n = (l1 ++ l2).length * 4) : (L.drop (l1.length * 4)).take (l2.length * 4) = flatF l2 := by
  have e : l2.length * 4 = n - l1.length * 4 := by rw [hn]; simp; omega
  rw [e, ← List.drop_take, h, flatF_app, List.drop_left' (flatF_len l1)]

theorem step_append_run {ops : Array Oper} {o : Oper} {a : Act} {w : World} {K : Act → World → Prop} {Q : Exit → Act → World → Prop} {E : Prop}
    (hg : o.guard = none) (d x : Operand) (dT sT : TypeId) (hop : o.op = Op.call { callee := Callee.builtin Builtin.append, args := #[d, x], argTypes := #[dT, sT] })
    (v u : Value) (hd : a.eval d = v) (hx : a.eval x = u) {v' : Value} {w' : World} (hr : (Builtin.append_ #[dT, sT] o.type #[v, u]).run Tryz.prog w = .ok v' w') (hK : K (a.put o.dst v') w') :
    if Region.wanted o (yielded ops a.tmps) = true then Oper.wp Tryz.prog o a w K Q else E := by
  have hw : Region.wanted o (yielded ops a.tmps) = true := by simp [Region.wanted, hg]
  rw [if_pos hw]
  unfold Oper.wp
  simp [execOp, hop, resolve, invoke, builtin, hd, hx, hr, Result.andThen]
  exact hK

theorem wpList_clear_run {w : World} {ops : Array Oper} {rest : List Oper} {o : Oper} {a : Act} {Q : Exit → Act → World → Prop} (hgd : o.guard = none) (d : Operand) (t : TypeId)
    (ho : o.op = .call { callee := .builtin .clear, args := #[d], argTypes := #[t] }) (v : Value) (hd : a.eval d = v) {v' : Value} {w' : World}
    (hr : (Builtin.clear_ #[t] o.type #[v]).run Tryz.prog w = .ok v' w') (h : wpList Tryz.prog ops Q rest (a.put o.dst v') w') : wpList Tryz.prog ops Q (o :: rest) a w :=
  wpList_plain hgd fun _ hK => by
    unfold Oper.wp execOp
    simp only [ho, resolve, invoke, builtin, Sem.run_bind, Sem.run_pure, Result.andThen_ok, List.map_toArray, List.map_cons, List.map_nil, hd, hr]
    exact hK _ _ h

set_option maxRecDepth 100000 in
set_option maxHeartbeats 1600000 in
theorem delete_walk (w : World) (g n cap i m k c2 : Nat) (A2 A3 : Addr) (W1 W2 : World) (h1 : i + 1 ≤ n) (h2 : n ≤ cap) (h3 : cap ≤ 9223372036854775807) (_hk : k ≤ n)
    (hsA : ∀ W, (Instr.slice 32 (.slice (some ⟨g, 0, none⟩) n cap) none (some (.int .i64 i)) none).run Tryz.prog W = .ok (.slice (some ⟨g, 0, none⟩) i cap) W)
    (hsB : ∀ W, (Instr.slice 32 (.slice (some ⟨g, 0, none⟩) n cap) (some (.int .i64 ((i : Int) + 1))) none none).run Tryz.prog W = .ok (.slice (some A2) m c2) W)
    (hsC : ∀ W, (Instr.slice 32 (.slice (some ⟨g, 0, none⟩) k cap) (some (.int .i64 k)) (some (.int .i64 n)) none).run Tryz.prog W = .ok (.slice (some A3) 1 (cap - k)) W)
    (hap : ∀ ty, (Builtin.append_ #[32, 32] ty #[.slice (some ⟨g, 0, none⟩) i cap, .slice (some A2) m c2]).run Tryz.prog w.drew = .ok (.slice (some ⟨g, 0, none⟩) k cap) W1)
    (hcl : ∀ ty c, (Builtin.clear_ #[32] ty #[.slice (some A3) 1 c]).run Tryz.prog W1 = .ok (.tuple #[]) W2) :
    Calls Tryz.prog 140 #[.slice (some ⟨g, 0, none⟩) n cap, .int .i64 i, .int .i64 ((i : Int) + 1)] w fun e w' => e = .returned (.slice (some ⟨g, 0, none⟩) k cap) ∧ w' = W2 := by
  have hwr : IntKind.i64.wrap ((i : Int) + 1) = (i : Int) + 1 := IntWalk.i64_in _ (by omega)
  have hne : ¬ ((i : Int) = (i : Int) + 1) := by omega
  go_enter Tryz.func140, Tryz.ntmps140
  go_wp2_with fail
  go_region_held3 (fun _ => True) (exact trivial) (first | (refine step_append_run (by rfl) _ _ 32 32 (by rfl) _ _ (by rfl) (by rfl) (by exact hap _) ?_))
  go_wp2_with (at_builtin; refine wpList_clear_run rfl _ 32 rfl _ rfl (hcl _ _) ?_)
  go_ret
  exact ⟨rfl, rfl⟩

theorem delete_ok (w : World) {base g cap : Nat} {l1 l2 : List Fd} {x : Fd} (h : Own w base (.slice (some ⟨g, 0, none⟩) (l1 ++ x :: l2).length cap) (l1 ++ x :: l2)) :
    Calls Tryz.prog 140 #[.slice (some ⟨g, 0, none⟩) (l1 ++ x :: l2).length cap, .int .i64 l1.length, .int .i64 ((l1.length : Int) + 1)] w fun e w' => e = .returned (.slice (some ⟨g, 0, none⟩) (l1 ++ l2).length cap) ∧ Own w' base (.slice (some ⟨g, 0, none⟩) (l1 ++ l2).length cap) (l1 ++ l2) ∧ Upd [g] w w' := by
  obtain ⟨g', cap', X, hv, hbg, hB, r1, r2, r3, r4⟩ := h.blk (by simp; omega)
  simp only [Value.slice.injEq, Option.some.injEq, Addr.mk.injEq, and_true, true_and] at hv
  obtain ⟨rfl, rfl⟩ := hv
  have hlen : (l1 ++ x :: l2).length = l1.length + 1 + l2.length := by simp; omega
  have hlen2 : (l1 ++ l2).length = l1.length + l2.length := by simp
  have hc : cap ≤ 9223372036854775807 := by unfold maxLen at r2; omega
  have hsrc : Src w (some (if cap = l1.length + 1 then ⟨g, 0, none⟩ else (⟨g, 0, none⟩ : Addr).add ((l1.length + 1) * 4))) l2 := by
    by_cases hq : cap = l1.length + 1
    · have : l2 = [] := List.eq_nil_of_length_eq_zero (by omega)
      subst this
      exact src_nil _ _
    · rw [if_neg hq, Go.WideShapes.add_plain, Nat.zero_add]
      have := flat_mid (L := X) (l1 := l1 ++ [x]) (l2 := l2) (n := (l1 ++ x :: l2).length * 4) (by rw [r4]; simp) (by simp)
      rw [show (l1 ++ [x]).length = l1.length + 1 by simp] at this
      exact cells_src hB this
  have hdB : Blk w.drew g X := hB
  have hap := fun ty => run_append_blk w.drew ty g l1.length cap X hdB _ (cap - (l1.length + 1)) l2 hsrc (by omega) (by omega)
  have hB1 := hdB.set (splice X (l1.length * 4) (flatF l2))
  have hl1 : l1.length * 4 ≤ X.length := by omega
  have hXl : (splice X (l1.length * 4) (flatF l2)).length = X.length := length_splice _ _ _ (by rw [flatF_len]; omega)
  have hcl := fun ty c => run_clear_blk _ ty g ((l1.length + l2.length) * 4) c _ hB1 (by rw [hXl]; omega)
  have hwalk := delete_walk w g (l1 ++ x :: l2).length cap l1.length l2.length (l1.length + l2.length) (cap - (l1.length + 1)) _ ⟨g, (l1.length + l2.length) * 4, none⟩ _ _ (by omega) r1 hc (by omega)
    (fun W => by
      rw [slice_hi ⟨g, 0, none⟩ _ cap l1.length (by omega) W, Go.WideShapes.add_plain, ite_self])
    (fun W => by
      have := slice_lo ⟨g, 0, none⟩ (l1 ++ x :: l2).length cap (l1.length + 1) (by omega) W
      rw [show (l1 ++ x :: l2).length - (l1.length + 1) = l2.length by omega] at this
      exact this)
    (fun W => by
      rw [run_slice_lh (w := W) 32 (some ⟨g, 0, none⟩) (l1.length + l2.length) cap elem24 .i64 .i64 _ _ (by omega) (by omega) (by omega), size24]
      simp only [Result.andThen, sliced, Int.toNat_natCast]
      rw [if_neg (by omega), show (l1 ++ x :: l2).length - (l1.length + l2.length) = 1 by omega]
      simp only [Option.map, Go.WideShapes.add_plain, Nat.zero_add])
    hap hcl
  refine hwalk.mono ?_
  rintro e w' ⟨rfl, rfl⟩
  rw [hlen2]
  refine ⟨rfl, ?_, ?_⟩
  · refine (hB1.set _).own (by simp) hbg (by simp; omega) r2 ?_ ?_
    · rw [length_splice _ _ _ (by rw [hXl]; simp [cellsF]; omega), hXl, r3]
    · rw [hlen2, take_splice _ _ _ (by rw [hXl]; omega)]
      have := take_splice2 X (l1.length * 4) (flatF l2) hl1
      rw [flatF_len, ← Nat.add_mul] at this
      rw [this, flat_pre r4 rfl, flatF_app]
  · exact (((Upd.refl [g] w).drew).setRow (Or.inr (by simp)) _).setRow (Or.inr (by simp)) _
end Go.Proofs.YtajppgngoffonaaGreatDoor

namespace Go.Proofs.YtajppgngoffonaaGreatDoor
open Go.RowKit

theorem Own.keep {w w' : World} {base : Nat} {v : Value} {l : List Fd} (h : Own w base v l) (u : Upd [] w w') : Own w' base v l := own_upd h u (by simp)

set_option maxRecDepth 100000 in
set_option maxHeartbeats 800000 in
theorem drop_ok (v : Value) (l : List Fd) (k : ByteArray) (w : World) (h : RecAt w v l) (hl : l.length * 48 ≤ 140737488355328) : Calls Tryz.prog 105 #[v, .string k] w (OwnPost (dropF l k) w) := by
  have HR := Lib.hid (fun (W : World) (u : Upd [] w W) => h.keep u)
  have HC := Lib.hid (clone_ok v l w h hl)
  obtain ⟨a, cap, rfl, -, -⟩ := h.isSlice
  rcases posF_cases l k with ⟨hp, hn, -⟩ | ⟨i, hi, hp, hk, hn, -⟩
  · rw [dropF_miss hn]
    have HP := Lib.hid hp
    clear hp hn h
    go_enter Tryz.func105, Tryz.ntmps105
    go_wp2_with fail
    refine HC.out.mono ?_
    rintro e w1 ⟨v1, rfl, hown, hu⟩
    have HO := Lib.hid hown
    have HU := Lib.hid hu
    clear hown hu HC
    go_wp2_with fail
    refine (at_ok _ l k _ (HR.out _ HU.out)).mono ?_
    rintro e w2 ⟨rfl, hu2⟩
    have HO2 : Hid (Own w2 w.heap.size v1 l ∧ Upd [] w w2) := Lib.hid ⟨Own.keep HO.out hu2, HU.out.trans hu2⟩
    rw [HP.out]
    clear hu2 HO HU
    go_wp2_with fail
    go_ret
    exact ⟨v1, rfl, HO2.out.1, HO2.out.2⟩
  · have hsp : l = l.take i ++ l[i] :: l.drop (i + 1) := by rw [List.getElem_cons_drop]; simp
    have hn' : ∀ y ∈ l.take i, y.nm ≠ k := fun y hy => by
      obtain ⟨j, hj, rfl⟩ := List.mem_iff_getElem.1 hy
      rw [List.getElem_take]
      exact hn j (by rw [List.length_take] at hj; omega)
    have hlen : (l.take i).length = i := by simp; omega
    generalize l.take i = l1 at *
    generalize l[i] = x at *
    generalize l.drop (i + 1) = l2 at *
    subst hsp
    rw [dropF_hit hn' hk]
    subst hlen
    have HP := Lib.hid hp
    have hb : (l1.length : Int) + 1 ≤ 9223372036854775807 := by simp at hl; omega
    clear hp hn hn' h hk
    generalize hN : (l1 ++ x :: l2).length = N at *
    have HN := Lib.hid hN
    clear hN
    go_enter Tryz.func105, Tryz.ntmps105
    go_wp2_with fail
    refine HC.out.mono ?_
    rintro e w1 ⟨v1, rfl, hown, hu⟩
    obtain ⟨g, cap1, X, rfl, hbg, -⟩ := Own.blk (l := l1 ++ x :: l2) hown (by simp; omega)
    rw [HN.out]
    have HO := Lib.hid hown
    have HU := Lib.hid hu
    clear hown hu HC
    go_wp2_with fail
    refine (at_ok _ _ k _ (HR.out _ HU.out)).mono ?_
    rintro e w2 ⟨rfl, hu2⟩
    have hd := delete_ok (l1 := l1) (l2 := l2) (x := x) w2 (Own.keep HO.out hu2)
    rw [HN.out] at hd
    have HO2 : Hid (Upd [] w w2) := Lib.hid (HU.out.trans hu2)
    rw [HP.out]
    clear hu2 HO HU
    have hwr : IntKind.i64.wrap ((l1.length : Int) + 1) = (l1.length : Int) + 1 := IntWalk.i64_in _ (by omega)
    go_wp2_with fail
    refine hd.mono ?_
    rintro e w3 ⟨rfl, hown3, hu3⟩
    have HO3 : Hid (Own w3 w.heap.size (.slice (some ⟨g, 0, none⟩) (l1.length + l2.length) cap1) (l1 ++ l2)) := Lib.hid (by rw [← List.length_append]; exact hown3)
    have HU3 : Hid (Upd [] w w3) := Lib.hid (HO2.out.next hu3 (fun q hq hlt => by simp at hq; omega))
    clear hown3 hu3 hd
    go_wp2_with fail
    go_ret
    exact ⟨_, rfl, HO3.out, HU3.out⟩
end Go.Proofs.YtajppgngoffonaaGreatDoor

namespace Go.Proofs.YtajppgngoffonaaGreatDoor
open Go.RowKit

theorem wpList_copy_run {w : World} {ops : Array Oper} {rest : List Oper} {o : Oper} {a : Act} {Q : Exit → Act → World → Prop} (hgd : o.guard = none) (d s : Operand) (t t' : TypeId)
    (ho : o.op = .call { callee := .builtin .copy, args := #[d, s], argTypes := #[t, t'] }) (v u : Value) (hd : a.eval d = v) (hs : a.eval s = u) {v' : Value} {w' : World}
    (hr : (Builtin.copy_ #[t, t'] o.type #[v, u]).run Tryz.prog w = .ok v' w') (h : wpList Tryz.prog ops Q rest (a.put o.dst v') w') : wpList Tryz.prog ops Q (o :: rest) a w :=
  wpList_plain hgd fun _ hK => by
    unfold Oper.wp execOp
    simp only [ho, resolve, invoke, builtin, Sem.run_bind, Sem.run_pure, Result.andThen_ok, List.map_toArray, List.map_cons, List.map_nil, hd, hs, hr]
    exact hK _ _ h

theorem step_copy_run {ops : Array Oper} {o : Oper} {a : Act} {w : World} {K : Act → World → Prop} {Q : Exit → Act → World → Prop} {E : Prop}
    (hg : o.guard = none) (d x : Operand) (dT sT : TypeId) (hop : o.op = Op.call { callee := Callee.builtin Builtin.copy, args := #[d, x], argTypes := #[dT, sT] })
    (v u : Value) (hd : a.eval d = v) (hx : a.eval x = u) {v' : Value} {w' : World} (hr : (Builtin.copy_ #[dT, sT] o.type #[v, u]).run Tryz.prog w = .ok v' w') (hK : K (a.put o.dst v') w') :
    if Region.wanted o (yielded ops a.tmps) = true then Oper.wp Tryz.prog o a w K Q else E := by
  have hw : Region.wanted o (yielded ops a.tmps) = true := by simp [Region.wanted, hg]
  rw [if_pos hw]
  unfold Oper.wp
  simp [execOp, hop, resolve, invoke, builtin, hd, hx, hr, Result.andThen]
  exact hK

theorem wpList_append_run' {w : World} {ops : Array Oper} {rest : List Oper} {o : Oper} {a : Act} {Q : Exit → Act → World → Prop} (hgd : o.guard = none) (s x : Operand) (t tn : TypeId)
    (ho : o.op = .call { callee := .builtin .append, args := #[s, x], argTypes := #[t, tn] }) (vs vx : Value) (hs : a.eval s = vs) (hx : a.eval x = vx)
    {v' : Value} {w' : World} (hr : (Builtin.append_ #[t, tn] o.type #[vs, vx]).run Tryz.prog w = .ok v' w') (h : wpList Tryz.prog ops Q rest (a.put o.dst v') w') : wpList Tryz.prog ops Q (o :: rest) a w :=
  wpList_plain hgd fun _ hK => by
    unfold Oper.wp execOp
    simp only [ho, resolve, invoke, builtin, Sem.run_bind, Sem.run_pure, Result.andThen_ok, List.map_toArray, List.map_cons, List.map_nil, hs, hx, hr]
    exact hK _ _ h

set_option maxRecDepth 100000 in
set_option maxHeartbeats 1600000 in
/-- There is room. -/
theorem insert_room_walk (w : World) (g B n n1 cap i p p1 c0 c1 : Nat) (v0 : Value) (D0 D1 : Addr) (r1 r2 : Value) (W1 W2 : World) (h1 : i + 1 ≤ n) (h2 : n + 1 ≤ cap) (h3 : cap ≤ 9223372036854775807)
    (hs0 : ∀ W, (Instr.slice 32 (.slice (some ⟨g, 0, none⟩) n cap) (some (.int .i64 i)) none none).run Tryz.prog W = .ok v0 W)
    (hsS : ∀ W, (Instr.slice 32 (.slice (some ⟨g, 0, none⟩) n cap) none (some (.int .i64 ((n : Int) + 1))) none).run Tryz.prog W = .ok (.slice (some ⟨g, 0, none⟩) n1 cap) W)
    (hsL1 : ∀ W, (Instr.slice 32 (.slice (some ⟨g, 0, none⟩) n1 cap) (some (.int .i64 ((i : Int) + 1))) none none).run Tryz.prog W = .ok (.slice (some D1) p c1) W)
    (hsL0 : ∀ W, (Instr.slice 32 (.slice (some ⟨g, 0, none⟩) n1 cap) (some (.int .i64 i)) none none).run Tryz.prog W = .ok (.slice (some D0) p1 c0) W)
    (hov : (callFunc 138 #[.slice (some ⟨B, 0, none⟩) 1 1, .slice (some D1) p c1]).run Tryz.prog w = .ok (.value (.bool false)) w)
    (hc1 : ∀ ty, (Builtin.copy_ #[32, 32] ty #[.slice (some D1) p c1, .slice (some D0) p1 c0]).run Tryz.prog w.drew = .ok r1 W1)
    (hc2 : ∀ ty, (Builtin.copy_ #[32, 32] ty #[.slice (some D0) p1 c0, .slice (some ⟨B, 0, none⟩) 1 1]).run Tryz.prog W1 = .ok r2 W2) :
    Calls Tryz.prog 103 #[.slice (some ⟨g, 0, none⟩) n cap, .int .i64 i, .slice (some ⟨B, 0, none⟩) 1 1] w fun e w' => e = .returned (.slice (some ⟨g, 0, none⟩) n1 cap) ∧ w' = W2 := by
  have hwr : IntKind.i64.wrap ((i : Int) + 1) = (i : Int) + 1 := IntWalk.i64_in _ (by omega)
  have hwn : IntKind.i64.wrap ((n : Int) + 1) = (n : Int) + 1 := IntWalk.i64_in _ (by omega)
  have hne : ¬ ((i : Int) = (n : Int)) := by omega
  have hle : ¬ ((cap : Int) < (n : Int) + 1) := by omega
  go_enter Tryz.func103, Tryz.ntmps103
  go_wp2_with (simp only [hov])
  go_region_held3 (fun _ => True) (exact trivial) (first | (refine step_copy_run (by rfl) _ _ 32 32 (by rfl) _ _ (by rfl) (by rfl) (by exact hc1 _) ?_))
  go_wp2_with (at_builtin; refine wpList_copy_run rfl _ _ 32 32 rfl _ _ rfl rfl (hc2 _) ?_)
  go_ret
  exact ⟨rfl, rfl⟩

set_option maxRecDepth 100000 in
set_option maxHeartbeats 1600000 in
/-- There is no room: a new row. -/
theorem insert_grow_walk (w : World) (g B n n1 cap i p p1 c0 d0 d1 G : Nat) (_v0 : Value) (S0 N N0 N1 : Addr) (r1 r2 : Value) (W1 W2 W3 : World) (h1 : i + 1 ≤ n) (h2 : n ≤ cap) (h3 : cap ≤ 9223372036854775806) (hc : cap ≤ n)
    (hs0 : ∀ W, (Instr.slice 32 (.slice (some ⟨g, 0, none⟩) n cap) (some (.int .i64 i)) none none).run Tryz.prog W = .ok (.slice (some S0) p c0) W)
    (hsA : ∀ W, (Instr.slice 32 (.slice (some ⟨g, 0, none⟩) n cap) none (some (.int .i64 i)) none).run Tryz.prog W = .ok (.slice (some ⟨g, 0, none⟩) i cap) W)
    (hap : ∀ ty, (Builtin.append_ #[32, 3] ty #[.slice (some ⟨g, 0, none⟩) i cap, .int .i64 ((n : Int) + 1 - i)]).run Tryz.prog w = .ok (.slice (some N) n1 G) W1)
    (hsN0 : ∀ W, (Instr.slice 32 (.slice (some N) n1 G) (some (.int .i64 i)) none none).run Tryz.prog W = .ok (.slice (some N0) p1 d0) W)
    (hsN1 : ∀ W, (Instr.slice 32 (.slice (some N) n1 G) (some (.int .i64 ((i : Int) + 1))) none none).run Tryz.prog W = .ok (.slice (some N1) p d1) W)
    (hc1 : ∀ ty, (Builtin.copy_ #[32, 32] ty #[.slice (some N0) p1 d0, .slice (some ⟨B, 0, none⟩) 1 1]).run Tryz.prog W1 = .ok r1 W2)
    (hc2 : ∀ ty, (Builtin.copy_ #[32, 32] ty #[.slice (some N1) p d1, .slice (some S0) p c0]).run Tryz.prog W2.drew = .ok r2 W3) :
    Calls Tryz.prog 103 #[.slice (some ⟨g, 0, none⟩) n cap, .int .i64 i, .slice (some ⟨B, 0, none⟩) 1 1] w fun e w' => e = .returned (.slice (some N) n1 G) ∧ w' = W3 := by
  have hwr : IntKind.i64.wrap ((i : Int) + 1) = (i : Int) + 1 := IntWalk.i64_in _ (by omega)
  have hwn : IntKind.i64.wrap ((n : Int) + 1) = (n : Int) + 1 := IntWalk.i64_in _ (by omega)
  have hwi : IntKind.i64.wrap ((n : Int) + 1 - i) = (n : Int) + 1 - i := IntWalk.i64_in _ (by omega)
  have hne : ¬ ((i : Int) = (n : Int)) := by omega
  have hle : (cap : Int) < (n : Int) + 1 := by omega
  go_enter Tryz.func103, Tryz.ntmps103
  go_wp2_with (first
    | (at_builtin; refine wpList_append_run' rfl _ _ 32 3 rfl _ _ rfl rfl (hap _) ?_)
    | (at_builtin; refine wpList_copy_run rfl _ _ 32 32 rfl _ _ rfl rfl (hc1 _) ?_))
  go_region_held3 (fun _ => True) (exact trivial) (first | (refine step_copy_run (by rfl) _ _ 32 32 (by rfl) _ _ (by rfl) (by rfl) (by exact hc2 _) ?_))
  go_wp2_with fail
  go_ret
  exact ⟨rfl, rfl⟩
end Go.Proofs.YtajppgngoffonaaGreatDoor

namespace Go.Proofs.YtajppgngoffonaaGreatDoor
open Go.RowKit

theorem overlaps_apart (w : World) (B g o p c : Nat) (x : Fd) (X : List Value) (hB : w.heap[B]? = some (boxF x)) (hX : Blk w g X) (hne : B ≠ g) (hX0 : X.length ≠ 0) :
    (callFunc 138 #[.slice (some ⟨B, 0, none⟩) 1 1, .slice (some ⟨g, o, none⟩) p c]).run Tryz.prog w = .ok (.value (.bool false)) w := by
  rw [run_callFunc_extern Tryz.func138 (by kernel_rfl) (by kernel_rfl) (by kernel_rfl) (e := Extern.SlicesOverlaps.overlaps #[32, 32] #[4]) (by kernel_rfl),
    Lib.run_overlaps_apart w 32 4 64 Tryz.underlying32 4 (fun w => by kernel_rfl) ⟨B, 0, none⟩ ⟨g, o, none⟩ 1 1 p c hne 64 64 4 X.length (by simp [World.shape?, hB, boxF]) (by have := hX; unfold Blk at this; simp [World.shape?, this]) hX0 (frozen_blk hB 0) (frozen_blk hB 4)]
  rfl

set_option maxRecDepth 100000 in
set_option maxHeartbeats 1600000 in
theorem insert_end (w : World) {base B : Nat} {v : Value} {l : List Fd} {x : Fd} (h : Own w base v l) (hB : w.heap[B]? = some (boxF x)) (hbase : base ≤ w.heap.size) (hl : (l.length + 1) * 48 ≤ 140737488355328) :
    Calls Tryz.prog 103 #[v, .int .i64 l.length, .slice (some ⟨B, 0, none⟩) 1 1] w fun e w' => ∃ v', e = .returned v' ∧ Own w' base v' (l ++ [x]) ∧ w.grownBy w' v.ownBlock := by
  obtain ⟨A, c, hs, -⟩ := rec_lo h.recAt l [] (by simp)
  obtain ⟨a, cap, rfl, h1, h2⟩ := h.recAt.isSlice
  have HO := Lib.hid h
  clear h
  have HB := Lib.hid hB
  clear hB
  go_enter Tryz.func103, Tryz.ntmps103
  go_wp2_with (at_builtin; refine wpList_append_rec rfl _ _ rfl (r := [x]) rfl HO.out rfl (src_box HB.out) ?c1 ?c2 ?_)
  case c1 => simpa using hl
  case c2 => exact hbase
  intro v' w1 hown hgrow
  have HF := Lib.hid (And.intro hown hgrow)
  clear hown hgrow
  go_wp2_with fail
  go_ret
  exact ⟨v', rfl, HF.out.1, HF.out.2⟩

theorem slice_lh (g n cap lo : Nat) (h1 : lo ≤ n) (_h2 : n ≤ cap) (W : World) (h3 : lo < cap) : (Instr.slice 32 (.slice (some ⟨g, 0, none⟩) n cap) (some (.int .i64 lo)) none none).run Tryz.prog W = .ok (.slice (some ⟨g, lo * 4, none⟩) (n - lo) (cap - lo)) W := by
  rw [slice_lo ⟨g, 0, none⟩ n cap lo h1 W, if_neg (by omega), Go.WideShapes.add_plain, Nat.zero_add]

theorem slice_h0 (g n cap hi : Nat) (h1 : hi ≤ cap) (W : World) : (Instr.slice 32 (.slice (some ⟨g, 0, none⟩) n cap) none (some (.int .i64 hi)) none).run Tryz.prog W = .ok (.slice (some ⟨g, 0, none⟩) hi cap) W := by
  rw [slice_hi ⟨g, 0, none⟩ n cap hi h1 W, Go.WideShapes.add_plain, ite_self]

theorem src_one {w : World} {B : Nat} {x : Fd} (hB : w.heap[B]? = some (boxF x)) : Src w (some ⟨B, 0, none⟩) [x] := src_box hB

theorem insert_room (w : World) {base B g cap : Nat} {l1 l2 : List Fd} {x : Fd} (h : Own w base (.slice (some ⟨g, 0, none⟩) (l1 ++ l2).length cap) (l1 ++ l2)) (hB : w.heap[B]? = some (boxF x)) (hne : B ≠ g) (h2 : 0 < l2.length) (hroom : (l1 ++ l2).length + 1 ≤ cap) :
    Calls Tryz.prog 103 #[.slice (some ⟨g, 0, none⟩) (l1 ++ l2).length cap, .int .i64 l1.length, .slice (some ⟨B, 0, none⟩) 1 1] w fun e w' => e = .returned (.slice (some ⟨g, 0, none⟩) ((l1 ++ l2).length + 1) cap) ∧ Own w' base (.slice (some ⟨g, 0, none⟩) ((l1 ++ l2).length + 1) cap) (l1 ++ x :: l2) ∧ Upd [g] w w' := by
  obtain ⟨g', cap', X, hv, hbg, hX, r1, r2, r3, r4⟩ := h.blk (by simp; omega)
  simp only [Value.slice.injEq, Option.some.injEq, Addr.mk.injEq, and_true, true_and] at hv
  obtain ⟨rfl, rfl⟩ := hv
  have hlen : (l1 ++ l2).length = l1.length + l2.length := by simp
  have hc : cap ≤ 9223372036854775807 := by unfold maxLen at r2; omega
  have hov := overlaps_apart w B g ((l1.length + 1) * 4) l2.length (cap - (l1.length + 1)) x X hB hX hne (by omega)
  have hdX : Blk w.drew g X := hX
  have hsrc2 : Src w.drew (some ⟨g, l1.length * 4, none⟩) l2 := cells_src hdX (flat_mid r4 rfl)
  have hc1 := fun ty => run_copy_blk w.drew ty g ((l1.length + 1) * 4) l2.length (cap - (l1.length + 1)) X hdX ⟨g, l1.length * 4, none⟩ (l2.length + 1) (cap - l1.length) l2 hsrc2 (by simp only [Nat.min_def]; split <;> omega) (by omega)
  have hX1 := hdX.set (splice X ((l1.length + 1) * 4) (flatF l2))
  have hXl : (splice X ((l1.length + 1) * 4) (flatF l2)).length = X.length := length_splice _ _ _ (by rw [flatF_len]; omega)
  have hB1 : (w.drew.setRow g (splice X ((l1.length + 1) * 4) (flatF l2)).toArray).heap[B]? = some (boxF x) := by
    rw [setRow_other _ g B _ (fun e => hne e)]; exact hB
  have hc2 := fun ty => run_copy_blk _ ty g (l1.length * 4) (l2.length + 1) (cap - l1.length) _ hX1 ⟨B, 0, none⟩ 1 1 [x] (src_one hB1) (by simp only [Nat.min_def]; split <;> simp_all) (by rw [hXl]; simp; omega)
  have hwalk := insert_room_walk w g B (l1 ++ l2).length ((l1 ++ l2).length + 1) cap l1.length l2.length (l2.length + 1) (cap - l1.length) (cap - (l1.length + 1)) _ _ _ _ _ _ _ (by omega) hroom hc
    (fun W => slice_lh g _ cap l1.length (by omega) r1 W (by omega))
    (fun W => by have := slice_h0 g (l1 ++ l2).length cap ((l1 ++ l2).length + 1) hroom W; simpa using this)
    (fun W => by
      have := slice_lh g ((l1 ++ l2).length + 1) cap (l1.length + 1) (by omega) hroom W (by omega)
      rw [show (l1 ++ l2).length + 1 - (l1.length + 1) = l2.length by omega] at this
      exact this)
    (fun W => by
      have := slice_lh g ((l1 ++ l2).length + 1) cap l1.length (by omega) hroom W (by omega)
      rw [show (l1 ++ l2).length + 1 - l1.length = l2.length + 1 by omega] at this
      exact this) hov hc1 hc2
  refine hwalk.mono ?_
  rintro e w' ⟨rfl, rfl⟩
  refine ⟨rfl, ?_, ?_⟩
  · have hl1 : l1.length * 4 ≤ X.length := by omega
    have hl2 : (l1.length + 1) * 4 ≤ X.length := by omega
    refine (hX1.set _).own (by simp; omega) hbg (by simp; omega) r2 ?_ ?_
    · rw [length_splice _ _ _ (by rw [hXl, flatF_len]; simp; omega), hXl, r3]
    · have e1 : (flatF [x]).length = 4 := by rw [flatF_len]; rfl
      have t1 := take_splice2 (splice X ((l1.length + 1) * 4) (flatF l2)) (l1.length * 4) (flatF [x]) (by rw [hXl]; omega)
      have t2 := drop_splice2 (splice X ((l1.length + 1) * 4) (flatF l2)) (l1.length * 4) (flatF [x]) (by rw [hXl]; omega)
      have t3 := drop_splice X ((l1.length + 1) * 4) (flatF l2) hl2
      have t4 : (splice X ((l1.length + 1) * 4) (flatF l2)).take (l1.length * 4) = flatF l1 := by
        rw [take_pre (take_splice X ((l1.length + 1) * 4) (flatF l2) hl2) (by omega), List.take_take, Nat.min_eq_left (by omega)]
        exact flat_pre r4 rfl
      rw [e1, show l1.length * 4 + 4 = (l1.length + 1) * 4 by omega] at t1 t2
      rw [t3] at t2
      rw [t4] at t1
      rw [show (l1 ++ x :: l2).length * 4 = (l1.length + 1) * 4 + l2.length * 4 by simp; omega, List.take_add, t1, t2, List.take_left' (flatF_len l2)]
      rw [show l1 ++ x :: l2 = l1 ++ [x] ++ l2 by simp, flatF_app, flatF_app]
  · exact (((Upd.refl [g] w).drew).setRow (Or.inr (by simp)) _).setRow (Or.inr (by simp)) _

theorem insert_grow (w : World) {base B g cap : Nat} {l1 l2 : List Fd} {x : Fd} (h : Own w base (.slice (some ⟨g, 0, none⟩) (l1 ++ l2).length cap) (l1 ++ l2)) (hB : w.heap[B]? = some (boxF x)) (hbase : base ≤ w.heap.size) (h2 : 0 < l2.length) (hroom : cap < (l1 ++ l2).length + 1) (hl : ((l1 ++ l2).length + 1) * 48 ≤ 140737488355328) :
    Calls Tryz.prog 103 #[.slice (some ⟨g, 0, none⟩) (l1 ++ l2).length cap, .int .i64 l1.length, .slice (some ⟨B, 0, none⟩) 1 1] w fun e w' => ∃ v', e = .returned v' ∧ Own w' base v' (l1 ++ x :: l2) ∧ Upd [] w w' := by
  obtain ⟨g', cap', X, hv, hbg, hX, r1, r2, r3, r4⟩ := h.blk (by simp; omega)
  simp only [Value.slice.injEq, Option.some.injEq, Addr.mk.injEq, and_true, true_and] at hv
  obtain ⟨rfl, rfl⟩ := hv
  have hlen : (l1 ++ l2).length = l1.length + l2.length := by simp
  have hc : cap ≤ 9223372036854775806 := by omega
  have hgw := lt_of_blk hX
  have hBw := lt_of_blk hB
  obtain ⟨i0, hi0, hz0, hz1, hz2⟩ := size30
  have hfl1 : X.take (l1.length * 4) = flatF l1 := flat_pre r4 rfl
  have hsrc1 : Src w (some ⟨g, 0, none⟩) l1 := cells_src hX (by simpa using hfl1)
  have hold : (Builtin.firstCells i0.size l1.length (.slice (some ⟨g, 0, none⟩) l1.length cap)).run Tryz.prog w.drew = .ok (flatF l1).toArray w.drew := by
    rw [hz1]
    exact run_firstCells_some w.drew 4 l1.length ⟨g, 0, none⟩ l1.length cap (flatF l1) (flatF_len l1) (fun j u hj => hsrc1.2 _ rfl j u hj)
  have hapz := fun ty => Lib.run_append_grow_zeros (P := Tryz.prog) w 32 3 ty 64 i0 (aggF noF) .i64 .i64 Tryz.underlying32 Tryz.underlying3 hi0 hz0 (some ⟨g, 0, none⟩) l1.length cap (flatF l1) hold (l2.length + 1) (by omega) (by omega) (by omega) (by omega) (by rw [hz2]; omega) (by rw [hz2]; exact growslice_fits (by omega) (by omega))
  have hG1 := grownCap_ge w (l1.length + (l2.length + 1)) cap 64
  have hG2 := grownCap_le_maxLen w (l1.length + (l2.length + 1)) cap 64 (by unfold maxLen; omega)
  generalize hG : grownCap w (l1.length + (l2.length + 1)) cap 64 = G at *
  obtain ⟨Z, hZ⟩ : ∃ Z : List Value, Z = ((flatF l1).toArray ++ Builtin.zeroCells (aggF noF).cells (l2.length + 1) ++ Builtin.zeroCells (aggF noF).cells (G - (l1.length + (l2.length + 1)))).toList := ⟨_, rfl⟩
  have hZl : Z.length = G * 4 := by
    rw [hZ]
    have e : (aggF noF).cells.size = 4 := rfl
    simp [size_zeroCells, e, flatF_len]
    omega
  have hZt : Z.take (l1.length * 4) = flatF l1 := by
    rw [hZ]
    simp only [Array.toList_append, List.append_assoc]
    exact List.take_left' (flatF_len l1)
  have hZa : ((flatF l1).toArray ++ Builtin.zeroCells (aggF noF).cells (l2.length + 1) ++ Builtin.zeroCells (aggF noF).cells (G - (l1.length + (l2.length + 1)))) = Z.toArray := by rw [hZ]
  rw [hZa] at hapz
  clear hZ hZa hG
  have hX1 : Blk (w.drew.alloc (.cells Z.toArray 64)) w.heap.size Z := by unfold Blk; show (w.drew.alloc _).heap[w.drew.heap.size]? = _; rw [heap_alloc, if_pos rfl]
  have hB1 : (w.drew.alloc (.cells Z.toArray 64)).heap[B]? = some (boxF x) := by rw [heap_alloc, if_neg (by show B ≠ w.heap.size; omega)]; exact hB
  have hg1 : Blk (w.drew.alloc (.cells Z.toArray 64)) g X := by unfold Blk; rw [heap_alloc, if_neg (by show g ≠ w.heap.size; omega)]; exact hX
  have hu1 : Upd [] w (w.drew.alloc (.cells Z.toArray 64)) := ((Upd.refl [] w).drew).alloc _
  generalize w.drew.alloc (.cells Z.toArray 64) = W1 at *
  have hc1 := fun ty => run_copy_blk W1 ty w.heap.size (l1.length * 4) (l2.length + 1) (G - l1.length) Z hX1 ⟨B, 0, none⟩ 1 1 [x] (src_one hB1) (by simp only [Nat.min_def]; split <;> simp_all) (by simp; omega)
  have hX2 : Blk (W1.setRow w.heap.size (splice Z (l1.length * 4) (flatF [x])).toArray).drew w.heap.size (splice Z (l1.length * 4) (flatF [x])) := hX1.set _
  have e1 : (flatF [x]).length = 4 := by rw [flatF_len]; rfl
  have hZ2 : (splice Z (l1.length * 4) (flatF [x])).length = Z.length := length_splice _ _ _ (by omega)
  have hg2 : Blk (W1.setRow w.heap.size (splice Z (l1.length * 4) (flatF [x])).toArray).drew g X := by
    unfold Blk
    show (W1.setRow w.heap.size _).heap[g]? = _
    rw [setRow_other _ _ g _ (by omega)]
    exact hg1
  have hsrc2 := cells_src hg2 (flat_mid r4 rfl)
  have hc2 := fun ty => run_copy_blk _ ty w.heap.size ((l1.length + 1) * 4) l2.length (G - (l1.length + 1)) _ hX2 ⟨g, l1.length * 4, none⟩ l2.length (cap - l1.length) l2 hsrc2 (by simp) (by rw [hZ2]; omega)
  have hwalk := insert_grow_walk w g B (l1 ++ l2).length (l1.length + (l2.length + 1)) cap l1.length l2.length (l2.length + 1) (cap - l1.length) (G - l1.length) (G - (l1.length + 1)) G (.slice none 0 0) ⟨g, l1.length * 4, none⟩ ⟨w.heap.size, 0, none⟩ ⟨w.heap.size, l1.length * 4, none⟩ ⟨w.heap.size, (l1.length + 1) * 4, none⟩ _ _ _ _ _ (by omega) r1 hc (by omega)
    (fun W => by
      have := slice_lh g _ cap l1.length (by omega) r1 W (by omega)
      rw [show (l1 ++ l2).length - l1.length = l2.length by omega] at this
      exact this)
    (fun W => slice_h0 g (l1 ++ l2).length cap l1.length (by omega) W)
    (fun ty => by
      have := hapz ty
      rw [show ((l2.length + 1 : Nat) : Int) = ((l1 ++ l2).length : Int) + 1 - l1.length by omega] at this
      exact this)
    (fun W => by
      have := slice_lh w.heap.size (l1.length + (l2.length + 1)) G l1.length (by omega) hG1 W (by omega)
      rw [show l1.length + (l2.length + 1) - l1.length = l2.length + 1 by omega] at this
      exact this)
    (fun W => by
      have := slice_lh w.heap.size (l1.length + (l2.length + 1)) G (l1.length + 1) (by omega) hG1 W (by omega)
      rw [show l1.length + (l2.length + 1) - (l1.length + 1) = l2.length by omega] at this
      exact this) hc1 hc2
  refine hwalk.mono ?_
  rintro e w' ⟨rfl, rfl⟩
  refine ⟨_, rfl, ?_, ?_⟩
  · refine (hX2.set _).own (by simp) hbase (by simp; omega) hG2 ?_ ?_
    · rw [length_splice _ _ _ (by rw [hZ2, flatF_len]; omega), hZ2, hZl]
    · have t1 := take_splice2 (splice Z (l1.length * 4) (flatF [x])) ((l1.length + 1) * 4) (flatF l2) (by rw [hZ2]; omega)
      have t2 := take_splice2 Z (l1.length * 4) (flatF [x]) (by omega)
      rw [e1, show l1.length * 4 + 4 = (l1.length + 1) * 4 by omega, hZt] at t2
      rw [flatF_len, t2] at t1
      rw [show (l1 ++ x :: l2).length * 4 = (l1.length + 1) * 4 + l2.length * 4 by simp; omega, t1]
      rw [show l1 ++ x :: l2 = l1 ++ [x] ++ l2 by simp, flatF_app, flatF_app]
  · exact ((hu1.setRow (Or.inl (Nat.le_refl _)) _).drew).setRow (Or.inl (Nat.le_refl _)) _
end Go.Proofs.YtajppgngoffonaaGreatDoor

namespace Go.Proofs.YtajppgngoffonaaGreatDoor
open Go.RowKit

theorem insert_ok (w : World) {base B : Nat} {v : Value} {l1 l2 : List Fd} {x : Fd} (h : Own w base v (l1 ++ l2)) (hB : w.heap[B]? = some (boxF x)) (hne : v.ownBlock ≠ some B) (hbase : base ≤ w.heap.size) (hl : ((l1 ++ l2).length + 1) * 48 ≤ 140737488355328) :
    Calls Tryz.prog 103 #[v, .int .i64 l1.length, .slice (some ⟨B, 0, none⟩) 1 1] w fun e w' => ∃ v', e = .returned v' ∧ Own w' base v' (l1 ++ x :: l2) ∧ Upd v.ownBlock.toList w w' := by
  by_cases h2 : 0 < l2.length
  · obtain ⟨g, cap, X, rfl, hbg, hX, r1, r2, r3, r4⟩ := h.blk (by simp; omega)
    by_cases hroom : (l1 ++ l2).length + 1 ≤ cap
    · refine (insert_room w h hB (fun q => hne (by rw [q]; rfl)) h2 hroom).mono ?_
      rintro e w' ⟨rfl, ho, hu⟩
      exact ⟨_, rfl, ho, hu⟩
    · refine (insert_grow w h hB hbase h2 (by omega) hl).mono ?_
      rintro e w' ⟨v', rfl, ho, hu⟩
      exact ⟨v', rfl, ho, hu.mono (fun k hk => by simp at hk)⟩
  · obtain rfl : l2 = [] := List.eq_nil_of_length_eq_zero (by omega)
    simp only [List.append_nil] at h hl
    refine (insert_end w h hB hbase hl).mono ?_
    rintro e w' ⟨v', rfl, ho, hg⟩
    exact ⟨v', rfl, ho, hg.os, hg.output, hg.size, fun k hk hn => hg.block k hk (fun q => hn (by rw [← q]; simp))⟩

theorem idxF_cases {α : Type} (p : α → Bool) (l : List α) : (idxF p l = -1 ∧ ∀ x ∈ l, p x = false) ∨ ∃ (i : Nat) (hi : i < l.length), idxF p l = i ∧ p l[i] = true ∧ ∀ j (hj : j < i), p l[j] = false := by
  by_cases h : ∃ x ∈ l, p x = true
  · right
    have hs : (l.findIdx? p).isSome := by
      rw [List.findIdx?_isSome]
      obtain ⟨x, hx, hk⟩ := h
      exact List.any_eq_true.2 ⟨x, hx, hk⟩
    obtain ⟨i, hi⟩ := Option.isSome_iff_exists.1 hs
    obtain ⟨hl, hk, hj⟩ := List.findIdx?_eq_some_iff_getElem.1 hi
    exact ⟨i, hl, idxF_some hl hk (fun j q => by simpa using hj j q), hk, fun j q => by simpa using hj j q⟩
  · left
    have hn : ∀ x ∈ l, p x = false := fun x hx => by
      cases e : p x with
      | false => rfl
      | true => exact absurd ⟨x, hx, e⟩ h
    exact ⟨idxF_none fun i hi => hn _ (List.getElem_mem hi), hn⟩

theorem insF_split (l : List Fd) (x : Fd) : ∃ l1 l2, l = l1 ++ l2 ∧ insF l x = l1 ++ x :: l2 ∧ ((idxF (fun y => !leB y.nm x.nm) l = -1 ∧ l2 = []) ∨ idxF (fun y => !leB y.nm x.nm) l = l1.length) := by
  rcases idxF_cases (fun y : Fd => !leB y.nm x.nm) l with ⟨h1, h2⟩ | ⟨i, hi, h1, h2, h3⟩
  · have hs := split_while (fun y : Fd => leB y.nm x.nm) l (j := l.length) (Nat.le_refl _) (fun i hi => by simpa using h2 l[i] (List.getElem_mem hi)) (fun h => absurd h (by omega))
    exact ⟨l, [], by simp, by unfold insF; rw [hs.1, hs.2]; simp, Or.inl ⟨h1, rfl⟩⟩
  · have hs := split_while (fun y : Fd => leB y.nm x.nm) l (j := i) (by omega) (fun j hj => by simpa using h3 j hj) (fun h => by simpa using h2)
    exact ⟨l.take i, l.drop i, by simp, by unfold insF; rw [hs.1, hs.2], Or.inr (by rw [h1]; simp; omega)⟩

theorem Own.notBlock {w : World} {base : Nat} {v : Value} {l : List Fd} (h : Own w base v l) {B : Nat} (hB : w.heap.size ≤ B) : v.ownBlock ≠ some B := fun q => by
  have := (h.lt B q).2
  omega

set_option maxRecDepth 100000 in
set_option maxHeartbeats 1600000 in
theorem set_hit (v : Value) (l : List Fd) (x : Fd) (w : World) (h : RecAt w v l) (hl : l.length * 48 ≤ 140737488355328) {i : Nat} (hi : i < l.length) (hp : posF l x.nm = i) :
    Calls Tryz.prog 61 #[v, aggF x] w (OwnPost (l.set i x) w) := by
  have HR := Lib.hid (fun (W : World) (u : Upd [] w W) => h.keep u)
  have HP := Lib.hid hp
  have HC := Lib.hid (clone_ok v l _ (h.keep ((Upd.refl _ _).alloc (boxF x))) hl)
  obtain ⟨a, cap, rfl, -, -⟩ := h.isSlice
  clear hp h
  go_enter Tryz.func61, Tryz.ntmps61
  go_wp2_with fail
  refine HC.out.mono ?_
  rintro e w1 ⟨v1, rfl, hown, hu⟩
  have hbx : w1.heap[w.heap.size]? = some (boxF x) := by rw [hu.block _ (by simp) (by simp), heap_alloc, if_pos rfl]
  have x0 : w1.cell? ⟨w.heap.size, 0, none⟩ = some (.string x.nm) := cell_blk hbx 0
  have HO := Lib.hid hown
  have HB := Lib.hid hbx
  have HU : Hid (Upd [] w w1) := Lib.hid (((Upd.refl [] w).alloc _).trans hu)
  clear hown hu HC hbx
  go_wp2_with fail
  have hA := at_ok _ l x.nm _ (HR.out _ HU.out)
  rw [HP.out] at hA
  refine hA.mono ?_
  rintro e w2 ⟨rfl, hu2⟩
  have hbx : w2.heap[w.heap.size]? = some (boxF x) := by rw [hu2.block _ (lt_of_blk HB.out) (by simp)]; exact HB.out
  have hown2 : Own w2 (w.heap.size + 1) v1 l := by have := Own.keep HO.out hu2; simpa using this
  have HU2 : Hid (Upd [] w w2) := Lib.hid (HU.out.trans hu2)
  have x1 : w2.cell? ⟨w.heap.size, 1, none⟩ = some (.bool x.tx) := cell_blk hbx 1
  have x2 : w2.cell? ⟨w.heap.size, 2, none⟩ = some (.int .i64 x.n) := cell_blk hbx 2
  have x3 : w2.cell? ⟨w.heap.size, 3, none⟩ = some (.string x.s) := cell_blk hbx 3
  clear x0
  have x0 : w2.cell? ⟨w.heap.size, 0, none⟩ = some (.string x.nm) := cell_blk hbx 0
  have HO2 := Lib.hid hown2
  clear hA hu2 HO HU HB hbx
  rcases hown2.2 with ⟨_, hn⟩ | ⟨g, cap', cur, rfl, hg, hh, r1, r2, r3, r4⟩
  · omega
  have hfz := frozen_blk hh
  have hc := fun o (ho : o < cur.size) => show w2.cell? ⟨g, o, none⟩ = some (cur[o]'ho) by rw [cell_blk hh]; exact Array.getElem?_eq_getElem ho
  have y0 := hc (i * 4) (by omega)
  have y1 := hc (i * 4 + 1) (by omega)
  have y2 := hc (i * 4 + 2) (by omega)
  have y3 := hc (i * 4 + 3) (by omega)
  clear hown2 hc hh r4
  have hii : (i : Int) < (l.length : Int) := by omega
  go_wp2_with fail
  obtain ⟨hS, -⟩ := Own.set HO2.out hi x (alike_refl _)
  have hu := (((HU2.out.setCellNew (b := g) (by omega) (i * 4) (.string x.nm)).setCellNew (b := g) (by omega) (i * 4 + 1) (.bool x.tx)).setCellNew (b := g) (by omega) (i * 4 + 2) (.int .i64 x.n)).setCellNew (b := g) (by omega) (i * 4 + 3) (.string x.s)
  have HF : Hid (OwnPost (l.set i x) w (.returned (.slice (some ⟨g, 0, none⟩) l.length cap')) _) := Lib.hid ⟨_, rfl, own_mono hS (by omega), hu⟩
  clear hS hu
  go_ret
  exact HF.out

set_option maxRecDepth 100000 in
set_option maxHeartbeats 1600000 in
theorem set_miss (v : Value) (l : List Fd) (x : Fd) (w : World) (h : RecAt w v l) (hl : (l.length + 1) * 48 ≤ 140737488355328) (hp : posF l x.nm = -1) :
    Calls Tryz.prog 61 #[v, aggF x] w (OwnPost (insF l x) w) := by
  have HR := Lib.hid (fun (W : World) (u : Upd [] w W) => h.keep u)
  have HP := Lib.hid hp
  have HC := Lib.hid (clone_ok v l _ (h.keep ((Upd.refl _ _).alloc (boxF x))) (by omega))
  obtain ⟨a, cap, rfl, -, -⟩ := h.isSlice
  obtain ⟨l1, l2, hsp, hins, hidx⟩ := insF_split l x
  have HI := Lib.hid (And.intro hsp hins)
  have hlb : l.length ≤ 9223372036854775807 := by omega
  have hle : l1.length ≤ l.length := by rw [hsp]; simp
  clear hp h hsp hins
  go_enter Tryz.func61, Tryz.ntmps61
  go_wp2_with fail
  refine HC.out.mono ?_
  rintro e w1 ⟨v1, rfl, hown, hu⟩
  have hbx : w1.heap[w.heap.size]? = some (boxF x) := by rw [hu.block _ (by simp) (by simp), heap_alloc, if_pos rfl]
  have x0 : w1.cell? ⟨w.heap.size, 0, none⟩ = some (.string x.nm) := cell_blk hbx 0
  have HO := Lib.hid hown
  have HB := Lib.hid hbx
  have HU : Hid (Upd [] w w1) := Lib.hid (((Upd.refl [] w).alloc _).trans hu)
  clear hown hu HC hbx
  go_wp2_with fail
  have hA := at_ok _ l x.nm _ (HR.out _ HU.out)
  rw [HP.out] at hA
  refine hA.mono ?_
  rintro e w2 ⟨rfl, hu2⟩
  have hbx : w2.heap[w.heap.size]? = some (boxF x) := by rw [hu2.block _ (lt_of_blk HB.out) (by simp)]; exact HB.out
  have HO2 : Hid (Own w2 (w.heap.size + 1) v1 l) := Lib.hid (by have := Own.keep HO.out hu2; simpa using this)
  have HU2 : Hid (Upd [] w w2) := Lib.hid (HU.out.trans hu2)
  have HB2 := Lib.hid hbx
  clear hA hu2 HO HU HB hbx x0
  go_wp2_with fail
  have hJ := idxField_ok 102 #[.pointer (some ⟨w.heap.size, 0, none⟩)] (fun y => !leB y.nm x.nm) enters46 _ l w2 (HR.out _ HU2.out) (set1_ok x w.heap.size w2 HB2.out)
  have key : ∀ w3, Upd [] w2 w3 → Own w3 (w.heap.size + 1) v1 (l1 ++ l2) ∧ w3.heap[w.heap.size]? = some (boxF x) ∧ Upd [] w w3 := fun w3 u => ⟨by rw [← HI.out.1]; exact Own.keep HO2.out u, by rw [u.block _ (lt_of_blk HB2.out) (by simp)]; exact HB2.out, HU2.out.trans u⟩
  have HK := Lib.hid key
  clear key
  refine hJ.mono ?_
  rintro e w3 ⟨rfl, hu3⟩
  obtain ⟨hown3, hb3, hu30⟩ := HK.out w3 hu3
  have x0 : w3.cell? ⟨w.heap.size, 0, none⟩ = some (.string x.nm) := cell_blk hb3 0
  have x1 : w3.cell? ⟨w.heap.size, 1, none⟩ = some (.bool x.tx) := cell_blk hb3 1
  have x2 : w3.cell? ⟨w.heap.size, 2, none⟩ = some (.int .i64 x.n) := cell_blk hb3 2
  have x3 : w3.cell? ⟨w.heap.size, 3, none⟩ = some (.string x.s) := cell_blk hb3 3
  have hsz : w.heap.size + 1 ≤ w3.heap.size := lt_of_blk hb3
  have hIn := insert_ok (l1 := l1) (l2 := l2) (x := x) (B := w3.heap.size) (w3.alloc (boxF x)) (hown3.alloc _) (by rw [heap_alloc, if_pos rfl]) (hown3.notBlock (Nat.le_refl _)) (by simp; omega) (by rw [← HI.out.1]; exact hl)
  have HIn := Lib.hid hIn
  have HF : Hid (∀ v' w', Own w' (w.heap.size + 1) v' (l1 ++ x :: l2) → Upd v1.ownBlock.toList (w3.alloc (boxF x)) w' → OwnPost (insF l x) w (.returned v') w') := Lib.hid fun v' w' ho hu => ⟨v', rfl, by rw [HI.out.2]; exact own_mono ho (by omega), (hu30.alloc _).next hu (fun q hq hlt => by
    simp at hq
    have := (hown3.lt q hq).1
    omega)⟩
  clear hown3 hb3 hu30 hu3 hJ HK hIn HO2 HB2 HU2 HR HP
  rcases hidx with ⟨hi, rfl⟩ | hi
  · rw [hi]
    clear hi
    have hl1 : Hid (l1.length = l.length) := Lib.hid (by rw [HI.out.1]; simp)
    go_wp2_with fail
    have := HIn.out
    rw [hl1.out] at this
    refine this.mono ?_
    rintro e w4 ⟨v', rfl, ho, hu⟩
    have HG := Lib.hid (HF.out v' w4 ho hu)
    clear ho hu this
    go_wp2_with fail
    go_ret
    exact HG.out
  · rw [hi]
    clear hi
    go_wp2_with fail
    refine HIn.out.mono ?_
    rintro e w4 ⟨v', rfl, ho, hu⟩
    have HG := Lib.hid (HF.out v' w4 ho hu)
    clear ho hu
    go_wp2_with fail
    go_ret
    exact HG.out

theorem set_ok (v : Value) (l : List Fd) (x : Fd) (w : World) (h : RecAt w v l) (hl : (l.length + 1) * 48 ≤ 140737488355328) :
    Calls Tryz.prog 61 #[v, aggF x] w (OwnPost (setF l x) w) := by
  unfold setF
  rcases posF_cases l x.nm with ⟨hp, -, -⟩ | ⟨i, hi, hp, -, -, -⟩
  · rw [if_pos (by omega)]
    exact set_miss v l x w h hl hp
  · rw [if_neg (by omega), hp, Int.toNat_natCast]
    exact set_hit v l x w h (by omega) hi hp
end Go.Proofs.YtajppgngoffonaaGreatDoor

namespace Go.Proofs.YtajppgngoffonaaGreatDoor
open Go.RowKit

set_option maxRecDepth 100000 in
theorem odd_ok (r : Nat) (w : World) : Calls Tryz.prog 53 #[.int .i32 (r : Int)] w fun e w' => e = .returned (.bool (!okByte r)) ∧ w' = w := by
  cases hk : okByte r with
  | true =>
    simp only [okByte, Bool.or_eq_true, Bool.and_eq_true, decide_eq_true_eq] at hk
    go_enter Tryz.func53, Tryz.ntmps53
    go_wp2_with fail
    all_goals first
      | (exfalso; simp only [bne_iff_ne, bne_eq_false_iff_eq, ne_eq] at *; omega)
      | (go_ret; exact ⟨rfl, rfl⟩)
      | (go_ret; refine ⟨?_, rfl⟩; simp_all <;> omega)
  | false =>
    have hk' : ¬ (okByte r = true) := by simp [hk]
    simp only [okByte, Bool.or_eq_true, Bool.and_eq_true, decide_eq_true_eq] at hk'
    clear hk
    go_enter Tryz.func53, Tryz.ntmps53
    go_wp2_with fail
    all_goals first
      | (exfalso; simp only [bne_iff_ne, bne_eq_false_iff_eq, ne_eq] at *; omega)
      | (go_ret; exact ⟨rfl, rfl⟩)
      | (go_ret; refine ⟨?_, rfl⟩; simp_all <;> omega)

theorem enters40 : ∀ args w, (callFunc 53 args).run Tryz.prog w = .ok (.enter 53 args) w := enters_of Tryz.func53 (by kernel_rfl) rfl

theorem okByte_lt {c : Nat} (h : okByte c = true) : c < 128 := by
  simp only [okByte, Bool.or_eq_true, Bool.and_eq_true, decide_eq_true_eq] at h
  omega

def allOk (s : ByteArray) : Bool := s.data.toList.all fun c => okByte c.toNat

set_option maxRecDepth 100000 in
set_option maxHeartbeats 1000000 in
theorem indexFunc_ok (s : ByteArray) (w : World) (hs : s.size ≤ 9223372036854775807) : Calls Tryz.prog 88 #[.string s, .func (.func 53) #[] #[], .bool true] w fun e w' => ∃ k : Int, e = .returned (.int .i64 k) ∧ (allOk s = true → k = -1) ∧ (allOk s = false → 0 ≤ k) ∧ Upd [] w w' := by
  have hlen : s.data.toList.length = s.size := by simp
  have HL := Lib.hid hlen
  clear hlen
  go_enter Tryz.func88, Tryz.ntmps88
  go_wp2_with fail
  go_loopg [] s.size (fun n wr => ∃ j : Nat, j ≤ s.size ∧ n = s.size - j ∧ Hid (((s.data.toList.take j).all fun c => okByte c.toNat) = true) ∧ Hid (wr.heap[w.heap.size]? = some (.stringIter s j)) ∧ Hid (Below w.heap.size w wr))
  case atStart => exact ⟨0, by omega, rfl, Lib.hid (by simp), Lib.hid (World.iter_heap w s 0), Lib.hid ((Below.refl _ w).alloc (Nat.le_refl _) _)⟩
  case round =>
    obtain ⟨j, hj, rfl, hA, hit, hbw⟩ := hrel
    by_cases hjs : j < s.size
    · have hst := all_take (p := fun c : UInt8 => okByte c.toNat) (d := 0) s.data.toList j (by rw [HL.out]; exact hjs) hA.out
      rw [bytes_getD s j hjs] at hst
      cases hok : okByte s[j].toNat with
      | true =>
        have hA2 : Hid (((s.data.toList.take (j + 1)).all fun c => okByte c.toNat) = true) := Lib.hid (hst.trans hok)
        have hnx := fun ty => Lib.run_next_ascii_at (P := Tryz.prog) wr w.heap.size s j ty hit.out hjs (okByte_lt hok)
        have hit2 := Lib.hid (Lib.iterAt_heap wr w.heap.size s j (j + 1) hit.out)
        have hbw2 := Lib.hid (Lib.below_iterAt hbw.out (k := w.heap.size) (Nat.le_refl _) s (j + 1))
        generalize wr.iterAt w.heap.size s (j + 1) = W at *
        have hc := odd_ok s[j].toNat W
        rw [hok] at hc
        generalize (s[j].toNat) = r at *
        clear hst hok
        go_wp2_with fail
        refine hc.mono ?_
        rintro e W' ⟨rfl, rfl⟩
        go_wp2_with fail
        go_roundg (s.size - (j + 1))
        case measure => omega
        case rel => exact ⟨j + 1, by omega, rfl, hA2, hit2, hbw2⟩
      | false =>
        have hr : Hid (allOk s = false) := Lib.hid (all_of_take _ (j + 1) (hst.trans hok))
        have hnx := fun ty => Lib.run_next_any_at (P := Tryz.prog) wr w.heap.size s j ty hit.out hjs
        have hbw2 := Lib.hid (Lib.below_iterAt hbw.out (k := w.heap.size) (Nat.le_refl _) s (j + (Utf8.decode s j).2))
        have hodd : okByte (Utf8.decode s j).1 = false := by
          by_cases ha : s[j].toNat < 128
          · rw [decode_ascii s j hjs ha]; exact hok
          · have := (decode_high s j hjs (by omega)).1
            cases e : okByte (Utf8.decode s j).1 with
            | false => rfl
            | true => have := okByte_lt e; omega
        generalize wr.iterAt w.heap.size s (j + (Utf8.decode s j).2) = W at *
        have hc := odd_ok (Utf8.decode s j).1 W
        rw [hodd] at hc
        generalize (Utf8.decode s j).1 = r at *
        clear hst hok hodd
        go_wp2_with fail
        refine hc.mono ?_
        rintro e W' ⟨rfl, rfl⟩
        go_wp2_with fail
        go_ret
        exact ⟨j, rfl, fun q => absurd (hr.out.symm.trans q) (by simp), fun _ => by omega, (Upd.refl [] w).below hbw2.out (Nat.le_refl _)⟩
    · have hr : Hid (allOk s = true) := Lib.hid (by
        have := hA.out
        rw [List.take_of_length_le (by rw [HL.out]; omega)] at this
        exact this)
      have hnx := fun ty => Lib.run_next_end_at (P := Tryz.prog) wr w.heap.size s j ty hit.out hjs
      go_wp2_with fail
      go_ret
      exact ⟨-1, rfl, fun _ => rfl, fun q => absurd (hr.out.symm.trans q) (by simp), (Upd.refl [] w).below hbw.out (Nat.le_refl _)⟩

set_option maxRecDepth 100000 in
theorem indexFuncTop_ok (s : ByteArray) (w : World) (hs : s.size ≤ 9223372036854775807) : Calls Tryz.prog 54 #[.string s, .func (.func 53) #[] #[]] w fun e w' => ∃ k : Int, e = .returned (.int .i64 k) ∧ (allOk s = true → k = -1) ∧ (allOk s = false → 0 ≤ k) ∧ Upd [] w w' := by
  have hc := Lib.hid (indexFunc_ok s w hs)
  go_enter Tryz.func54, Tryz.ntmps54
  go_wp2_with fail
  refine hc.out.mono ?_
  rintro e w' ⟨k, rfl, h1, h2, h3⟩
  have H := Lib.hid (And.intro h1 (And.intro h2 h3))
  clear h1 h2 h3
  go_wp2_with fail
  go_ret
  exact ⟨k, rfl, H.out⟩

set_option maxRecDepth 100000 in
set_option maxHeartbeats 1000000 in
theorem name_ok (s : ByteArray) (w : World) (hs : s.size ≤ 9223372036854775807) : Calls Tryz.prog 32 #[.string s] w fun e w' => e = .returned (.bool (nameOk s)) ∧ Upd [] w w' := by
  have hlen : s.data.toList.length = s.size := by simp
  by_cases h0 : s.size = 0
  · have hr : nameOk s = false := by unfold nameOk nameL; simp; omega
    have hse : (s.toList == ([] : List UInt8)) = true := by
      have : s = ByteArray.empty := ByteArray.ext (Array.eq_empty_of_size_eq_zero h0)
      subst this
      first | rfl | decide | simp
    rw [hr]
    go_enter Tryz.func32, Tryz.ntmps32
    go_wp2_with fail
    go_ret
    exact ⟨rfl, Upd.refl _ _⟩
  have hse : (s.toList == ([] : List UInt8)) = false := by
    cases e : (s.toList == ([] : List UInt8)) with
    | false => rfl
    | true =>
      have e' := eq_of_beq e
      have := eqB s ByteArray.empty
      rw [e'] at this
      have h3 : ByteArray.empty.toList = [] := by first | rfl | decide | simp
      rw [h3] at this
      simp at this
      rw [this] at h0
      simp at h0
  have hpos : 0 < s.size := by omega
  by_cases h2 : 32 < s.size
  · have hr : nameOk s = false := by unfold nameOk nameL; simp; omega
    rw [hr]
    go_enter Tryz.func32, Tryz.ntmps32
    go_wp2_with fail
    go_ret
    exact ⟨rfl, Upd.refl _ _⟩
  by_cases h3 : s[0].toNat < 97
  · have hr : nameOk s = false := by
      unfold nameOk nameL
      rw [bytes_head s hpos]
      simp; omega
    rw [hr]
    go_enter Tryz.func32, Tryz.ntmps32
    go_wp2_with fail
    go_ret
    exact ⟨rfl, Upd.refl _ _⟩
  by_cases h4 : 122 < s[0].toNat
  · have hr : nameOk s = false := by
      unfold nameOk nameL
      rw [bytes_head s hpos]
      simp; omega
    rw [hr]
    go_enter Tryz.func32, Tryz.ntmps32
    go_wp2_with fail
    go_ret
    exact ⟨rfl, Upd.refl _ _⟩
  have hN : nameOk s = allOk s := by
    unfold nameOk nameL allOk
    rw [bytes_head s hpos]
    have e1 : (1 ≤ s.data.toList.length) = True := by simp; omega
    have e2 : (s.data.toList.length ≤ 32) = True := by simp; omega
    have e3 : (97 ≤ s[0].toNat) = True := by simp; omega
    have e4 : (s[0].toNat ≤ 122) = True := by simp; omega
    simp only [e1, e2, e3, e4, decide_true, Bool.true_and]
  rw [hN]
  have HC := Lib.hid (indexFuncTop_ok s w hs)
  clear hN hlen
  go_enter Tryz.func32, Tryz.ntmps32
  go_wp2_with fail
  refine HC.out.mono ?_
  rintro e w' ⟨k, rfl, k1, k2, hu⟩
  have HU := Lib.hid hu
  clear hu HC
  cases hall : allOk s with
  | true =>
    obtain rfl := k1 hall
    have HA := Lib.hid hall
    clear k1 k2 hall
    go_wp2_with fail
    go_ret
    exact ⟨by rw [HA.out]; rfl, HU.out⟩
  | false =>
    have hk := k2 hall
    have HA := Lib.hid hall
    clear k1 k2 hall
    go_wp2_with fail
    go_ret
    exact ⟨by
      rw [HA.out]
      show Ending.returned (.bool (decide (k < 0))) = _
      rw [decide_eq_false (by omega)], HU.out⟩
end Go.Proofs.YtajppgngoffonaaGreatDoor

namespace Go.Proofs.YtajppgngoffonaaGreatDoor
open Go.RowKit

/-- The table that strconv reads. -/
def Tab (w : World) : Prop := Lib.TabIs Tryz.prog w "internal/strconv.uint64pow10" .u64 Lib.pow10Tab

theorem Tab.upd {w w' : World} (h : Tab w) (u : Upd [] w w') : Tab w' := by
  unfold Tab Lib.TabIs World.var? at *
  cases hg : Tryz.prog.globalNamed "internal/strconv.uint64pow10" with
  | none => simp [hg] at h
  | some g =>
    simp only [hg, Option.bind_some] at h ⊢
    cases hb : w.heap[g]? with
    | none => simp [hb] at h
    | some o => rw [u.block g (lt_of_blk hb) (by simp)]; rw [hb] at h ⊢; exact h

def itoaB (n : Int) : ByteArray := ⟨(Lib.itoa n).toArray⟩

def withinB (n : Int) : Bool := decide (-1000000000000000 ≤ n ∧ n ≤ 1000000000000000)

theorem withinB_iff (n : Int) : withinB n = true ↔ -1000000000000000 ≤ n ∧ n ≤ 1000000000000000 := by simp [withinB]

/-- A slice whose elements, k cells each, read as a list. -/
def SlAt {α : Type} (k : Nat) (At : World → Nat → Nat → α → Prop) (w : World) (v : Value) (l : List α) : Prop :=
  ∃ a cap, v = .slice a l.length cap ∧ l.length ≤ cap ∧ cap ≤ maxLen ∧ ∀ i (h : i < l.length), ∃ b off, a = some ⟨b, off, none⟩ ∧ At w b (off + i * k) l[i]

theorem SlAt.keep {α : Type} {k : Nat} {At : World → Nat → Nat → α → Prop} {w w' : World} (hA : ∀ b o x, At w b o x → At w' b o x) {v : Value} {l : List α} (h : SlAt k At w v l) : SlAt k At w' v l := by
  obtain ⟨a, cap, hv, h1, h2, h3⟩ := h
  exact ⟨a, cap, hv, h1, h2, fun i hi => by obtain ⟨b, off, e, hc⟩ := h3 i hi; exact ⟨b, off, e, hA _ _ _ hc⟩⟩

theorem SlAt.isSlice {α : Type} {k : Nat} {At : World → Nat → Nat → α → Prop} {w : World} {v : Value} {l : List α} (h : SlAt k At w v l) : ∃ a cap, v = .slice a l.length cap ∧ l.length ≤ cap ∧ cap ≤ 9223372036854775807 := by
  obtain ⟨a, cap, rfl, h1, h2, -⟩ := h
  exact ⟨a, cap, rfl, h1, by unfold maxLen at h2; omega⟩
end Go.Proofs.YtajppgngoffonaaGreatDoor
