/- The sheet: the first place at which a predicate holds; at; Get. -/
import Derived.Test.YtdokpfgdddfdfaaDoorRec8
import Derived.Shelf.GgClosure.Gives
namespace Go.Proofs.YtdokpfgdddfdfaaDoor
open Go.RowKit

def idxF {α : Type} (p : α → Bool) (l : List α) : Int := match l.findIdx? p with
  | some i => i
  | none => -1

theorem idxF_none {α : Type} {p : α → Bool} {l : List α} (h : ∀ i (hi : i < l.length), p l[i] = false) : idxF p l = -1 := by
  unfold idxF
  rw [List.findIdx?_eq_none_iff.2 (by intro x hx; obtain ⟨i, hi, rfl⟩ := List.mem_iff_getElem.1 hx; exact h i hi)]

theorem idxF_some {α : Type} {p : α → Bool} {l : List α} {i : Nat} (hi : i < l.length) (hk : p l[i] = true) (h : ∀ j (hj : j < i), p l[j] = false) : idxF p l = i := by
  unfold idxF
  rw [List.findIdx?_eq_some_iff_getElem.2 ⟨hi, hk, fun j hj => by simpa using h j hj⟩]

theorem RecAt.isSlice {w : World} {v : Value} {l : List Fd} (h : RecAt w v l) : ∃ a cap, v = .slice a l.length cap ∧ l.length ≤ cap ∧ cap ≤ 9223372036854775807 := by
  obtain ⟨a, cap, rfl, h1, h2, -⟩ := h
  exact ⟨a, cap, rfl, h1, by unfold maxLen at h2; omega⟩

/-- What is asked of a predicate over fields. -/
def PredF (g : Nat) (lb : Array Value) (p : Fd → Bool) (w : World) : Prop :=
  ∀ (W : World) (x : Fd), Upd [] w W → Calls Tryd.prog g (#[aggF x] ++ lb) W fun e w' => e = .returned (.bool (p x)) ∧ Upd [] w w'

set_option maxRecDepth 100000 in
set_option maxHeartbeats 800000 in
theorem idxField_ok (g : Nat) (lb : Array Value) (p : Fd → Bool) (eg : ∀ args w, (callFunc g args).run Tryd.prog w = .ok (.enter g args) w) (v : Value) (l : List Fd) (w : World) (h : RecAt w v l) (hp : PredF g lb p w) :
    Calls Tryd.prog 45 #[v, .func (.func g) #[] lb] w fun e w' => e = .returned (.int .i64 (idxF p l)) ∧ Upd [] w w' := by
  have HR := Lib.hid (fun (W : World) (u : Upd [] w W) => h.keep u)
  have HP := Lib.hid hp
  obtain ⟨a, cap, rfl, h1, h2, h3⟩ := h
  have H3 := Lib.hid h3
  clear h3 hp
  unfold maxLen at h2
  go_enter Tryd.func45, Tryd.ntmps45
  go_wp2_with fail
  go_loopg [5, 8] l.length (fun n _ i wr => ∃ j : Nat, i = .int .i64 j ∧ j ≤ l.length ∧ n = l.length - j ∧ Hid (∀ i (hi : i < j) (hl : i < l.length), p l[i] = false) ∧ Hid (Upd [] w wr))
  case atStart => exact ⟨0, rfl, by omega, rfl, Lib.hid (fun i hi => by omega), Lib.hid (Upd.refl _ _)⟩
  case round =>
    obtain ⟨j, rfl, hj, rfl, hA, HU⟩ := hrel
    by_cases hjl : j < l.length
    · have hlt : (j : Int) < (l.length : Int) := by omega
      obtain ⟨b, off, rfl, hf⟩ := H3.out j hjl
      obtain ⟨c0, c1, c2, c3⟩ := hf.upd HU.out (by simp)
      clear hf
      have hcall := HP.out wr l[j] HU.out
      cases hq : p l[j] with
      | true =>
        have hres : Hid (idxF p l = j) := Lib.hid (idxF_some hjl hq (fun i hi => hA.out i hi (by omega)))
        rw [hq] at hcall
        clear hq
        generalize l[j] = x at *
        go_wp2_with (go_at_fn g; refine hcall.mono ?_; rintro e w' ⟨rfl, hu'⟩)
        go_ret
        exact ⟨by rw [hres.out]; rfl, hu'⟩
      | false =>
        have hA2 : Hid (∀ i (hi : i < j + 1) (hl : i < l.length), p l[i] = false) := Lib.hid (fun i hi hl => by
          rcases Nat.lt_or_ge i j with h | h
          · exact hA.out i h hl
          · have : i = j := by omega
            subst this; exact hq)
        rw [hq] at hcall
        clear hq
        generalize l[j] = x at *
        go_wp2_with (go_at_fn g; refine hcall.mono ?_; rintro e w' ⟨rfl, hu'⟩)
        go_roundg (l.length - (j + 1))
        case measure => omega
        case rel => exact ⟨j + 1, by go_num, by omega, rfl, hA2, Lib.hid hu'⟩
    · have hlt : ¬ (j : Int) < (l.length : Int) := by omega
      have hres : Hid (idxF p l = -1) := Lib.hid (idxF_none (fun i hi => hA.out i (by omega) hi))
      go_wp2_with fail
      go_ret
      exact ⟨by rw [hres.out]; rfl, HU.out⟩

theorem eqB (a b : ByteArray) : (a.toList == b.toList) = decide (a = b) := by rw [← beq_toListBytes, bytes_beq]

theorem gtB_run (a b : ByteArray) (t : TypeId) (P : Program) (W : World) : (binOp .gtr t (.string a) (.string b)).run P W = .ok (.bool (!leB a b)) W := by
  simp [binOp, Op.stringOp, leB]

set_option maxRecDepth 100000 in
theorem at1_ok (k : ByteArray) (B : Nat) (w : World) (hB : w.heap[B]? = some (.cells #[.string k] 9 (0, 0))) : PredF 58 #[.pointer (some ⟨B, 0, none⟩)] (fun x => decide (x.nm = k)) w := fun W x hu => by
  have hB' : W.heap[B]? = some (.cells #[.string k] 9 (0, 0)) := by rw [hu.block B (lt_of_blk hB) (by simp)]; exact hB
  have hc : W.cell? ⟨B, 0, none⟩ = some (.string k) := cell_blk hB' 0
  have hlt := lt_of_blk hB'
  have hne : B ≠ W.heap.size := by omega
  have HU := Lib.hid hu
  clear hu hB hB'
  show Calls Tryd.prog 58 #[aggF x, .pointer (some ⟨B, 0, none⟩)] W _
  go_enter Tryd.func58, Tryd.ntmps58
  go_wp2_with fail
  go_ret
  exact ⟨by rw [← eqB]; rfl, HU.out.alloc _⟩

set_option maxRecDepth 100000 in
theorem set1_ok (x : Fd) (B : Nat) (w : World) (hB : w.heap[B]? = some (boxF x)) : PredF 46 #[.pointer (some ⟨B, 0, none⟩)] (fun y => !leB y.nm x.nm) w := fun W y hu => by
  have hB' : W.heap[B]? = some (boxF x) := by rw [hu.block B (lt_of_blk hB) (by simp)]; exact hB
  have hc : W.cell? ⟨B, 0, none⟩ = some (.string x.nm) := cell_blk hB' 0
  have hlt := lt_of_blk hB'
  have hne : B ≠ W.heap.size := by omega
  have hop := fun W' => gtB_run y.nm x.nm 9 Tryd.prog W'
  have HU := Lib.hid hu
  clear hu hB hB'
  show Calls Tryd.prog 46 #[aggF y, .pointer (some ⟨B, 0, none⟩)] W _
  go_enter Tryd.func46, Tryd.ntmps46
  go_wp2_with fail
  go_ret
  exact ⟨rfl, HU.out.alloc _⟩

theorem enters58 : ∀ args w, (callFunc 58 args).run Tryd.prog w = .ok (.enter 58 args) w := enters_of Tryd.func58 (by kernel_rfl) rfl
theorem enters46 : ∀ args w, (callFunc 46 args).run Tryd.prog w = .ok (.enter 46 args) w := enters_of Tryd.func46 (by kernel_rfl) rfl

set_option maxRecDepth 100000 in
theorem at_ok (v : Value) (l : List Fd) (k : ByteArray) (w : World) (h : RecAt w v l) :
    Calls Tryd.prog 44 #[v, .string k] w fun e w' => e = .returned (.int .i64 (posF l k)) ∧ Upd [] w w' := by
  have u0 := (Upd.refl [] w).alloc (.cells #[.string k] 9)
  have hcon := idxField_ok 58 #[.pointer (some ⟨w.heap.size, 0, none⟩)] (fun x => decide (x.nm = k)) enters58 v l (w.alloc (.cells #[.string k] 9)) (h.keep u0) (at1_ok k w.heap.size _ (by rw [heap_alloc, if_pos rfl]))
  have HU := Lib.hid u0
  clear u0
  obtain ⟨a, cap, rfl, -, -⟩ := h.isSlice
  change Calls Tryd.prog 45 _ _ _ at hcon
  have hpos : idxF (fun x => decide (x.nm = k)) l = posF l k := rfl
  rw [hpos] at hcon
  clear hpos h
  generalize posF l k = r at *
  go_enter Tryd.func44, Tryd.ntmps44
  go_wp2_with (go_at_call 45; refine hcon.mono ?_; rintro e w' ⟨rfl, hu⟩)
  go_ret
  exact ⟨rfl, HU.out.trans hu⟩

set_option maxRecDepth 100000 in
set_option maxHeartbeats 1000000 in
theorem get_ok (v : Value) (l : List Fd) (k : ByteArray) (w : World) (h : RecAt w v l) : Calls Tryd.prog 31 #[v, .string k] w (GetPost (getF l k) w) := by
  have HR := Lib.hid (fun (W : World) (u : Upd [] w W) => h.keep u)
  obtain ⟨a, cap, rfl, h1, h2, h3⟩ := h
  have H3 := Lib.hid h3
  unfold maxLen at h2
  have HC := Lib.hid (at_ok _ l k _ (HR.out _ ((Upd.refl [] w).alloc (boxF noF))))
  clear h3
  go_enter Tryd.func31, Tryd.ntmps31
  go_wp2_with fail
  refine HC.out.mono ?_
  rintro e w1 ⟨rfl, hu⟩
  have hb : w1.heap[w.heap.size]? = some (boxF noF) := by rw [hu.block _ (by simp) (by simp), heap_alloc, if_pos rfl]
  have hlt := lt_of_blk hb
  have b0 : w1.cell? ⟨w.heap.size, 0, none⟩ = some (.string ByteArray.empty) := cell_blk hb 0
  have b1 : w1.cell? ⟨w.heap.size, 1, none⟩ = some (.bool false) := cell_blk hb 1
  have b2 : w1.cell? ⟨w.heap.size, 2, none⟩ = some (.int .i64 0) := cell_blk hb 2
  have b3 : w1.cell? ⟨w.heap.size, 3, none⟩ = some (.string ByteArray.empty) := cell_blk hb 3
  have fz := frozen_blk hb
  have HU : Hid (Upd [] w w1) := Lib.hid (((Upd.refl [] w).alloc _).trans hu)
  clear hu hb HC
  rcases posF_cases l k with ⟨hp, -, hg⟩ | ⟨i, hi, hp, -, -, hg⟩
  · rw [hp]
    have HG := Lib.hid hg
    clear hp hg
    go_wp2_with fail
    try simp only [Exit.inBlock, Exit.then]
    refine bodyPost_ret (by simp [results, Tryd.results31, go_sem, World.cell?_setCell_same _ _ _ b0, b1, b2, b3]; try rfl) rfl ?_
    exact ⟨by rw [HG.out]; rfl, (((HU.out.setCellNew (Nat.le_refl _) 0 _).setCellNew (Nat.le_refl _) 1 _).setCellNew (Nat.le_refl _) 2 _).setCellNew (Nat.le_refl _) 3 _⟩
  · rw [hp]
    have HG := Lib.hid hg
    obtain ⟨b, off, rfl, hf⟩ := H3.out i hi
    have hblt := hf.lt
    have hne : b ≠ w.heap.size := by omega
    obtain ⟨c0, c1, c2, c3⟩ := hf.upd HU.out (by simp)
    clear hf hp hg
    have hi' : (i : Int) < (l.length : Int) := by omega
    generalize l[i] = x at *
    go_wp2_with fail
    try simp only [Exit.inBlock, Exit.then]
    refine bodyPost_ret (by simp [results, Tryd.results31, go_sem, World.cell?_setCell_same _ _ _ b0, b1, b2, b3]; try rfl) rfl ?_
    exact ⟨by rw [HG.out]; rfl, (((HU.out.setCellNew (Nat.le_refl _) 0 _).setCellNew (Nat.le_refl _) 1 _).setCellNew (Nat.le_refl _) 2 _).setCellNew (Nat.le_refl _) 3 _⟩
end Go.Proofs.YtdokpfgdddfdfaaDoor
