/- The changes: what each does to a record. -/
import Derived.Test.YtdokpfgdddfdfaaDoorDn
import Derived.Lib.LaidTab
import Derived.Lib.ItoaNum
namespace Go.Proofs.YtdokpfgdddfdfaaDoor
open Go.RowKit

/-- The table that strconv reads. -/
def Tab (w : World) : Prop := Lib.TabIs Tryd.prog w "internal/strconv.uint64pow10" .u64 Lib.pow10Tab

theorem Tab.upd {w w' : World} (h : Tab w) (u : Upd [] w w') : Tab w' := by
  unfold Tab Lib.TabIs World.var? at *
  cases hg : Tryd.prog.globalNamed "internal/strconv.uint64pow10" with
  | none => simp [hg] at h
  | some g =>
    simp only [hg, Option.bind_some] at h ⊢
    cases hb : w.heap[g]? with
    | none => simp [hb] at h
    | some o => rw [u.block g (lt_of_blk hb) (by simp)]; rw [hb] at h ⊢; exact h

def itoaB (n : Int) : ByteArray := ⟨(Lib.itoa n).toArray⟩

def withinB (n : Int) : Bool := decide (-1000000000000000 ≤ n ∧ n ≤ 1000000000000000)

set_option maxRecDepth 100000 in
theorem within_ok (n : Int) (w : World) : Calls Tryd.prog 53 #[.int .i64 n] w fun e w' => e = .returned (.bool (withinB n)) ∧ w' = w := by
  unfold withinB
  by_cases h1 : -1000000000000000 ≤ n <;> by_cases h2 : n ≤ 1000000000000000
  all_goals
    simp only [h1, h2, and_self, and_true, and_false, decide_true, decide_false]
    go_enter Tryd.func53, Tryd.ntmps53
    go_wp2_with fail
    go_ret
    exact ⟨rfl, rfl⟩

def boxC (c : Ch) : Obj := .cells #[.int .i64 c.kd, .string c.nm, .string c.to, .string c.f.nm, .bool c.f.tx, .int .i64 c.f.n, .string c.f.s] 47

/-- What a change hands back: a record; it is the one that came, or a new one. -/
def RP (l' : List Fd) (v : Value) (w : World) (e : Ending) (w' : World) : Prop := ∃ v', e = .returned v' ∧ RecAt w' v' l' ∧ (v' = v ∨ Own w' w.heap.size v' l') ∧ Upd [] w w'

theorem RP.of_own {l' : List Fd} {v v' : Value} {w w0 w' : World} (u : Upd [] w w0) (ho : Own w' w0.heap.size v' l') (hu : Upd [] w0 w') : RP l' v w (.returned v') w' :=
  ⟨v', rfl, ho.recAt, Or.inr (own_mono ho u.size), u.trans hu⟩

theorem RP.same {l' : List Fd} {v : Value} {w w' : World} (h : RecAt w v l') (u : Upd [] w w') : RP l' v w (.returned v) w' := ⟨v, rfl, h.keep u, Or.inl rfl, u⟩

set_option maxRecDepth 100000 in
theorem ch1_ok (v : Value) (l : List Fd) (c : Ch) (f : Fd) (w : World) (h : RecAt w v l) (hl : l.length * 48 ≤ 140737488355328) : Calls Tryd.prog 48 #[v, aggC c, aggF f] w (RP (dropF l f.nm) v w) := by
  have u0 : Upd [] w ((w.alloc (boxC c)).alloc (boxF f)) := ((Upd.refl [] w).alloc _).alloc _
  have HC := Lib.hid (drop_ok v l f.nm _ (h.keep u0) hl)
  have HU := Lib.hid u0
  clear u0
  obtain ⟨a, cap, rfl, -, -⟩ := h.isSlice
  clear h
  go_enter Tryd.func48, Tryd.ntmps48
  go_wp2_with fail
  refine HC.out.mono ?_
  rintro e w1 ⟨v1, rfl, ho, hu⟩
  have HF : Hid (RP (dropF l f.nm) (.slice a l.length cap) w (.returned v1) w1) := Lib.hid (RP.of_own HU.out ho hu)
  clear ho hu
  go_wp2_with fail
  go_ret
  exact HF.out

def renF (l : List Fd) (f : Fd) (to : ByteArray) : List Fd := if (getF l to).isSome then l else setF (dropF l f.nm) { f with nm := to }

theorem dropF_length (l : List Fd) (k : ByteArray) : (dropF l k).length ≤ l.length := by
  unfold dropF
  rw [List.length_eraseP]
  split <;> omega

set_option maxRecDepth 100000 in
set_option maxHeartbeats 1000000 in
theorem ch2_ok (v : Value) (l : List Fd) (c : Ch) (f : Fd) (w : World) (h : RecAt w v l) (hl : (l.length + 1) * 48 ≤ 140737488355328) :
    Calls Tryd.prog 50 #[v, aggC c, aggF f] w (RP (renF l f c.to) v w) := by
  have HR := Lib.hid (fun (W : World) (u : Upd [] w W) => h.keep u)
  have HRP := Lib.hid h
  obtain ⟨a, cap, rfl, -, -⟩ := h.isSlice
  clear h
  have u0 : Upd [] w ((w.alloc (boxC c)).alloc (boxF f)) := ((Upd.refl [] w).alloc _).alloc _
  have bc0 : ((w.alloc (boxC c)).alloc (boxF f)).heap[w.heap.size]? = some (boxC c) := by rw [heap_alloc, if_neg (by simp), heap_alloc, if_pos rfl]
  have bf0 : ((w.alloc (boxC c)).alloc (boxF f)).heap[w.heap.size + 1]? = some (boxF f) := by rw [heap_alloc, if_pos (by simp)]
  have HG := Lib.hid (get_ok _ l c.to _ (HR.out _ u0))
  have H0 := Lib.hid (And.intro u0 (And.intro bc0 bf0))
  clear u0 bc0 bf0
  obtain ⟨nm, tx, n, s⟩ := f
  go_enter Tryd.func50, Tryd.ntmps50
  go_wp2_with fail
  refine HG.out.mono ?_
  rintro e w1 ⟨rfl, hu1⟩
  have bc := (hu1.block w.heap.size (lt_of_blk H0.out.2.1) (by simp)).trans H0.out.2.1
  have bf := (hu1.block (w.heap.size + 1) (lt_of_blk H0.out.2.2) (by simp)).trans H0.out.2.2
  have HU1 : Hid (Upd [] w w1) := Lib.hid (H0.out.1.trans hu1)
  have f0 : w1.cell? ⟨w.heap.size + 1, 0, none⟩ = some (.string nm) := cell_blk bf 0
  have hlt := lt_of_blk bf
  have HBC := Lib.hid bc
  have HBF := Lib.hid bf
  clear hu1 H0 HG bc bf
  cases hg : getF l c.to with
  | some x =>
    have HF : Hid (renF l ⟨nm, tx, n, s⟩ c.to = l) := Lib.hid (by unfold renF; rw [hg]; rfl)
    clear hg
    obtain ⟨xn, xt, xi, xs⟩ := x
    go_wp2_with fail
    go_ret
    rw [HF.out]
    exact RP.same HRP.out (HU1.out.alloc _)
  | none =>
    have HF : Hid (renF l ⟨nm, tx, n, s⟩ c.to = setF (dropF l nm) ⟨c.to, tx, n, s⟩) := Lib.hid (by unfold renF; rw [hg]; rfl)
    clear hg
    go_wp2_with fail
    have u2 : Upd [] w (w1.alloc (boxF noF)) := HU1.out.alloc _
    have hD := drop_ok _ l nm _ (HR.out _ u2) (by omega)
    refine hD.mono ?_
    rintro e w2 ⟨v2, rfl, ho2, hu2⟩
    replace ho2 : Own w2 (w1.alloc (boxF noF)).heap.size v2 (dropF l nm) := ho2
    have bc2 := (hu2.block w.heap.size (by simp; omega) (by simp)).trans ((show (w1.alloc (boxF noF)).heap[w.heap.size]? = some (boxC c) by rw [heap_alloc, if_neg (by omega)]; exact HBC.out))
    have bf2 := (hu2.block (w.heap.size + 1) (by simp; omega) (by simp)).trans ((show (w1.alloc (boxF noF)).heap[w.heap.size + 1]? = some (boxF ⟨nm, tx, n, s⟩) by rw [heap_alloc, if_neg (by omega)]; exact HBF.out))
    have HU2 : Hid (Upd [] w w2) := Lib.hid (u2.trans hu2)
    have HO2 : Hid (RecAt w2 v2 (dropF l nm)) := Lib.hid ho2.recAt
    have g2 : w2.cell? ⟨w.heap.size, 2, none⟩ = some (.string c.to) := cell_blk bc2 2
    have y0 : w2.cell? ⟨w.heap.size + 1, 0, none⟩ = some (.string nm) := cell_blk bf2 0
    have y1 : w2.cell? ⟨w.heap.size + 1, 1, none⟩ = some (.bool tx) := cell_blk bf2 1
    have y2 : w2.cell? ⟨w.heap.size + 1, 2, none⟩ = some (.int .i64 n) := cell_blk bf2 2
    have y3 : w2.cell? ⟨w.heap.size + 1, 3, none⟩ = some (.string s) := cell_blk bf2 3
    have fz := frozen_blk bf2
    have hne : ∀ b off n cap, v2 = .slice (some ⟨b, off, none⟩) n cap → b ∉ [w.heap.size + 1] := fun b off n cap e hm => by
      subst e
      simp at hm
      subst hm
      have := (ho2.lt (w.heap.size + 1) rfl).1
      simp at this
      omega
    have HNE := Lib.hid hne
    have HD := Lib.hid (dropF_length l nm)
    obtain ⟨a2, cap2, rfl, -, -⟩ := ho2.recAt.isSlice
    clear hne bc2 bf2 hu2 ho2 hD u2 f0
    generalize (dropF l nm).length = N at *
    go_wp2_with fail
    have u3 : Upd [w.heap.size + 1] w2 (w2.setCell ⟨w.heap.size + 1, 0, none⟩ (.string c.to)) := (Upd.refl _ _).setCell (by simp) _ _
    have hS := set_ok _ (dropF l nm) ⟨c.to, tx, n, s⟩ _ (RecAt.upd HO2.out u3 (fun b off n cap e => HNE.out b off n cap e)) (by have := dropF_length l nm; omega)
    refine hS.mono ?_
    rintro e w4 ⟨v4, rfl, ho4, hu4⟩
    have HF2 : Hid (RP (renF l ⟨nm, tx, n, s⟩ c.to) (.slice a l.length cap) w (.returned v4) w4) := Lib.hid (by
      rw [HF.out]
      exact RP.of_own (HU2.out.setCellNew (by omega) _ _) ho4 hu4)
    clear ho4 hu4 hS u3
    go_wp2_with fail
    go_ret
    exact HF2.out
end Go.Proofs.YtdokpfgdddfdfaaDoor
