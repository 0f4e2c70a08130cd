/- Records: the document's Set. -/
import Derived.Test.YtdokpfgdddfdfaaDoorRec6
namespace Go.Proofs.YtdokpfgdddfdfaaDoor
open Go.RowKit

def boxF (x : Fd) : Obj := .cells #[.string x.nm, .bool x.tx, .int .i64 x.n, .string x.s] 30

theorem own_empty_at (w : World) {B base : Nat} (hB : w.heap.size = B) (hb : base ≤ B) : Own (w.alloc (.cells #[] 30)) base (.slice (some ⟨B, 0, none⟩) 0 0) [] := by
  subst hB
  exact ⟨rfl, .inr ⟨w.heap.size, 0, #[], rfl, hb, by rw [heap_alloc, if_pos rfl], Nat.le_refl _, by unfold maxLen; omega, rfl, rfl⟩⟩

set_option maxRecDepth 100000 in
set_option maxHeartbeats 800000 in
theorem refSet_hit (v : Value) (l : List Fd) (x : Fd) (w : World) (h : RecAt w v l) (hl : l.length * 48 ≤ 140737488355328) {i : Nat} (hi : i < l.length) (hp : posF l x.nm = i) :
    Calls Tryd.prog 35 #[v, aggF x] w (OwnPost (l.set i x) w) := by
  have HR := Lib.hid (fun (W : World) (u : Upd [] w W) => h.keep u)
  have HP := Lib.hid hp
  obtain ⟨a, cap, rfl, -⟩ := h
  clear hp
  go_enter Tryd.func35, Tryd.ntmps35
  go_wp2_with fail
  have hF := refFind_ok (.slice a l.length cap) l x.nm _ (HR.out _ ((Upd.refl _ _).alloc (boxF x)))
  rw [HP.out] at hF
  refine hF.mono ?_
  rintro e w1 ⟨rfl, rfl⟩
  clear hF
  go_wp2_with (at_builtin; refine wpList_append_rec rfl _ _ rfl (base := w.heap.size) (l := []) rfl (own_empty_at _ (B := w.heap.size + 1) (by simp) (by omega)) rfl (HR.out _ (((Upd.refl _ _).alloc _).alloc _)).src.2 ?c1 ?c2 ?_)
  case c1 => simp; omega
  case c2 => simp; omega
  intro v' w1 hown hgrow
  have hu1 : Upd [] w w1 := (((Upd.refl [] w).alloc _).alloc _).grown hgrow (fun k hk => by simp [Value.ownBlock] at hk; omega)
  have hbx : w1.heap[w.heap.size]? = some (boxF x) := by
    rw [hgrow.block _ (by simp; omega) (by simp [Value.ownBlock]), heap_alloc, if_neg (by simp), heap_alloc, if_pos rfl]
  have x0 : w1.cell? ⟨w.heap.size, 0, none⟩ = some (.string x.nm) := cell_blk hbx 0
  have x1 : w1.cell? ⟨w.heap.size, 1, none⟩ = some (.bool x.tx) := cell_blk hbx 1
  have x2 : w1.cell? ⟨w.heap.size, 2, none⟩ = some (.int .i64 x.n) := cell_blk hbx 2
  have x3 : w1.cell? ⟨w.heap.size, 3, none⟩ = some (.string x.s) := cell_blk hbx 3
  have hown' : Own w1 w.heap.size v' l := by simpa using hown
  have HO := Lib.hid hown'
  have HU := Lib.hid hu1
  rcases hown'.2 with ⟨_, hn⟩ | ⟨g, cap', cur, rfl, hg, hh, r1, r2, r3, r4⟩
  · omega
  have hfz := frozen_blk hh
  have hc := fun o (ho : o < cur.size) => show w1.cell? ⟨g, o, none⟩ = some (cur[o]'ho) by rw [cell_blk hh]; exact Array.getElem?_eq_getElem ho
  have y0 := hc (i * 4) (by omega)
  have y1 := hc (i * 4 + 1) (by omega)
  have y2 := hc (i * 4 + 2) (by omega)
  have y3 := hc (i * 4 + 3) (by omega)
  clear hown hgrow hown' hu1 hc hh r4 hbx
  have hii : (i : Int) < (l.length : Int) := by omega
  go_wp2_with fail
  obtain ⟨hS, -⟩ := HO.out.set hi x (alike_refl _)
  have HS : Hid (Own _ w.heap.size (.slice (some ⟨g, 0, none⟩) l.length cap') (l.set i x)) := Lib.hid hS
  have hu := (((HU.out.setCellNew hg (i * 4) (.string x.nm)).setCellNew hg (i * 4 + 1) (.bool x.tx)).setCellNew hg (i * 4 + 2) (.int .i64 x.n)).setCellNew hg (i * 4 + 3) (.string x.s)
  go_ret
  exact ⟨_, rfl, HS.out, hu⟩
end Go.Proofs.YtdokpfgdddfdfaaDoor
