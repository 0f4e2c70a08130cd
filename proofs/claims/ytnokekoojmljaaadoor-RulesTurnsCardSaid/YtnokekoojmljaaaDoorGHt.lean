/- The rules' Holds. -/
import Derived.Test.YtnokekoojmljaaaDoorGZh
namespace Go.Proofs.YtnokekoojmljaaaDoor
open Go.RowKit

/-- Where a truth lies in a slot, an error in a variable. -/
theorem res_hb {fn : Func} {tmps : Array Value} {W : World} {s1 s2 B2 : Nat} {b : Bool} {n : Int} (hr : fn.results = #[.tmp s1, .cell s2 27])
    (h1 : tmps.getD s1 undef = .bool b) (h2 : tmps.getD s2 undef = .pointer (some ⟨B2, 0, none⟩)) (hb2 : W.heap[B2]? = some (boxI n)) :
    (results fn tmps).run Tryd.prog W = .ok (.tuple #[.bool b, .int .i64 n]) W := by
  have y0 : W.cell? ⟨B2, 0, none⟩ = some (.int .i64 n) := cell_blk hb2 0
  simp only [Array.getD_eq_getD_getElem?] at h1 h2
  simp [results, hr, h1, h2, go_sem, y0]

set_option maxRecDepth 100000 in
set_option maxHeartbeats 2000000 in
theorem Holds_ok (P : Pl) (hP : FitP P) (vs vg : Value) (c : Cd) (hf : FitC c) (w : World) (hT : Tab w) (hp : PlAt w P vs vg) (hka : KidsAt w c.a.av c.a.kids) (hkb : KidsAt w c.b.av c.b.kids) :
    Calls Tryd.prog 22 #[aggC c, .string P.st, vs, vg] w fun e w' => e = .returned (hbT (holdsX P c)) ∧ Upd [] w w' := by
  have u0 : Upd [] w ((w.alloc (boxC c)).alloc (boxI 0)) := ((Upd.refl [] w).alloc _).alloc _
  have b2 : ((w.alloc (boxC c)).alloc (boxI 0)).heap[w.heap.size + 1]? = some (boxI 0) := by rw [heap_alloc, if_pos (by simp)]
  have HV := Lib.hid (holds_ok P hP vs vg c hf.2.1 hf.2.2 _ (hT.upd u0) (hp.keep u0) (hka.keep u0) (hkb.keep u0))
  have H0 := Lib.hid (And.intro u0 b2)
  obtain ⟨aa, ac, haa⟩ := hka.isSlice
  obtain ⟨ba, bc, hba⟩ := hkb.isSlice
  obtain ⟨sa, sc, hvs, -, -⟩ := hp.1.isSlice
  obtain ⟨ga, gc, hvg, -, -⟩ := hp.2.isSlice
  clear hT hp hka hkb hf hP u0 b2
  subst hvs hvg
  generalize holdsX P c = r at *
  obtain ⟨st, state, given⟩ := P
  obtain ⟨kd, nt, ⟨akd, an, as_, aav, akids⟩, ⟨bkd, bn, bs, bav, bkids⟩⟩ := c
  dsimp only at haa hba H0 HV
  subst haa hba
  go_enter_defers Tryd.func22, Tryd.ntmps22
  go_wp2_with fail
  refine HV.out.mono ?_
  rintro e w1 ⟨rfl, hu1⟩
  have hb2 := (hu1.block _ (lt_of_blk H0.out.2) (by simp)).trans H0.out.2
  have HU : Hid (Upd [] w w1) := Lib.hid (H0.out.1.trans hu1)
  clear hu1 HV H0
  cases r with
  | error cc =>
    have HB2 := Lib.hid hb2
    clear hb2
    dsimp only [endV]
    go_wp2_with fail
    refine leaves_cons (f := 48) (args := #[.pointer (some ⟨w.heap.size + 1, 0, none⟩)]) (by simp) (by simp [go_sem]) ?_
    refine (caught_err _ 0 cc _ HB2.out).mono ?_
    rintro e u' w2 ⟨rfl, rfl, hb, hu2⟩
    refine ⟨.tuple #[.bool false, .int .i64 cc], ?_, rfl, ?_⟩
    · exact res_hb Tryd.results22 (by rfl) (by rfl) (B2 := w.heap.size + 1) hb
    · exact HU.out.next hu2 (fun q hq hlt => by simp at hq; omega)
  | ok b =>
    have y0 := cell_blk hb2 0
    have fy := frozen_blk hb2
    have HB2 := Lib.hid hb2
    clear hb2
    dsimp only [endV]
    go_wp2_with fail
    refine leaves_cons (f := 48) (args := #[.pointer (some ⟨w.heap.size + 1, 0, none⟩)]) (by simp) (by simp [go_sem]) ?_
    refine (caught_idle _ _).mono ?_
    rintro e u' w2 ⟨rfl, rfl, hu2⟩
    have hW2 : (w1.setCell ⟨w.heap.size + 1, 0, none⟩ (.int .i64 0)).heap[w.heap.size + 1]? = some (boxI 0) := box_set1 HB2.out _ (a0 := .int .i64 0)
    refine ⟨.tuple #[.bool b, .int .i64 0], ?_, rfl, ?_⟩
    · exact res_hb Tryd.results22 (by rfl) (by rfl) (B2 := w.heap.size + 1) ((hu2.block _ (lt_of_blk hW2) (by simp)).trans hW2)
    · exact (HU.out.setCellNew (by omega) 0 _).trans hu2
end Go.Proofs.YtnokekoojmljaaaDoor
