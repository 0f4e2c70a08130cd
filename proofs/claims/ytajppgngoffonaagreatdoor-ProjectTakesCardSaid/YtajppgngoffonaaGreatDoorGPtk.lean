/- A view takes an entry. -/
import Derived.Test.YtajppgngoffonaaGreatDoorGPt
import Derived.Test.YtajppgngoffonaaGreatDoorGEw
import Derived.Test.YtajppgngoffonaaGreatDoorGUa
import Derived.Test.YtajppgngoffonaaGreatDoorGIt
import Derived.Test.YtajppgngoffonaaGreatDoorGHo
import Derived.Test.YtajppgngoffonaaGreatDoorGFo
namespace Go.Proofs.YtajppgngoffonaaGreatDoor
open Go.RowKit

/-- A record is not in a view's own blocks. -/
theorem rec_view {w w' : World} {vb mb : Nat} {nm : ByteArray} {sa sn sc la ln lc : _} {cur : Int} {L : List Rw} (hbox : w.heap[vb]? = some (boxVw nm (.slice sa sn sc) (.slice la ln lc) cur mb)) (hm : RowsAt w mb L) {v : Value} {l : List Fd} (hr : RecAt w v l) {F : List Nat} (hF : ∀ k ∈ F, k = vb ∨ k = mb) (u : Upd F w w') : RecAt w' v l := by
  obtain ⟨a, cap, hv, h1, h2, h3⟩ := hr
  refine ⟨a, cap, hv, h1, h2, fun i hi => ?_⟩
  obtain ⟨b, off, rfl, hf⟩ := h3 i hi
  refine ⟨b, off, rfl, hf.upd u fun q => ?_⟩
  have a0 := hf.1
  have a1 := hf.2.1
  rcases hF b q with rfl | rfl
  · rw [cell_blk hbox] at a0 a1
    generalize off + i * 4 = o at *
    match o, a0, a1 with
    | 0, a0, a1 => simp at a1
    | 1, a0, a1 => simp at a0
    | 2, a0, a1 => simp at a0
    | 3, a0, a1 => simp at a0
    | 4, a0, a1 => simp at a0
    | n + 5, a0, a1 => simp at a0
  · obtain ⟨es, clock, hb, -⟩ := hm
    simp [World.cell?, hb] at a0

theorem apply_ok2 (v : Value) (us : List U.Up) (ty : ByteArray) (ver : Int) (fv : Value) (r : List Fd) (w : World) (hu : U.UpsAt w v us) (hr : RecAt w fv r) (hl : (max r.length 16 + 1) * 48 ≤ 140737488355328) (hus : us.length ≤ 9223372036854775806)
    (hT : Tab w) (hN : ∀ x ∈ r, OkF x) (hC : ∀ u ∈ us, ∀ c ∈ u.ch, OkF c.f) (hv : In64 ver) :
    Calls Tryz.prog 21 #[v, .agg #[.string ty, .int .i64 ver, fv]] w fun e w' => ∃ a c, e = .returned (.agg #[.string ty, .int .i64 (U.applyU us ty ver r).1, .slice a (U.applyU us ty ver r).2.length c]) ∧ Own w' w.heap.size (.slice a (U.applyU us ty ver r).2.length c) (U.applyU us ty ver r).2 ∧ Upd [] w w' :=
  (U.apply_ok v us ty ver fv r w hu hr hl hus hT (fun x hx => (hN x hx).2) (fun u h c hc => (hC u h c hc).2) hv).mono fun e w' ⟨fv', he, ho, hu⟩ => by
    obtain ⟨a, c, rfl, -, -⟩ := ho.recAt.isSlice
    exact ⟨a, c, he, ho, hu⟩

theorem held4 {W W' : World} {a b : Addr} {c d : Addr} {v1 v2 v3 v4 : Value} (ha : a.spot = none ∧ b.spot = none ∧ c.spot = none ∧ d.spot = none) (u : Upd [] W W') (h : W.cell? a = some v1 ∧ W.cell? b = some v2 ∧ W.cell? c = some v3 ∧ W.cell? d = some v4) :
    W'.cell? a = some v1 ∧ W'.cell? b = some v2 ∧ W'.cell? c = some v3 ∧ W'.cell? d = some v4 := by
  obtain ⟨a1, a2, a3⟩ := a
  obtain ⟨b1, b2, b3⟩ := b
  obtain ⟨c1, c2, c3⟩ := c
  obtain ⟨d1, d2, d3⟩ := d
  obtain ⟨rfl, rfl, rfl, rfl⟩ := ha
  exact ⟨cell_keep u h.1, cell_keep u h.2.1, cell_keep u h.2.2.1, cell_keep u h.2.2.2⟩

theorem rec_nil (w : World) : RecAt w (.slice none 0 0) [] := ⟨none, 0, rfl, Nat.le_refl _, by unfold maxLen; omega, fun i hi => absurd hi (by simp)⟩

theorem value_okF (P : Pl) (hP : FitP P) (x : Xp) (hx : fitX x) (f : Fd) (h : valueX P x = .ok f) : OkF f := by
  unfold valueX at h
  split at h
  · cases h
  · split at h
    · exact okF_eval P hP x hx f h
    · cases h

/-- A value, or an error's number. -/
theorem evT_two (r : Rs) : ∃ f c, evT r = .tuple #[aggF f, .int .i64 c] ∧ ((∃ e, r = .error e ∧ c = e) ∨ (r = .ok f ∧ c = 0)) := by
  cases r with
  | error e => exact ⟨_, _, rfl, Or.inl ⟨e, rfl, rfl⟩⟩
  | ok f => exact ⟨_, _, rfl, Or.inr ⟨rfl, rfl⟩⟩

abbrev boxEv (ty : ByteArray) (v : Int) (fv : Value) : Obj := .cells #[.string ty, .int .i64 v, fv] 34
abbrev boxNt (e : Nt) : Obj := .cells #[.int .i64 e.pos, .string e.st, .int .i64 e.num, .string e.ty, .int .i64 e.ver, e.fv] 36

set_option maxRecDepth 100000 in
set_option maxHeartbeats 2000000 in
theorem take_skip {W0 w : World} {vb mb : Nat} {nm : ByteArray} {sv lv : Value} {sums : List Sm} {us : List U.Up} {cur : Int} {L : List Rw} (h : ViewAt W0 w vb mb nm sv lv sums us cur L) (e : Nt) (hsl : ∃ a n c, e.fv = .slice a n c) (hne : e.pos ≠ cur) :
    Calls Tryz.prog 6 #[.pointer (some ⟨vb, 0, none⟩), aggNt e] w fun E w' => E = .returned (.bool false) ∧ Upd [] w w' := by
  have c3 : w.cell? ⟨vb, 3, none⟩ = some (.int .i64 cur) := cell_blk h.box 3
  have hvl := lt_of_blk h.box
  obtain ⟨a, n, c, hfv⟩ := hsl
  obtain ⟨pos, st, num, ty, ver, fv, fs⟩ := e
  dsimp only at hfv hne
  subst hfv
  have hq : (pos != cur) = true := by simpa using hne
  have hv3 : ¬ vb = w.heap.size := by omega
  clear h
  go_enter Tryz.func6, Tryz.ntmps6
  go_wp2_with fail
  change Code.wp _ _ _ _ (w.alloc (boxNt ⟨pos, st, num, ty, ver, .slice a n c, fs⟩))
  have ua : Upd [] w (w.alloc (boxNt ⟨pos, st, num, ty, ver, .slice a n c, fs⟩)) := (Upd.refl [] w).alloc _
  have e0 : (w.alloc (boxNt ⟨pos, st, num, ty, ver, .slice a n c, fs⟩)).cell? ⟨w.heap.size, 0, none⟩ = some (.int .i64 pos) := cell_blk (heap_top _ _) 0
  replace c3 := cell_keep ua c3
  have HU := Lib.hid ua
  clear ua
  generalize (w.alloc (boxNt ⟨pos, st, num, ty, ver, .slice a n c, fs⟩)) = W at *
  go_quiet (fail)
  go_wp2_with fail
  go_ret
  exact ⟨rfl, by exact HU.out.alike ⟨rfl, rfl, rfl⟩⟩

set_option maxRecDepth 100000 in
set_option maxHeartbeats 2000000 in
theorem take_on {W0 w : World} {vb mb : Nat} {nm : ByteArray} {sv lv : Value} {sums : List Sm} {us : List U.Up} {cur : Int} {L : List Rw} (h : ViewAt W0 w vb mb nm sv lv sums us cur L) (e : Nt) (hcur : 0 ≤ cur ∧ cur ≤ 1000000000000000) (he : e.pos = cur)
    (hr : RecAt w e.fv e.fs) (hft : FitNt e) (hfs : ∀ s ∈ sums, FitS s) (hfu : ∀ u ∈ us, ∀ c ∈ u.ch, OkF c.f) (hus : us.length ≤ 9223372036854775806) (hT : Tab W0) :
    Calls Tryz.prog 6 #[.pointer (some ⟨vb, 0, none⟩), aggNt e] w fun E w' => E = .returned (.bool true) ∧ Upd [vb, mb] w w' ∧ ViewAt W0 w' vb mb nm sv lv sums us (cur + 1) (entryR us sums L e) := by
  have c1 : w.cell? ⟨vb, 1, none⟩ = some sv := cell_blk h.box 1
  have c2 : w.cell? ⟨vb, 2, none⟩ = some lv := cell_blk h.box 2
  have c3 : w.cell? ⟨vb, 3, none⟩ = some (.int .i64 cur) := cell_blk h.box 3
  have fz := frozen_blk h.box
  have hvl := lt_of_blk h.box
  have hv3 : ¬ vb = w.heap.size := by omega
  have hml := h.rows.lt
  have HV := Lib.hid h
  obtain ⟨fa, fcap, hfv, -, -⟩ := hr.isSlice
  obtain ⟨sa, scap, hsv, hsl1, hsl2, -⟩ := h.sums
  unfold maxLen at hsl2
  have hslen : sums.length ≤ 9223372036854775807 := by omega
  obtain ⟨la, lcap, hlv, -, -, -⟩ := h.ups
  obtain ⟨pos, st, num, ty, ver, fv, fs⟩ := e
  dsimp only at hfv he hr hft
  subst hfv hsv hlv he
  have hq : (pos != pos) = false := by simp
  have hwr : IntKind.i64.wrap (pos + 1) = pos + 1 := IntWalk.i64_in _ (by omega)
  have HR := Lib.hid (And.intro hr (And.intro hft (And.intro hfs (And.intro hfu hT))))
  clear hr hft hfs hfu hT h
  go_enter Tryz.func6, Tryz.ntmps6
  go_wp2_with fail
  change Code.wp _ _ _ _ (w.alloc (boxNt ⟨pos, st, num, ty, ver, .slice fa fs.length fcap, fs⟩))
  have ua : Upd [] w (w.alloc (boxNt ⟨pos, st, num, ty, ver, .slice fa fs.length fcap, fs⟩)) := (Upd.refl [] w).alloc _
  have hE := heap_top w (boxNt ⟨pos, st, num, ty, ver, .slice fa fs.length fcap, fs⟩)
  have hB := (ua.block vb hvl (by simp)).trans HV.out.box
  have HU := Lib.hid (And.intro ua (And.intro hE hB))
  have e0 : (w.alloc (boxNt ⟨pos, st, num, ty, ver, .slice fa fs.length fcap, fs⟩)).cell? ⟨w.heap.size, 0, none⟩ = some (.int .i64 pos) := cell_blk hE 0
  have e1 : (w.alloc (boxNt ⟨pos, st, num, ty, ver, .slice fa fs.length fcap, fs⟩)).cell? ⟨w.heap.size, 1, none⟩ = some (.string st) := cell_blk hE 1
  have e3 : (w.alloc (boxNt ⟨pos, st, num, ty, ver, .slice fa fs.length fcap, fs⟩)).cell? ⟨w.heap.size, 3, none⟩ = some (.string ty) := cell_blk hE 3
  have e4 : (w.alloc (boxNt ⟨pos, st, num, ty, ver, .slice fa fs.length fcap, fs⟩)).cell? ⟨w.heap.size, 4, none⟩ = some (.int .i64 ver) := cell_blk hE 4
  have e5 : (w.alloc (boxNt ⟨pos, st, num, ty, ver, .slice fa fs.length fcap, fs⟩)).cell? ⟨w.heap.size, 5, none⟩ = some (.slice fa fs.length fcap) := cell_blk hE 5
  replace c1 := cell_keep ua c1
  replace c2 := cell_keep ua c2
  replace c3 := cell_keep ua c3
  replace fz := frozen_blk hB
  have hvW := lt_of_blk hB
  have heW := lt_of_blk hE
  clear ua hE hB
  generalize (w.alloc (boxNt ⟨pos, st, num, ty, ver, .slice fa fs.length fcap, fs⟩)) = W at *
  go_quiet (fail)
  go_wp2_with fail
  have hU2 : Upd [vb] W ((W.drewN nq).setCell ⟨vb, 3, none⟩ (.int .i64 (pos + 1))) := ((Upd.refl [vb] W).alike (w'' := W.drewN nq) ⟨rfl, rfl, rfl⟩).setCell (by simp) _ _
  have hbx : ((W.drewN nq).setCell ⟨vb, 3, none⟩ (.int .i64 (pos + 1))).heap[vb]? = some (boxVw nm (.slice sa sums.length scap) (.slice la us.length lcap) (pos + 1) mb) := by
    rw [heap_setCell, if_pos rfl]
    show (W.heap[vb]?).map _ = _
    rw [HU.out.2.2]
    rfl
  have heb := (hU2.block w.heap.size heW (by simp; omega)).trans HU.out.2.1
  replace c1 := cell_blk hbx 1
  replace c2 := cell_blk hbx 2
  replace e1 := cell_blk heb 1
  replace e3 := cell_blk heb 3
  replace e4 := cell_blk heb 4
  replace e5 := cell_blk heb 5
  have H2 := Lib.hid (And.intro hU2 (And.intro hbx heb))
  clear hU2 hbx heb c3 e0 fz
  generalize ((W.drewN nq).setCell ⟨vb, 3, none⟩ (.int .i64 (pos + 1))) = W2 at *
  have hw2 : Upd [vb] w W2 := (HU.out.1.mono (by simp)).trans H2.out.1
  have hw02 : Upd [] W0 W2 := HV.out.upd.next hw2 (fun k hk hlt => by have := HV.out.v0; simp at hk; omega)
  have HA := Lib.hid (fun (V : World) (u : Upd [] W2 V) => apply_ok2 (.slice la us.length lcap) us ty ver (.slice fa fs.length fcap) fs V (HV.out.ups.keep (hw02.trans u)) ((rec_view HV.out.box HV.out.rows HR.out.1 (by simp) hw2).keep u) HR.out.2.1.2.2.2.1 hus (HR.out.2.2.2.2.upd (hw02.trans u)) HR.out.2.1.2.2.2.2 HR.out.2.2.2.1 HR.out.2.1.2.2.1)
  have d2 : W2.cell? ⟨vb, 2, none⟩ = some (.slice la us.length lcap) := c2
  have d3 : W2.cell? ⟨w.heap.size, 3, none⟩ = some (.string ty) := e3
  have d4 : W2.cell? ⟨w.heap.size, 4, none⟩ = some (.int .i64 ver) := e4
  have d5 : W2.cell? ⟨w.heap.size, 5, none⟩ = some (.slice fa fs.length fcap) := e5
  have H3 := Lib.hid (And.intro hw2 hw02)
  have hv2 : vb < W2.heap.size := lt_of_blk H2.out.2.1
  have he2 : w.heap.size < W2.heap.size := lt_of_blk H2.out.2.2
  have hv3' : ¬ vb = W2.heap.size := by omega
  have he3' : ¬ w.heap.size = W2.heap.size := by omega
  clear c2 e3 e4 e5 hw2 hw02
  go_region_held3 (fun w' => w'.cell? ⟨vb, 2, none⟩ = some (.slice la us.length lcap) ∧ w'.cell? ⟨w.heap.size, 3, none⟩ = some (.string ty) ∧ w'.cell? ⟨w.heap.size, 4, none⟩ = some (.int .i64 ver) ∧ w'.cell? ⟨w.heap.size, 5, none⟩ = some (.slice fa fs.length fcap))
    (first
      | (with_reducible exact held4 ⟨rfl, rfl, rfl, rfl⟩ (Upd.refl [] W2).drew ⟨d2, d3, d4, d5⟩)
      | (with_reducible exact held4 ⟨rfl, rfl, rfl, rfl⟩ hv5 ⟨d2, d3, d4, d5⟩)
      | (with_reducible exact held4 ⟨rfl, rfl, rfl, rfl⟩ (hv5.alloc _) ⟨d2, d3, d4, d5⟩)
      | (with_reducible exact held4 ⟨rfl, rfl, rfl, rfl⟩ ((Upd.refl [] W2).alloc _) ⟨d2, d3, d4, d5⟩)
      | (with_reducible exact held4 ⟨rfl, rfl, rfl, rfl⟩ ((Upd.refl [] W2).alloc _).drew ⟨d2, d3, d4, d5⟩)
      | (with_reducible exact held4 ⟨rfl, rfl, rfl, rfl⟩ ((Upd.refl [] W2).drew.alloc _) ⟨d2, d3, d4, d5⟩)
      | (with_reducible exact held4 ⟨rfl, rfl, rfl, rfl⟩ (((hv5.setCellNew (Nat.le_refl _) _ _).setCellNew (Nat.le_refl _) _ _).setCellNew (Nat.le_refl _) _ _) ⟨d2, d3, d4, d5⟩))
    (first
      | (go_at_call 21; (with_reducible refine (HA.out _ ?_).mono ?_); (exact ⟨rfl, rfl, Nat.le_refl _, fun _ _ _ => rfl⟩); rintro e w5 ⟨fa5, fc5, rfl, ho5, hu5⟩; have hv5 : Upd [] W2 w5 := ⟨hu5.os, hu5.output, hu5.size, hu5.block⟩)
      | (go_at_call 21; (with_reducible refine (HA.out _ ?_).mono ?_); (exact ((Upd.refl [] W2).alloc _).drew); rintro e w5 ⟨fa5, fc5, rfl, ho5, hu5⟩; have hv5 : Upd [] W2 w5 := ((Upd.refl [] W2).alloc _).drew.trans hu5; have hz5 := (hu5.block W2.heap.size (by simp) (by simp)).trans (heap_top W2 (.cells #[.string ⟨#[]⟩, .int .i64 0, .slice none 0 0] 34)); have z0 := cell_blk hz5 0; have z1 := cell_blk hz5 1; have z2 := cell_blk hz5 2; have fz5 := frozen_blk hz5))
  · first
      | (have hz := hz5
         have hX : ((((w5.setCell ⟨W2.heap.size, 0, none⟩ (.string ty)).setCell ⟨W2.heap.size, 1, none⟩ (.int .i64 (U.applyU us ty ver fs).1)).setCell ⟨W2.heap.size, 2, none⟩ (.slice fa5 (U.applyU us ty ver fs).2.length fc5))).heap[W2.heap.size]? = some (boxEv ty (U.applyU us ty ver fs).1 (.slice fa5 (U.applyU us ty ver fs).2.length fc5)) := by
           rw [heap_setCell, if_pos rfl, heap_setCell, if_pos rfl, heap_setCell, if_pos rfl, hz]; rfl
         have hu7 : Upd [W2.heap.size] w5 ((((w5.setCell ⟨W2.heap.size, 0, none⟩ (.string ty)).setCell ⟨W2.heap.size, 1, none⟩ (.int .i64 (U.applyU us ty ver fs).1)).setCell ⟨W2.heap.size, 2, none⟩ (.slice fa5 (U.applyU us ty ver fs).2.length fc5))) := (((Upd.refl _ _).setCell (by simp) _ _).setCell (by simp) _ _).setCell (by simp) _ _
         have hrx : RecAt _ (.slice fa5 (U.applyU us ty ver fs).2.length fc5) (U.applyU us ty ver fs).2 := ho5.recAt.upd hu7 (fun b off n c hv q => by
           have hb := (World.ownsRow.lt ho5 b (by simp only [Value.slice.injEq] at hv; obtain ⟨rfl, -, -⟩ := hv; rfl)).1
           simp at q hb
           omega)
         have hux := hv5.next hu7 (fun k hk hlt => by simp at hk; omega)
         have HX := Lib.hid (And.intro hX (And.intro hrx hux))
         have hxs : W2.heap.size ≤ W2.heap.size := Nat.le_refl _
         have hfa5 : Hid (∀ b', (Value.slice fa5 (U.applyU us ty ver fs).2.length fc5).ownBlock = some b' → W2.heap.size ≤ b') := Lib.hid (fun b' hb' => by have := (World.ownsRow.lt ho5 b' hb').1; simp at this; omega)
         clear hX hu7 hrx hux hz hz5 z0 z1 z2 fz5 hu5 hv5 ho5
         generalize hWX : ((((w5.setCell ⟨W2.heap.size, 0, none⟩ (.string ty)).setCell ⟨W2.heap.size, 1, none⟩ (.int .i64 (U.applyU us ty ver fs).1)).setCell ⟨W2.heap.size, 2, none⟩ (.slice fa5 (U.applyU us ty ver fs).2.length fc5))) = W3 at *
         clear hWX
         generalize hXB : W2.heap.size = XB at *)
      | (have hX := heap_top w5 (boxEv ty (U.applyU us ty ver fs).1 (.slice fa5 (U.applyU us ty ver fs).2.length fc5))
         have hrx : RecAt _ (.slice fa5 (U.applyU us ty ver fs).2.length fc5) (U.applyU us ty ver fs).2 := ho5.recAt.keep ((Upd.refl [] w5).alloc (boxEv ty (U.applyU us ty ver fs).1 (.slice fa5 (U.applyU us ty ver fs).2.length fc5)))
         have hux := hv5.alloc (boxEv ty (U.applyU us ty ver fs).1 (.slice fa5 (U.applyU us ty ver fs).2.length fc5))
         have HX := Lib.hid (And.intro hX (And.intro hrx hux))
         have hxs : W2.heap.size ≤ w5.heap.size := hv5.size
         have hfa5 : Hid (∀ b', (Value.slice fa5 (U.applyU us ty ver fs).2.length fc5).ownBlock = some b' → W2.heap.size ≤ b') := Lib.hid (fun b' hb' => (World.ownsRow.lt ho5 b' hb').1)
         clear hX hrx hux hu5 hv5 ho5
         generalize hWX : (w5.alloc (boxEv ty (U.applyU us ty ver fs).1 (.slice fa5 (U.applyU us ty ver fs).2.length fc5))) = W3 at *
         clear hWX
         generalize hXB : w5.heap.size = XB at *)
    have hb3 := (HX.out.2.2.block vb (by omega) (by simp)).trans H2.out.2.1
    have he3 := (HX.out.2.2.block w.heap.size (by omega) (by simp)).trans H2.out.2.2
    have v1 : W3.cell? ⟨vb, 1, none⟩ = some (.slice sa sums.length scap) := cell_blk hb3 1
    have HU3 : Hid (Upd [vb] w W3) := Lib.hid (H3.out.1.next HX.out.2.2 (fun k hk => by simp at hk))
    have HU03 : Hid (Upd [] W0 W3) := Lib.hid (H3.out.2.trans HX.out.2.2)
    have HB3 := Lib.hid (And.intro hb3 he3)
    have hW3 : W2.heap.size ≤ W3.heap.size := HX.out.2.2.size
    clear hb3 he3 c1 d2 d3 d4 d5 e1 HA
    go_wp2_with fail
    have hmX : mb < XB := by have := H3.out.1.size; omega
    have hvW3 : vb < W3.heap.size := lt_of_blk HB3.out.1
    have heW3 : w.heap.size < W3.heap.size := lt_of_blk HB3.out.2
    have HX3 := Lib.hid (And.intro HX.out.1 HX.out.2.1)
    have HXA : Hid (∀ b', (Value.slice fa5 (U.applyU us ty ver fs).2.length fc5).ownBlock = some b' → mb < b') := Lib.hid (fun b' hb' => by have := hfa5.out b' hb'; have := H3.out.1.size; omega)
    have hXl : XB < W3.heap.size := lt_of_blk HX.out.1
    have HM3 : Hid (RowsAt W3 mb L ∧ RGood L) := Lib.hid ⟨HV.out.rows.upd HU3.out (by have := HV.out.ne; simp; omega), HV.out.good⟩
    generalize hfs' : (U.applyU us ty ver fs).2 = fs2 at *
    generalize (U.applyU us ty ver fs).1 = ver2 at *
    have hxe : Hid (entryR us sums L ⟨pos, st, num, ty, ver, .slice fa fs.length fcap, fs⟩ = takeR st ty fs2 sums L) := Lib.hid (by unfold entryR; rw [hfs'])
    have HFX : Hid (∀ f ∈ fs2, OkF f) := Lib.hid (by rw [← hfs']; exact apply_okF HR.out.2.2.2.1 ty ver HR.out.2.1.2.2.2.2)
    clear hfs' HX
    go_loopg [43] sums.length (fun k i wr => ∃ (j : Nat) (L2 : List Rw), i = .int .i64 j ∧ j ≤ sums.length ∧ k = sums.length - j ∧ Hid (Upd [mb] W3 wr) ∧ Hid (RowsAt wr mb L2) ∧ Hid (RGood L2) ∧ Hid (takeR st ty fs2 (sums.drop j) L2 = takeR st ty fs2 sums L))
    case atStart => exact ⟨0, L, rfl, by omega, rfl, Lib.hid (Upd.refl _ _), Lib.hid HM3.out.1, Lib.hid HM3.out.2, Lib.hid rfl⟩
    case round =>
      obtain ⟨j, L2, rfl, hj, rfl, HUr, HRr, HGr, HTr⟩ := hrel
      have hmne := HV.out.ne
      have hbr := (HUr.out.block vb hvW3 (by simp; omega)).trans HB3.out.1
      have her := (HUr.out.block w.heap.size heW3 (by simp; omega)).trans HB3.out.2
      have hxr := (HUr.out.block XB hXl (by simp; omega)).trans HX3.out.1
      have v4 : wr.cell? ⟨vb, 4, none⟩ = some (.map (some mb)) := cell_blk hbr 4
      have e1 : wr.cell? ⟨w.heap.size, 1, none⟩ = some (.string st) := cell_blk her 1
      have x0 : wr.cell? ⟨XB, 0, none⟩ = some (.string ty) := cell_blk hxr 0
      have x2 : wr.cell? ⟨XB, 2, none⟩ = some (.slice fa5 fs2.length fc5) := cell_blk hxr 2
      have hvr : vb < wr.heap.size := lt_of_blk hbr
      have her2 : w.heap.size < wr.heap.size := lt_of_blk her
      have hxr2 : XB < wr.heap.size := lt_of_blk hxr
      have hv5' : ¬ vb = wr.heap.size := by omega
      have he5' : ¬ w.heap.size = wr.heap.size := by omega
      have hx5' : ¬ XB = wr.heap.size := by omega
      have HBr := Lib.hid (And.intro hbr (And.intro her hxr))
      clear hbr her hxr
      by_cases hjl : j < sums.length
      · have hlt : (j : Int) < (sums.length : Int) := by omega
        have HU0r : Hid (Upd [] W0 wr) := Lib.hid (HU03.out.next HUr.out (fun k hk hlt => by have := HV.out.m0; simp at hk; omega))
        obtain ⟨a', cap', hv', -, -, h3⟩ := SumsAt.keep HU0r.out HV.out.sums
        simp only [Value.slice.injEq] at hv'
        obtain ⟨rfl, -, rfl⟩ := hv'
        obtain ⟨b, off, rfl, hc, hk1, hk2⟩ := h3 j hjl
        obtain ⟨d0, ⟨d1, d2, d3, d4⟩, ⟨d5, d6, d7, d8⟩⟩ := Sm9.all hc
        have hft := HR.out.2.2.1 sums[j] (List.getElem_mem hjl)
        have hst := take_drop st ty fs2 sums j hjl L2
        have HK := Lib.hid (And.intro hk1 (And.intro hk2 hft))
        have HST := Lib.hid (hst.symm.trans HTr.out)
        obtain ⟨ka, kc, hka⟩ := hk1.isSlice
        obtain ⟨aa, ac, haa⟩ := hk2.isSlice
        have hblt : b < wr.heap.size := World.block_lt_of_cell? _ _ d0
        have hbne : ¬ b = wr.heap.size := by omega
        clear hst h3 hc hk1 hk2 hft HTr
        generalize sums[j] = s at *
        obtain ⟨sty, ⟨kd, kn, ks, kav, kkids⟩, ⟨ad, an, as_, aav, akids⟩⟩ := s
        dsimp only at d0 d1 d2 d3 d4 d5 d6 d7 d8 hka haa HK HST
        subst hka haa
        by_cases hty : sty = ty
        · have htt : (sty.toList == ty.toList) = true := by rw [hty]; simp
          have htn : (sty.toList != ty.toList) = false := by rw [hty]; simp
          subst hty
          have ub : Upd [] wr (wr.alloc (boxSm ⟨sty, ⟨kd, kn, ks, .slice ka kkids.list.length kc, kkids⟩, ⟨ad, an, as_, .slice aa akids.list.length ac, akids⟩⟩)) := (Upd.refl [] wr).alloc _
          have hsb := heap_top wr (boxSm ⟨sty, ⟨kd, kn, ks, .slice ka kkids.list.length kc, kkids⟩, ⟨ad, an, as_, .slice aa akids.list.length ac, akids⟩⟩)
          have HSB := Lib.hid (And.intro ub hsb)
          have hRx : RecAt wr (.slice fa5 fs2.length fc5) fs2 := HX3.out.2.upd HUr.out (fun b' off' n' c' hv' q => by
            have hb' := HXA.out b' (by simp only [Value.slice.injEq] at hv'; obtain ⟨rfl, -, -⟩ := hv'; rfl)
            simp at q
            omega)
          have HRx := Lib.hid hRx
          have hP : FitP ⟨st, [], fs2⟩ := ⟨HR.out.2.1.2.1, by simp, HFX.out⟩
          have HE1 := Lib.hid (fun (V : World) (u : Upd [] wr V) => Eval_ok ⟨st, [], fs2⟩ hP (.slice none 0 0) (.slice fa5 fs2.length fc5) ⟨kd, kn, ks, .slice ka kkids.list.length kc, kkids⟩ HK.out.2.2.2.1 V (HR.out.2.2.2.2.upd (HU0r.out.trans u)) ⟨rec_nil V, HRx.out.keep u⟩ (HK.out.1.keep u))
          have HE2 := Lib.hid (fun (V : World) (u : Upd [] wr V) => Eval_ok ⟨st, [], fs2⟩ hP (.slice none 0 0) (.slice fa5 fs2.length fc5) ⟨ad, an, as_, .slice aa akids.list.length ac, akids⟩ HK.out.2.2.2.2 V (HR.out.2.2.2.2.upd (HU0r.out.trans u)) ⟨rec_nil V, HRx.out.keep u⟩ (HK.out.2.1.keep u))
          have HER1 := Lib.hid (errIn_value ⟨st, [], fs2⟩ ⟨kd, kn, ks, .slice ka kkids.list.length kc, kkids⟩)
          have HER2 := Lib.hid (errIn_value ⟨st, [], fs2⟩ ⟨ad, an, as_, .slice aa akids.list.length ac, akids⟩)
          have HOK1 := Lib.hid (fun f h => value_okF ⟨st, [], fs2⟩ hP ⟨kd, kn, ks, .slice ka kkids.list.length kc, kkids⟩ HK.out.2.2.2.1 f h)
          have HOK2 := Lib.hid (fun f h => value_okF ⟨st, [], fs2⟩ hP ⟨ad, an, as_, .slice aa akids.list.length ac, akids⟩ HK.out.2.2.2.2 f h)
          have hst2 : Hid (stepR st sty fs2 L2 ⟨sty, ⟨kd, kn, ks, .slice ka kkids.list.length kc, kkids⟩, ⟨ad, an, as_, .slice aa akids.list.length ac, akids⟩⟩ = (match valueX ⟨st, [], fs2⟩ ⟨kd, kn, ks, .slice ka kkids.list.length kc, kkids⟩, valueX ⟨st, [], fs2⟩ ⟨ad, an, as_, .slice aa akids.list.length ac, akids⟩ with
            | .ok k, .ok n => if n.tx then L2 else addR L2 (if k.tx then k.s else itoaB k.n) n.n
            | _, _ => L2)) := Lib.hid (by unfold stepR; exact if_pos rfl)
          clear ub hsb hRx hP
          generalize valueX ⟨st, [], fs2⟩ ⟨kd, kn, ks, .slice ka kkids.list.length kc, kkids⟩ = vk at *
          generalize valueX ⟨st, [], fs2⟩ ⟨ad, an, as_, .slice aa akids.list.length ac, akids⟩ = vn at *
          go_wp2_with fail
          refine (HE1.out _ HSB.out.1).mono ?_
          rintro e w6 ⟨rfl, hu6⟩
          have hsb6 := (hu6.block wr.heap.size (by simp) (by simp)).trans HSB.out.2
          have s5 := cell_blk hsb6 5
          have s6 := cell_blk hsb6 6
          have s7 := cell_blk hsb6 7
          have s8 := cell_blk hsb6 8
          have hu60 : Upd [] wr w6 := HSB.out.1.trans hu6
          replace e1 := cell_keep hu60 e1
          replace x2 := cell_keep hu60 x2
          replace v4 := cell_keep hu60 v4
          have HU6 := Lib.hid hu60
          have hsz6 := hu60.size
          have hl6 : wr.heap.size < w6.heap.size := lt_of_blk hsb6
          have n1 : ¬ w.heap.size = w6.heap.size := by omega
          have n2 : ¬ XB = w6.heap.size := by omega
          have n3 : ¬ vb = w6.heap.size := by omega
          have n4 : ¬ wr.heap.size = w6.heap.size := by omega
          have l1 : w.heap.size < w6.heap.size := by omega
          have l2 : XB < w6.heap.size := by omega
          have l3 : vb < w6.heap.size := by omega
          obtain ⟨kf, kc1, hkT, hkV⟩ := evT_two vk
          rewrite [hkT]
          clear hu6 hu60 hsb6 x0 d0 d1 d2 d3 d4 d5 d6 d7 d8 hkT
          obtain ⟨knm, ktx, kfn, kfs⟩ := kf
          go_wp2_with fail
          have ub7 : Upd [] wr (w6.alloc (boxF ⟨knm, ktx, kfn, kfs⟩)) := HU6.out.alloc _
          have hkb := heap_top w6 (boxF ⟨knm, ktx, kfn, kfs⟩)
          refine (HE2.out _ ub7).mono ?_
          rintro e w7 ⟨rfl, hu7⟩
          have hk7 := (hu7.block w6.heap.size (by simp) (by simp)).trans hkb
          replace v4 := cell_keep hu7 (cell_keep ((Upd.refl [] w6).alloc _) v4)
          have k1 := cell_blk hk7 1
          have k2 := cell_blk hk7 2
          have k3 := cell_blk hk7 3
          have fzk := frozen_blk hk7
          have hl7 : w6.heap.size < w7.heap.size := lt_of_blk hk7
          have HU7 := Lib.hid (And.intro (ub7.trans hu7) hk7)
          obtain ⟨nf, nc1, hnT, hnV⟩ := evT_two vn
          rewrite [hnT]
          clear hu7 ub7 hkb hk7 hnT s5 s6 s7 s8 e1 x2
          obtain ⟨nnm, ntx, nfn, nfs⟩ := nf
          have m3 : ¬ vb = w7.heap.size := by have := HU7.out.1.size; omega
          have m4 : ¬ w6.heap.size = w7.heap.size := by omega
          have l7 : vb < w7.heap.size := by have := HU7.out.1.size; omega
          rcases hkV with ⟨ek, hvk, hkc⟩ | ⟨hvk, hkc⟩
          · have hk0 : ¬ kc1 = 0 := by have := HER1.out ek hvk; omega
            have hstep : Hid (takeR st sty fs2 (sums.drop (j + 1)) L2 = takeR st sty fs2 sums L) := Lib.hid (by rw [← HST.out, hst2.out, hvk])
            clear hnV
            go_wp2_with fail
            go_roundg (sums.length - (j + 1))
            case measure => omega
            case rel => exact ⟨j + 1, L2, by go_num, by omega, rfl, Lib.hid (HUr.out.next (HU7.out.1.alloc _) (fun k hk => by simp at hk)), Lib.hid (HRr.out.upd (HU7.out.1.alloc _) (by simp)), HGr, hstep⟩
          · subst hkc
            rcases hnV with ⟨en, hvn, hnc⟩ | ⟨hvn, hnc⟩
            · have hn0 : ¬ nc1 = 0 := by have := HER2.out en hvn; omega
              have hstep : Hid (takeR st sty fs2 (sums.drop (j + 1)) L2 = takeR st sty fs2 sums L) := Lib.hid (by rw [← HST.out, hst2.out, hvk, hvn])
              go_wp2_with fail
              go_roundg (sums.length - (j + 1))
              case measure => omega
              case rel => exact ⟨j + 1, L2, by go_num, by omega, rfl, Lib.hid (HUr.out.next (HU7.out.1.alloc _) (fun k hk => by simp at hk)), Lib.hid (HRr.out.upd (HU7.out.1.alloc _) (by simp)), HGr, hstep⟩
            · subst hnc
              cases ntx with
              | true =>
                have hstep : Hid (takeR st sty fs2 (sums.drop (j + 1)) L2 = takeR st sty fs2 sums L) := Lib.hid (by rw [← HST.out, hst2.out, hvk, hvn]; rfl)
                go_wp2_with fail
                go_roundg (sums.length - (j + 1))
                case measure => omega
                case rel => exact ⟨j + 1, L2, by go_num, by omega, rfl, Lib.hid (HUr.out.next (HU7.out.1.alloc _) (fun k hk => by simp at hk)), Lib.hid (HRr.out.upd (HU7.out.1.alloc _) (by simp)), HGr, hstep⟩
              | false =>
                have hoks := HOK1.out _ hvk
                cases ktx with
                | true =>
                  have hstep : Hid (takeR st sty fs2 (sums.drop (j + 1)) (addR L2 kfs nfn) = takeR st sty fs2 sums L) := Lib.hid (by rw [← HST.out, hst2.out, hvk, hvn]; rfl)
                  have hksz : kfs.size ≤ maxLen := by have := hoks.1; unfold maxLen; dsimp only at this; omega
                  have HU8 : Hid (Upd [] wr (w7.alloc (boxF ⟨nnm, false, nfn, nfs⟩))) := Lib.hid (HU7.out.1.alloc _)
                  replace v4 := cell_keep ((Upd.refl [] w7).alloc (boxF ⟨nnm, false, nfn, nfs⟩)) v4
                  go_wp2_with fail
                  refine (vadd_ok (w := (w7.alloc (boxF ⟨nnm, false, nfn, nfs⟩))) (L := L2) v4 (HRr.out.upd HU8.out (by simp)) HGr.out kfs nfn hksz).mono ?_
                  rintro e w9 ⟨rfl, hu9, hr9⟩
                  have HU9 := Lib.hid (And.intro (HUr.out.next (HU8.out.mono (G := [mb]) (by simp)) (fun k hk _ => hk)) (And.intro hu9 hr9))
                  clear hu9 hr9
                  go_wp2_with fail
                  go_roundg (sums.length - (j + 1))
                  case measure => omega
                  case rel => exact ⟨j + 1, addR L2 kfs nfn, by go_num, by omega, rfl, Lib.hid (HU9.out.1.trans HU9.out.2.1), Lib.hid HU9.out.2.2, Lib.hid (HGr.out.add _ _), hstep⟩
                | false =>
                  have hstep : Hid (takeR st sty fs2 (sums.drop (j + 1)) (addR L2 (itoaB kfn) nfn) = takeR st sty fs2 sums L) := Lib.hid (by rw [← HST.out, hst2.out, hvk, hvn]; rfl)
                  have hksz : (itoaB kfn).size ≤ maxLen := by have := itoa_size kfn hoks.2.1 hoks.2.2; unfold maxLen; omega
                  have hu8 : Upd [] w7 (w7.alloc (boxF ⟨nnm, false, nfn, nfs⟩)) := (Upd.refl [] w7).alloc _
                  have HI := Lib.hid (itoa_ok kfn hoks.2.1 hoks.2.2 (w7.alloc (boxF ⟨nnm, false, nfn, nfs⟩)) (HR.out.2.2.2.2.upd ((HU0r.out.trans HU7.out.1).trans hu8)))
                  have hnb := heap_top w7 (boxF ⟨nnm, false, nfn, nfs⟩)
                  have HN8 := Lib.hid (And.intro hu8 hnb)
                  clear hu8 hnb
                  go_wp2_with fail
                  refine HI.out.mono ?_
                  rintro e w8 ⟨rfl, hu8⟩
                  have hk8 := (hu8.block w6.heap.size (by simp; omega) (by simp)).trans ((HN8.out.1.block w6.heap.size hl7 (by simp)).trans HU7.out.2)
                  have hn8 := (hu8.block w7.heap.size (by simp) (by simp)).trans HN8.out.2
                  replace v4 := cell_keep (HN8.out.1.trans hu8) v4
                  replace k1 := cell_blk hk8 1
                  replace k2 := cell_blk hk8 2
                  replace k3 := cell_blk hk8 3
                  replace fzk := frozen_blk hk8
                  have m2 := cell_blk hn8 2
                  have hvk6 : ¬ vb = w6.heap.size := n3
                  have hu9' : Upd [w6.heap.size] w8 (w8.setCell ⟨w6.heap.size, 3, none⟩ (.string (itoaB kfn))) := (Upd.refl _ _).setCell (by simp) _ _
                  have HU8 : Hid (Upd [] wr (w8.setCell ⟨w6.heap.size, 3, none⟩ (.string (itoaB kfn)))) := Lib.hid ((HU7.out.1.trans (HN8.out.1.trans hu8)).next hu9' (fun k hk hlt => by simp at hk; omega))
                  replace v4 : (w8.setCell ⟨w6.heap.size, 3, none⟩ (.string (itoaB kfn))).cell? ⟨vb, 4, none⟩ = some (.map (some mb)) := (World.cell?_of_block (hu9'.block vb (World.block_lt_of_cell? _ _ v4) (by simpa using hvk6))).trans v4
                  have hn9 : ¬ w7.heap.size = w6.heap.size := by omega
                  have hl8 : w6.heap.size < w8.heap.size := lt_of_blk hk8
                  have hl9 : w7.heap.size < w8.heap.size := lt_of_blk hn8
                  clear hu9' hu8 HI hk8 hn8
                  go_wp2_with fail
                  refine (vadd_ok (w := (w8.setCell ⟨w6.heap.size, 3, none⟩ (.string (itoaB kfn)))) (L := L2) v4 (HRr.out.upd HU8.out (by simp)) HGr.out (itoaB kfn) nfn hksz).mono ?_
                  rintro e w9 ⟨rfl, hu9, hr9⟩
                  have HU9 := Lib.hid (And.intro (HUr.out.next (HU8.out.mono (G := [mb]) (by simp)) (fun k hk _ => hk)) (And.intro hu9 hr9))
                  clear hu9 hr9
                  go_wp2_with fail
                  go_roundg (sums.length - (j + 1))
                  case measure => omega
                  case rel => exact ⟨j + 1, addR L2 (itoaB kfn) nfn, by go_num, by omega, rfl, Lib.hid (HU9.out.1.trans HU9.out.2.1), Lib.hid HU9.out.2.2, Lib.hid (HGr.out.add _ _), hstep⟩
        · have htt : (sty.toList == ty.toList) = false := by rw [← beq_toListBytes, bytes_beq]; simpa using hty
          have htn : (sty.toList != ty.toList) = true := by rw [bne, htt]; rfl
          have hstep : Hid (takeR st ty fs2 (sums.drop (j + 1)) L2 = takeR st ty fs2 sums L) := Lib.hid (by rw [← HST.out]; unfold stepR; rw [if_neg hty])
          go_wp2_with fail
          go_roundg (sums.length - (j + 1))
          case measure => omega
          case rel => exact ⟨j + 1, L2, by go_num, by omega, rfl, Lib.hid (HUr.out.alloc _), Lib.hid (HRr.out.alloc _), HGr, hstep⟩
      · have hlt : ¬ (j : Int) < (sums.length : Int) := by omega
        go_wp2_with fail
        go_ret
        have hd : takeR st ty fs2 (sums.drop j) L2 = L2 := by rw [List.drop_eq_nil_of_le (by omega)]; rfl
        have huw : Upd [vb, mb] w wr := (HU3.out.mono (by simp)).trans (HUr.out.mono (by simp))
        refine ⟨rfl, huw, HV.out.v0, HV.out.m0, HV.out.ne, HU03.out.next HUr.out (fun k hk hlt => by have := HV.out.m0; simp at hk; omega), HV.out.sums, HV.out.ups, HBr.out.1, ?_, ?_⟩
        · rw [hxe.out, ← HTr.out, hd]; exact HRr.out
        · rw [hxe.out, ← HTr.out, hd]; exact HGr.out
  · first
      | (have hz := hz5
         have hX : ((((w5.setCell ⟨W2.heap.size, 0, none⟩ (.string ty)).setCell ⟨W2.heap.size, 1, none⟩ (.int .i64 (U.applyU us ty ver fs).1)).setCell ⟨W2.heap.size, 2, none⟩ (.slice fa5 (U.applyU us ty ver fs).2.length fc5))).heap[W2.heap.size]? = some (boxEv ty (U.applyU us ty ver fs).1 (.slice fa5 (U.applyU us ty ver fs).2.length fc5)) := by
           rw [heap_setCell, if_pos rfl, heap_setCell, if_pos rfl, heap_setCell, if_pos rfl, hz]; rfl
         have hu7 : Upd [W2.heap.size] w5 ((((w5.setCell ⟨W2.heap.size, 0, none⟩ (.string ty)).setCell ⟨W2.heap.size, 1, none⟩ (.int .i64 (U.applyU us ty ver fs).1)).setCell ⟨W2.heap.size, 2, none⟩ (.slice fa5 (U.applyU us ty ver fs).2.length fc5))) := (((Upd.refl _ _).setCell (by simp) _ _).setCell (by simp) _ _).setCell (by simp) _ _
         have hrx : RecAt _ (.slice fa5 (U.applyU us ty ver fs).2.length fc5) (U.applyU us ty ver fs).2 := ho5.recAt.upd hu7 (fun b off n c hv q => by
           have hb := (World.ownsRow.lt ho5 b (by simp only [Value.slice.injEq] at hv; obtain ⟨rfl, -, -⟩ := hv; rfl)).1
           simp at q hb
           omega)
         have hux := hv5.next hu7 (fun k hk hlt => by simp at hk; omega)
         have HX := Lib.hid (And.intro hX (And.intro hrx hux))
         have hxs : W2.heap.size ≤ W2.heap.size := Nat.le_refl _
         have hfa5 : Hid (∀ b', (Value.slice fa5 (U.applyU us ty ver fs).2.length fc5).ownBlock = some b' → W2.heap.size ≤ b') := Lib.hid (fun b' hb' => by have := (World.ownsRow.lt ho5 b' hb').1; simp at this; omega)
         clear hX hu7 hrx hux hz hz5 z0 z1 z2 fz5 hu5 hv5 ho5
         generalize hWX : ((((w5.setCell ⟨W2.heap.size, 0, none⟩ (.string ty)).setCell ⟨W2.heap.size, 1, none⟩ (.int .i64 (U.applyU us ty ver fs).1)).setCell ⟨W2.heap.size, 2, none⟩ (.slice fa5 (U.applyU us ty ver fs).2.length fc5))) = W3 at *
         clear hWX
         generalize hXB : W2.heap.size = XB at *)
      | (have hX := heap_top w5 (boxEv ty (U.applyU us ty ver fs).1 (.slice fa5 (U.applyU us ty ver fs).2.length fc5))
         have hrx : RecAt _ (.slice fa5 (U.applyU us ty ver fs).2.length fc5) (U.applyU us ty ver fs).2 := ho5.recAt.keep ((Upd.refl [] w5).alloc (boxEv ty (U.applyU us ty ver fs).1 (.slice fa5 (U.applyU us ty ver fs).2.length fc5)))
         have hux := hv5.alloc (boxEv ty (U.applyU us ty ver fs).1 (.slice fa5 (U.applyU us ty ver fs).2.length fc5))
         have HX := Lib.hid (And.intro hX (And.intro hrx hux))
         have hxs : W2.heap.size ≤ w5.heap.size := hv5.size
         have hfa5 : Hid (∀ b', (Value.slice fa5 (U.applyU us ty ver fs).2.length fc5).ownBlock = some b' → W2.heap.size ≤ b') := Lib.hid (fun b' hb' => (World.ownsRow.lt ho5 b' hb').1)
         clear hX hrx hux hu5 hv5 ho5
         generalize hWX : (w5.alloc (boxEv ty (U.applyU us ty ver fs).1 (.slice fa5 (U.applyU us ty ver fs).2.length fc5))) = W3 at *
         clear hWX
         generalize hXB : w5.heap.size = XB at *)
    have hb3 := (HX.out.2.2.block vb (by omega) (by simp)).trans H2.out.2.1
    have he3 := (HX.out.2.2.block w.heap.size (by omega) (by simp)).trans H2.out.2.2
    have v1 : W3.cell? ⟨vb, 1, none⟩ = some (.slice sa sums.length scap) := cell_blk hb3 1
    have HU3 : Hid (Upd [vb] w W3) := Lib.hid (H3.out.1.next HX.out.2.2 (fun k hk => by simp at hk))
    have HU03 : Hid (Upd [] W0 W3) := Lib.hid (H3.out.2.trans HX.out.2.2)
    have HB3 := Lib.hid (And.intro hb3 he3)
    have hW3 : W2.heap.size ≤ W3.heap.size := HX.out.2.2.size
    clear hb3 he3 c1 d2 d3 d4 d5 e1 HA
    go_wp2_with fail
    have hmX : mb < XB := by have := H3.out.1.size; omega
    have hvW3 : vb < W3.heap.size := lt_of_blk HB3.out.1
    have heW3 : w.heap.size < W3.heap.size := lt_of_blk HB3.out.2
    have HX3 := Lib.hid (And.intro HX.out.1 HX.out.2.1)
    have HXA : Hid (∀ b', (Value.slice fa5 (U.applyU us ty ver fs).2.length fc5).ownBlock = some b' → mb < b') := Lib.hid (fun b' hb' => by have := hfa5.out b' hb'; have := H3.out.1.size; omega)
    have hXl : XB < W3.heap.size := lt_of_blk HX.out.1
    have HM3 : Hid (RowsAt W3 mb L ∧ RGood L) := Lib.hid ⟨HV.out.rows.upd HU3.out (by have := HV.out.ne; simp; omega), HV.out.good⟩
    generalize hfs' : (U.applyU us ty ver fs).2 = fs2 at *
    generalize (U.applyU us ty ver fs).1 = ver2 at *
    have hxe : Hid (entryR us sums L ⟨pos, st, num, ty, ver, .slice fa fs.length fcap, fs⟩ = takeR st ty fs2 sums L) := Lib.hid (by unfold entryR; rw [hfs'])
    have HFX : Hid (∀ f ∈ fs2, OkF f) := Lib.hid (by rw [← hfs']; exact apply_okF HR.out.2.2.2.1 ty ver HR.out.2.1.2.2.2.2)
    clear hfs' HX
    go_loopg [43] sums.length (fun k i wr => ∃ (j : Nat) (L2 : List Rw), i = .int .i64 j ∧ j ≤ sums.length ∧ k = sums.length - j ∧ Hid (Upd [mb] W3 wr) ∧ Hid (RowsAt wr mb L2) ∧ Hid (RGood L2) ∧ Hid (takeR st ty fs2 (sums.drop j) L2 = takeR st ty fs2 sums L))
    case atStart => exact ⟨0, L, rfl, by omega, rfl, Lib.hid (Upd.refl _ _), Lib.hid HM3.out.1, Lib.hid HM3.out.2, Lib.hid rfl⟩
    case round =>
      obtain ⟨j, L2, rfl, hj, rfl, HUr, HRr, HGr, HTr⟩ := hrel
      have hmne := HV.out.ne
      have hbr := (HUr.out.block vb hvW3 (by simp; omega)).trans HB3.out.1
      have her := (HUr.out.block w.heap.size heW3 (by simp; omega)).trans HB3.out.2
      have hxr := (HUr.out.block XB hXl (by simp; omega)).trans HX3.out.1
      have v4 : wr.cell? ⟨vb, 4, none⟩ = some (.map (some mb)) := cell_blk hbr 4
      have e1 : wr.cell? ⟨w.heap.size, 1, none⟩ = some (.string st) := cell_blk her 1
      have x0 : wr.cell? ⟨XB, 0, none⟩ = some (.string ty) := cell_blk hxr 0
      have x2 : wr.cell? ⟨XB, 2, none⟩ = some (.slice fa5 fs2.length fc5) := cell_blk hxr 2
      have hvr : vb < wr.heap.size := lt_of_blk hbr
      have her2 : w.heap.size < wr.heap.size := lt_of_blk her
      have hxr2 : XB < wr.heap.size := lt_of_blk hxr
      have hv5' : ¬ vb = wr.heap.size := by omega
      have he5' : ¬ w.heap.size = wr.heap.size := by omega
      have hx5' : ¬ XB = wr.heap.size := by omega
      have HBr := Lib.hid (And.intro hbr (And.intro her hxr))
      clear hbr her hxr
      by_cases hjl : j < sums.length
      · have hlt : (j : Int) < (sums.length : Int) := by omega
        have HU0r : Hid (Upd [] W0 wr) := Lib.hid (HU03.out.next HUr.out (fun k hk hlt => by have := HV.out.m0; simp at hk; omega))
        obtain ⟨a', cap', hv', -, -, h3⟩ := SumsAt.keep HU0r.out HV.out.sums
        simp only [Value.slice.injEq] at hv'
        obtain ⟨rfl, -, rfl⟩ := hv'
        obtain ⟨b, off, rfl, hc, hk1, hk2⟩ := h3 j hjl
        obtain ⟨d0, ⟨d1, d2, d3, d4⟩, ⟨d5, d6, d7, d8⟩⟩ := Sm9.all hc
        have hft := HR.out.2.2.1 sums[j] (List.getElem_mem hjl)
        have hst := take_drop st ty fs2 sums j hjl L2
        have HK := Lib.hid (And.intro hk1 (And.intro hk2 hft))
        have HST := Lib.hid (hst.symm.trans HTr.out)
        obtain ⟨ka, kc, hka⟩ := hk1.isSlice
        obtain ⟨aa, ac, haa⟩ := hk2.isSlice
        have hblt : b < wr.heap.size := World.block_lt_of_cell? _ _ d0
        have hbne : ¬ b = wr.heap.size := by omega
        clear hst h3 hc hk1 hk2 hft HTr
        generalize sums[j] = s at *
        obtain ⟨sty, ⟨kd, kn, ks, kav, kkids⟩, ⟨ad, an, as_, aav, akids⟩⟩ := s
        dsimp only at d0 d1 d2 d3 d4 d5 d6 d7 d8 hka haa HK HST
        subst hka haa
        by_cases hty : sty = ty
        · have htt : (sty.toList == ty.toList) = true := by rw [hty]; simp
          have htn : (sty.toList != ty.toList) = false := by rw [hty]; simp
          subst hty
          have ub : Upd [] wr (wr.alloc (boxSm ⟨sty, ⟨kd, kn, ks, .slice ka kkids.list.length kc, kkids⟩, ⟨ad, an, as_, .slice aa akids.list.length ac, akids⟩⟩)) := (Upd.refl [] wr).alloc _
          have hsb := heap_top wr (boxSm ⟨sty, ⟨kd, kn, ks, .slice ka kkids.list.length kc, kkids⟩, ⟨ad, an, as_, .slice aa akids.list.length ac, akids⟩⟩)
          have HSB := Lib.hid (And.intro ub hsb)
          have hRx : RecAt wr (.slice fa5 fs2.length fc5) fs2 := HX3.out.2.upd HUr.out (fun b' off' n' c' hv' q => by
            have hb' := HXA.out b' (by simp only [Value.slice.injEq] at hv'; obtain ⟨rfl, -, -⟩ := hv'; rfl)
            simp at q
            omega)
          have HRx := Lib.hid hRx
          have hP : FitP ⟨st, [], fs2⟩ := ⟨HR.out.2.1.2.1, by simp, HFX.out⟩
          have HE1 := Lib.hid (fun (V : World) (u : Upd [] wr V) => Eval_ok ⟨st, [], fs2⟩ hP (.slice none 0 0) (.slice fa5 fs2.length fc5) ⟨kd, kn, ks, .slice ka kkids.list.length kc, kkids⟩ HK.out.2.2.2.1 V (HR.out.2.2.2.2.upd (HU0r.out.trans u)) ⟨rec_nil V, HRx.out.keep u⟩ (HK.out.1.keep u))
          have HE2 := Lib.hid (fun (V : World) (u : Upd [] wr V) => Eval_ok ⟨st, [], fs2⟩ hP (.slice none 0 0) (.slice fa5 fs2.length fc5) ⟨ad, an, as_, .slice aa akids.list.length ac, akids⟩ HK.out.2.2.2.2 V (HR.out.2.2.2.2.upd (HU0r.out.trans u)) ⟨rec_nil V, HRx.out.keep u⟩ (HK.out.2.1.keep u))
          have HER1 := Lib.hid (errIn_value ⟨st, [], fs2⟩ ⟨kd, kn, ks, .slice ka kkids.list.length kc, kkids⟩)
          have HER2 := Lib.hid (errIn_value ⟨st, [], fs2⟩ ⟨ad, an, as_, .slice aa akids.list.length ac, akids⟩)
          have HOK1 := Lib.hid (fun f h => value_okF ⟨st, [], fs2⟩ hP ⟨kd, kn, ks, .slice ka kkids.list.length kc, kkids⟩ HK.out.2.2.2.1 f h)
          have HOK2 := Lib.hid (fun f h => value_okF ⟨st, [], fs2⟩ hP ⟨ad, an, as_, .slice aa akids.list.length ac, akids⟩ HK.out.2.2.2.2 f h)
          have hst2 : Hid (stepR st sty fs2 L2 ⟨sty, ⟨kd, kn, ks, .slice ka kkids.list.length kc, kkids⟩, ⟨ad, an, as_, .slice aa akids.list.length ac, akids⟩⟩ = (match valueX ⟨st, [], fs2⟩ ⟨kd, kn, ks, .slice ka kkids.list.length kc, kkids⟩, valueX ⟨st, [], fs2⟩ ⟨ad, an, as_, .slice aa akids.list.length ac, akids⟩ with
            | .ok k, .ok n => if n.tx then L2 else addR L2 (if k.tx then k.s else itoaB k.n) n.n
            | _, _ => L2)) := Lib.hid (by unfold stepR; exact if_pos rfl)
          clear ub hsb hRx hP
          generalize valueX ⟨st, [], fs2⟩ ⟨kd, kn, ks, .slice ka kkids.list.length kc, kkids⟩ = vk at *
          generalize valueX ⟨st, [], fs2⟩ ⟨ad, an, as_, .slice aa akids.list.length ac, akids⟩ = vn at *
          go_wp2_with fail
          refine (HE1.out _ HSB.out.1).mono ?_
          rintro e w6 ⟨rfl, hu6⟩
          have hsb6 := (hu6.block wr.heap.size (by simp) (by simp)).trans HSB.out.2
          have s5 := cell_blk hsb6 5
          have s6 := cell_blk hsb6 6
          have s7 := cell_blk hsb6 7
          have s8 := cell_blk hsb6 8
          have hu60 : Upd [] wr w6 := HSB.out.1.trans hu6
          replace e1 := cell_keep hu60 e1
          replace x2 := cell_keep hu60 x2
          replace v4 := cell_keep hu60 v4
          have HU6 := Lib.hid hu60
          have hsz6 := hu60.size
          have hl6 : wr.heap.size < w6.heap.size := lt_of_blk hsb6
          have n1 : ¬ w.heap.size = w6.heap.size := by omega
          have n2 : ¬ XB = w6.heap.size := by omega
          have n3 : ¬ vb = w6.heap.size := by omega
          have n4 : ¬ wr.heap.size = w6.heap.size := by omega
          have l1 : w.heap.size < w6.heap.size := by omega
          have l2 : XB < w6.heap.size := by omega
          have l3 : vb < w6.heap.size := by omega
          obtain ⟨kf, kc1, hkT, hkV⟩ := evT_two vk
          rewrite [hkT]
          clear hu6 hu60 hsb6 x0 d0 d1 d2 d3 d4 d5 d6 d7 d8 hkT
          obtain ⟨knm, ktx, kfn, kfs⟩ := kf
          go_wp2_with fail
          have ub7 : Upd [] wr (w6.alloc (boxF ⟨knm, ktx, kfn, kfs⟩)) := HU6.out.alloc _
          have hkb := heap_top w6 (boxF ⟨knm, ktx, kfn, kfs⟩)
          refine (HE2.out _ ub7).mono ?_
          rintro e w7 ⟨rfl, hu7⟩
          have hk7 := (hu7.block w6.heap.size (by simp) (by simp)).trans hkb
          replace v4 := cell_keep hu7 (cell_keep ((Upd.refl [] w6).alloc _) v4)
          have k1 := cell_blk hk7 1
          have k2 := cell_blk hk7 2
          have k3 := cell_blk hk7 3
          have fzk := frozen_blk hk7
          have hl7 : w6.heap.size < w7.heap.size := lt_of_blk hk7
          have HU7 := Lib.hid (And.intro (ub7.trans hu7) hk7)
          obtain ⟨nf, nc1, hnT, hnV⟩ := evT_two vn
          rewrite [hnT]
          clear hu7 ub7 hkb hk7 hnT s5 s6 s7 s8 e1 x2
          obtain ⟨nnm, ntx, nfn, nfs⟩ := nf
          have m3 : ¬ vb = w7.heap.size := by have := HU7.out.1.size; omega
          have m4 : ¬ w6.heap.size = w7.heap.size := by omega
          have l7 : vb < w7.heap.size := by have := HU7.out.1.size; omega
          rcases hkV with ⟨ek, hvk, hkc⟩ | ⟨hvk, hkc⟩
          · have hk0 : ¬ kc1 = 0 := by have := HER1.out ek hvk; omega
            have hstep : Hid (takeR st sty fs2 (sums.drop (j + 1)) L2 = takeR st sty fs2 sums L) := Lib.hid (by rw [← HST.out, hst2.out, hvk])
            clear hnV
            go_wp2_with fail
            go_roundg (sums.length - (j + 1))
            case measure => omega
            case rel => exact ⟨j + 1, L2, by go_num, by omega, rfl, Lib.hid (HUr.out.next (HU7.out.1.alloc _) (fun k hk => by simp at hk)), Lib.hid (HRr.out.upd (HU7.out.1.alloc _) (by simp)), HGr, hstep⟩
          · subst hkc
            rcases hnV with ⟨en, hvn, hnc⟩ | ⟨hvn, hnc⟩
            · have hn0 : ¬ nc1 = 0 := by have := HER2.out en hvn; omega
              have hstep : Hid (takeR st sty fs2 (sums.drop (j + 1)) L2 = takeR st sty fs2 sums L) := Lib.hid (by rw [← HST.out, hst2.out, hvk, hvn])
              go_wp2_with fail
              go_roundg (sums.length - (j + 1))
              case measure => omega
              case rel => exact ⟨j + 1, L2, by go_num, by omega, rfl, Lib.hid (HUr.out.next (HU7.out.1.alloc _) (fun k hk => by simp at hk)), Lib.hid (HRr.out.upd (HU7.out.1.alloc _) (by simp)), HGr, hstep⟩
            · subst hnc
              cases ntx with
              | true =>
                have hstep : Hid (takeR st sty fs2 (sums.drop (j + 1)) L2 = takeR st sty fs2 sums L) := Lib.hid (by rw [← HST.out, hst2.out, hvk, hvn]; rfl)
                go_wp2_with fail
                go_roundg (sums.length - (j + 1))
                case measure => omega
                case rel => exact ⟨j + 1, L2, by go_num, by omega, rfl, Lib.hid (HUr.out.next (HU7.out.1.alloc _) (fun k hk => by simp at hk)), Lib.hid (HRr.out.upd (HU7.out.1.alloc _) (by simp)), HGr, hstep⟩
              | false =>
                have hoks := HOK1.out _ hvk
                cases ktx with
                | true =>
                  have hstep : Hid (takeR st sty fs2 (sums.drop (j + 1)) (addR L2 kfs nfn) = takeR st sty fs2 sums L) := Lib.hid (by rw [← HST.out, hst2.out, hvk, hvn]; rfl)
                  have hksz : kfs.size ≤ maxLen := by have := hoks.1; unfold maxLen; dsimp only at this; omega
                  have HU8 : Hid (Upd [] wr (w7.alloc (boxF ⟨nnm, false, nfn, nfs⟩))) := Lib.hid (HU7.out.1.alloc _)
                  replace v4 := cell_keep ((Upd.refl [] w7).alloc (boxF ⟨nnm, false, nfn, nfs⟩)) v4
                  go_wp2_with fail
                  refine (vadd_ok (w := (w7.alloc (boxF ⟨nnm, false, nfn, nfs⟩))) (L := L2) v4 (HRr.out.upd HU8.out (by simp)) HGr.out kfs nfn hksz).mono ?_
                  rintro e w9 ⟨rfl, hu9, hr9⟩
                  have HU9 := Lib.hid (And.intro (HUr.out.next (HU8.out.mono (G := [mb]) (by simp)) (fun k hk _ => hk)) (And.intro hu9 hr9))
                  clear hu9 hr9
                  go_wp2_with fail
                  go_roundg (sums.length - (j + 1))
                  case measure => omega
                  case rel => exact ⟨j + 1, addR L2 kfs nfn, by go_num, by omega, rfl, Lib.hid (HU9.out.1.trans HU9.out.2.1), Lib.hid HU9.out.2.2, Lib.hid (HGr.out.add _ _), hstep⟩
                | false =>
                  have hstep : Hid (takeR st sty fs2 (sums.drop (j + 1)) (addR L2 (itoaB kfn) nfn) = takeR st sty fs2 sums L) := Lib.hid (by rw [← HST.out, hst2.out, hvk, hvn]; rfl)
                  have hksz : (itoaB kfn).size ≤ maxLen := by have := itoa_size kfn hoks.2.1 hoks.2.2; unfold maxLen; omega
                  have hu8 : Upd [] w7 (w7.alloc (boxF ⟨nnm, false, nfn, nfs⟩)) := (Upd.refl [] w7).alloc _
                  have HI := Lib.hid (itoa_ok kfn hoks.2.1 hoks.2.2 (w7.alloc (boxF ⟨nnm, false, nfn, nfs⟩)) (HR.out.2.2.2.2.upd ((HU0r.out.trans HU7.out.1).trans hu8)))
                  have hnb := heap_top w7 (boxF ⟨nnm, false, nfn, nfs⟩)
                  have HN8 := Lib.hid (And.intro hu8 hnb)
                  clear hu8 hnb
                  go_wp2_with fail
                  refine HI.out.mono ?_
                  rintro e w8 ⟨rfl, hu8⟩
                  have hk8 := (hu8.block w6.heap.size (by simp; omega) (by simp)).trans ((HN8.out.1.block w6.heap.size hl7 (by simp)).trans HU7.out.2)
                  have hn8 := (hu8.block w7.heap.size (by simp) (by simp)).trans HN8.out.2
                  replace v4 := cell_keep (HN8.out.1.trans hu8) v4
                  replace k1 := cell_blk hk8 1
                  replace k2 := cell_blk hk8 2
                  replace k3 := cell_blk hk8 3
                  replace fzk := frozen_blk hk8
                  have m2 := cell_blk hn8 2
                  have hvk6 : ¬ vb = w6.heap.size := n3
                  have hu9' : Upd [w6.heap.size] w8 (w8.setCell ⟨w6.heap.size, 3, none⟩ (.string (itoaB kfn))) := (Upd.refl _ _).setCell (by simp) _ _
                  have HU8 : Hid (Upd [] wr (w8.setCell ⟨w6.heap.size, 3, none⟩ (.string (itoaB kfn)))) := Lib.hid ((HU7.out.1.trans (HN8.out.1.trans hu8)).next hu9' (fun k hk hlt => by simp at hk; omega))
                  replace v4 : (w8.setCell ⟨w6.heap.size, 3, none⟩ (.string (itoaB kfn))).cell? ⟨vb, 4, none⟩ = some (.map (some mb)) := (World.cell?_of_block (hu9'.block vb (World.block_lt_of_cell? _ _ v4) (by simpa using hvk6))).trans v4
                  have hn9 : ¬ w7.heap.size = w6.heap.size := by omega
                  have hl8 : w6.heap.size < w8.heap.size := lt_of_blk hk8
                  have hl9 : w7.heap.size < w8.heap.size := lt_of_blk hn8
                  clear hu9' hu8 HI hk8 hn8
                  go_wp2_with fail
                  refine (vadd_ok (w := (w8.setCell ⟨w6.heap.size, 3, none⟩ (.string (itoaB kfn)))) (L := L2) v4 (HRr.out.upd HU8.out (by simp)) HGr.out (itoaB kfn) nfn hksz).mono ?_
                  rintro e w9 ⟨rfl, hu9, hr9⟩
                  have HU9 := Lib.hid (And.intro (HUr.out.next (HU8.out.mono (G := [mb]) (by simp)) (fun k hk _ => hk)) (And.intro hu9 hr9))
                  clear hu9 hr9
                  go_wp2_with fail
                  go_roundg (sums.length - (j + 1))
                  case measure => omega
                  case rel => exact ⟨j + 1, addR L2 (itoaB kfn) nfn, by go_num, by omega, rfl, Lib.hid (HU9.out.1.trans HU9.out.2.1), Lib.hid HU9.out.2.2, Lib.hid (HGr.out.add _ _), hstep⟩
        · have htt : (sty.toList == ty.toList) = false := by rw [← beq_toListBytes, bytes_beq]; simpa using hty
          have htn : (sty.toList != ty.toList) = true := by rw [bne, htt]; rfl
          have hstep : Hid (takeR st ty fs2 (sums.drop (j + 1)) L2 = takeR st ty fs2 sums L) := Lib.hid (by rw [← HST.out]; unfold stepR; rw [if_neg hty])
          go_wp2_with fail
          go_roundg (sums.length - (j + 1))
          case measure => omega
          case rel => exact ⟨j + 1, L2, by go_num, by omega, rfl, Lib.hid (HUr.out.alloc _), Lib.hid (HRr.out.alloc _), HGr, hstep⟩
      · have hlt : ¬ (j : Int) < (sums.length : Int) := by omega
        go_wp2_with fail
        go_ret
        have hd : takeR st ty fs2 (sums.drop j) L2 = L2 := by rw [List.drop_eq_nil_of_le (by omega)]; rfl
        have huw : Upd [vb, mb] w wr := (HU3.out.mono (by simp)).trans (HUr.out.mono (by simp))
        refine ⟨rfl, huw, HV.out.v0, HV.out.m0, HV.out.ne, HU03.out.next HUr.out (fun k hk hlt => by have := HV.out.m0; simp at hk; omega), HV.out.sums, HV.out.ups, HBr.out.1, ?_, ?_⟩
        · rw [hxe.out, ← HTr.out, hd]; exact HRr.out
        · rw [hxe.out, ← HTr.out, hd]; exact HGr.out
end Go.Proofs.YtajppgngoffonaaGreatDoor
