/- The document: Apply. -/
import Derived.Deep.DeepCutAuto
import Derived.Test.YtajppgngoffonaaGreatDoorGUR
namespace Go.Proofs.YtajppgngoffonaaGreatDoor.U
open Go.RowKit

theorem own_ne {W : World} {base B : Nat} {v : Value} {l : List Fd} {ty : ByteArray} {n : Int} {fv : Value} (h : Own W base v l) (hB : W.heap[B]? = some (boxE ty n fv)) : ∀ k, v.ownBlock = some k → k ≠ B := by
  intro k hk e
  subst e
  obtain ⟨h0, h2⟩ := h
  rcases h2 with ⟨rfl, hn⟩ | ⟨g, cap, cur, rfl, hg, hh, -⟩
  · simp [Value.ownBlock] at hk
  · simp [Value.ownBlock] at hk
    subst hk
    rw [hh] at hB
    simp [boxE] at hB

theorem heap_set3 (W : World) (B k : Nat) (x0 x1 x2 : Value) (h : k ≠ B) : (((W.setCell ⟨B, 0, none⟩ x0).setCell ⟨B, 1, none⟩ x1).setCell ⟨B, 2, none⟩ x2).heap[k]? = W.heap[k]? := by
  rw [heap_setCell, if_neg h, heap_setCell, if_neg h, heap_setCell, if_neg h]
theorem cell_set3 (W : World) (B k o : Nat) (x0 x1 x2 : Value) (h : k ≠ B) : (((W.setCell ⟨B, 0, none⟩ x0).setCell ⟨B, 1, none⟩ x1).setCell ⟨B, 2, none⟩ x2).cell? ⟨k, o, none⟩ = W.cell? ⟨k, o, none⟩ :=
  World.cell?_of_block (heap_set3 W B k x0 x1 x2 h)
theorem box_set3 {W : World} {B : Nat} {ty0 : ByteArray} {n0 : Int} {f0 : Value} (h : W.heap[B]? = some (boxE ty0 n0 f0)) (ty : ByteArray) (n : Int) (fv : Value) :
    (((W.setCell ⟨B, 0, none⟩ (.string ty)).setCell ⟨B, 1, none⟩ (.int .i64 n)).setCell ⟨B, 2, none⟩ fv).heap[B]? = some (boxE ty n fv) := by
  rw [heap_setCell, if_pos rfl, heap_setCell, if_pos rfl, heap_setCell, if_pos rfl, h]
  rfl
theorem upd_set3 {F : List Nat} {w W : World} (u : Upd F w W) {B : Nat} (hb : B ∈ F) (x0 x1 x2 : Value) : Upd F w (((W.setCell ⟨B, 0, none⟩ x0).setCell ⟨B, 1, none⟩ x1).setCell ⟨B, 2, none⟩ x2) :=
  ((u.setCell hb _ _).setCell hb _ _).setCell hb _ _

theorem own_shape {W : World} {base : Nat} {v : Value} {l : List Fd} (h : Own W base v ([] ++ l)) : ∃ a c, v = .slice a l.length c := by
  obtain ⟨a, cap, rfl, -, -⟩ := (Own.recAt h).isSlice
  exact ⟨a, cap, rfl⟩

/-- What the copy of an event leaves. -/
def CopyAt (w0 : World) (ty : ByteArray) (ver : Int) (r : List Fd) (s : Value) (W : World) : Prop :=
  ∃ (B : Nat) (v : Value), s = .pointer (some ⟨B, 0, none⟩) ∧ w0.heap.size ≤ B ∧ W.heap[B]? = some (boxE ty ver v) ∧ Own W w0.heap.size v r ∧ Upd [] w0 W

theorem copy_new {w0 w1 : World} {ty : ByteArray} {ver : Int} {r : List Fd} {v : Value} (hown : Own w1 w0.heap.size v ([] ++ r)) (u1 : Upd [] w0 w1) : CopyAt w0 ty ver r (.pointer (some ⟨w1.heap.size, 0, none⟩)) (w1.alloc (boxE ty ver v)) :=
  ⟨_, v, rfl, u1.size, by rw [heap_alloc, if_pos rfl], Own.keep (by simpa using hown) ((Upd.refl [] w1).alloc _), u1.alloc _⟩

theorem copy_set {w0 w1 : World} {ty : ByteArray} {ver : Int} {r : List Fd} {v : Value} {B : Nat} (hB : w0.heap.size ≤ B) (hbx : w1.heap[B]? = some (boxE ByteArray.empty 0 (.slice none 0 0))) (hown : Own w1 w0.heap.size v ([] ++ r)) (u1 : Upd [] w0 w1) :
    CopyAt w0 ty ver r (.pointer (some ⟨B, 0, none⟩)) (((w1.setCell ⟨B, 0, none⟩ (.string ty)).setCell ⟨B, 1, none⟩ (.int .i64 ver)).setCell ⟨B, 2, none⟩ v) :=
  ⟨B, v, rfl, hB, box_set3 hbx ty ver v, own_upd (by simpa using hown) (upd_set3 (Upd.refl [B] w1) (by simp) _ _ _) (fun k hk q => by
    simp at hk; subst hk
    exact own_ne hown hbx _ q rfl), ((u1.setCellNew hB _ _).setCellNew hB _ _).setCellNew hB _ _⟩

/-- How the memory stands between two rounds. -/
structure ER (w wr : World) (B : Nat) (ty : ByteArray) (v : Int) (fv : Value) (r : List Fd) : Prop where
  ev : wr.heap[B]? = some (boxE ty v fv)
  res : wr.heap[w.heap.size + 1]? = some (boxE ByteArray.empty 0 (.slice none 0 0))
  own : Own wr (w.heap.size + 2) fv r
  mb : w.heap.size + 2 ≤ B
  upd : Upd [] w wr

theorem ER.keep {w wr wr' : World} {B : Nat} {ty : ByteArray} {v : Int} {fv : Value} {r : List Fd} (h : ER w wr B ty v fv r) (u : Upd [] wr wr') : ER w wr' B ty v fv r :=
  ⟨(u.block _ (lt_of_blk h.ev) (by simp)).trans h.ev, (u.block _ (lt_of_blk h.res) (by simp)).trans h.res, Own.keep h.own u, h.mb, h.upd.trans u⟩

theorem ER.setF {w wr wr' : World} {B : Nat} {ty : ByteArray} {v : Int} {fv fv' : Value} {r r' : List Fd} (h : ER w wr B ty v fv r) (ho : Own wr (w.heap.size + 2) fv' r') (hw : wr'.Alike (wr.setCell ⟨B, 2, none⟩ fv')) : ER w wr' B ty v fv' r' := by
  have u : Upd [B] wr wr' := ((Upd.refl _ _).setCell (by simp) _ _).alike hw
  refine ⟨?_, (u.block _ (lt_of_blk h.res) (by have := h.mb; simp; omega)).trans h.res, own_upd ho u (fun k hk q => by simp at hk; subst hk; exact own_ne ho h.ev _ q rfl), h.mb, (h.upd.setCellNew (by have := h.mb; omega) _ _).alike hw⟩
  rw [hw.1, heap_setCell, if_pos rfl, h.ev]
  rfl

theorem ER.setV {w wr wr' : World} {B : Nat} {ty : ByteArray} {v v' : Int} {fv : Value} {r : List Fd} (h : ER w wr B ty v fv r) (hw : wr'.Alike (wr.setCell ⟨B, 1, none⟩ (.int .i64 v'))) : ER w wr' B ty v' fv r := by
  have u : Upd [B] wr wr' := ((Upd.refl _ _).setCell (by simp) _ _).alike hw
  refine ⟨?_, (u.block _ (lt_of_blk h.res) (by have := h.mb; simp; omega)).trans h.res, own_upd h.own u (fun k hk q => by simp at hk; subst hk; exact own_ne h.own h.ev _ q rfl), h.mb, (h.upd.setCellNew (by have := h.mb; omega) _ _).alike hw⟩
  rw [hw.1, heap_setCell, if_pos rfl, h.ev]
  rfl

theorem ER.after {w wr wr' w5 : World} {B : Nat} {ty : ByteArray} {v : Int} {fv fv5 : Value} {r l' : List Fd} (h : ER w wr B ty v fv r) (u : Upd [] wr wr') (hr5 : RecAt w5 fv5 l') (hv5 : fv5 = fv ∨ Own w5 wr'.heap.size fv5 l') (hu5 : Upd [] wr' w5) :
    ER w w5 B ty v fv r ∧ Own w5 (w.heap.size + 2) fv5 l' := by
  have h5 := h.keep (u.trans hu5)
  refine ⟨h5, ?_⟩
  rcases hv5 with rfl | ho
  · exact recOwn h5.own hr5
  · exact own_mono ho (by have := lt_of_blk h.res; have := u.size; omega)

theorem ER.done {w wr : World} {B : Nat} {ty : ByteArray} {v : Int} {fv : Value} {r : List Fd} (h : ER w wr B ty v fv r) :
    ApPost (v, r) ty w (.returned (aggE ty v fv)) (((wr.setCell ⟨w.heap.size + 1, 0, none⟩ (.string ty)).setCell ⟨w.heap.size + 1, 1, none⟩ (.int .i64 v)).setCell ⟨w.heap.size + 1, 2, none⟩ fv) :=
  ⟨fv, rfl, own_mono (own_upd h.own (upd_set3 (Upd.refl [w.heap.size + 1] wr) (by simp) _ _ _) (fun k hk q => by simp at hk; subst hk; have := (h.own.lt _ q).1; omega)) (by omega),
    ((h.upd.setCellNew (by omega) _ _).setCellNew (by omega) _ _).setCellNew (by omega) _ _⟩

set_option maxRecDepth 100000 in
set_option maxHeartbeats 4000000 in
theorem apply14_ok (v : Value) (us : List Up) (ty : ByteArray) (ver : Int) (fv : Value) (r : List Fd) (w : World) (hu : UpsAt w v us) (hr : RecAt w fv r) (hl : (max r.length 16 + 1) * 48 ≤ 140737488355328) (hus : us.length ≤ 9223372036854775806)
    (hT : Tab w) (hN : ∀ x ∈ r, FitN x) (hC : ∀ u ∈ us, ∀ c ∈ u.ch, FitN c.f) (hv : -9223372036854775808 ≤ ver ∧ ver ≤ 9223372036854775807) :
    Calls Tryz.prog 25 #[v, aggE ty ver fv] w (ApPost (applyU us ty ver r) ty w) := by
  have HSh := Lib.hid hu.shape
  have HUs := Lib.hid (fun (W : World) (u : Upd [] w W) => hu.keep u)
  have HFv := Lib.hid (fun (W : World) (u : Upd [] w W) => hr.keep u)
  have HT := Lib.hid hT
  have HN := Lib.hid hN
  have HC := Lib.hid hC
  have HV := Lib.hid hv
  have HL := Lib.hid hl
  obtain ⟨ua, ucap, rfl, huc, hum, -⟩ := hu
  obtain ⟨fa, fcap, rfl, -, -⟩ := hr.isSlice
  have u0 : Upd [] w ((w.alloc (boxE ty ver (.slice fa r.length fcap))).alloc (boxE ByteArray.empty 0 (.slice none 0 0))) := ((Upd.refl [] w).alloc _).alloc _
  have be0 : ((w.alloc (boxE ty ver (.slice fa r.length fcap))).alloc (boxE ByteArray.empty 0 (.slice none 0 0))).heap[w.heap.size]? = some (boxE ty ver (.slice fa r.length fcap)) := by rw [heap_alloc, if_neg (by simp), heap_alloc, if_pos rfl]
  have br0 : ((w.alloc (boxE ty ver (.slice fa r.length fcap))).alloc (boxE ByteArray.empty 0 (.slice none 0 0))).heap[w.heap.size + 1]? = some (boxE ByteArray.empty 0 (.slice none 0 0)) := by rw [heap_alloc, if_pos (by simp)]
  have H0 := Lib.hid (And.intro u0 (And.intro be0 br0))
  unfold maxLen at hum
  clear u0 be0 br0 hr hT hN hC hv hl
  go_enter Tryz.func25, Tryz.ntmps25
  go_upto_region 1 with (fail)
  change Code.wp Tryz.prog _ _ _ ((w.alloc (boxE ty ver (.slice fa r.length fcap))).alloc (boxE ByteArray.empty 0 (.slice none 0 0)))
  have HZ := Lib.hid (show ((w.alloc (boxE ty ver (.slice fa r.length fcap))).alloc (boxE ByteArray.empty 0 (.slice none 0 0))).heap.size = w.heap.size + 2 by simp)
  generalize (w.alloc (boxE ty ver (.slice fa r.length fcap))).alloc (boxE ByteArray.empty 0 (.slice none 0 0)) = w0 at *
  have HSr := Lib.hid (fun (W : World) (u : Upd [] w0 W) => (HFv.out W (H0.out.1.trans u)).src.2)
  go_cut [5] (fun s5 W => CopyAt w0 ty ver r s5 W)
  case first =>
    have e0 : w0.cell? ⟨w.heap.size, 0, none⟩ = some (.string ty) := cell_blk H0.out.2.1 0
    have e1 : w0.cell? ⟨w.heap.size, 1, none⟩ = some (.int .i64 ver) := cell_blk H0.out.2.1 1
    have e2 : w0.cell? ⟨w.heap.size, 2, none⟩ = some (.slice fa r.length fcap) := cell_blk H0.out.2.1 2
    have hlt := lt_of_blk H0.out.2.1
    have HNE : Hid (∀ W : World, (W.alloc (.cells #[] 64)).heap[W.heap.size]? = some (.cells #[] 64 (0, 0))) := Lib.hid fun W => by rw [heap_alloc, if_pos rfl]
    have HE2 : Hid (∀ W : World, ((W.alloc (.cells #[] 64)).alloc (boxE ByteArray.empty 0 (.slice none 0 0))).heap[W.heap.size]? = some (.cells #[] 64 (0, 0))) := Lib.hid fun W => by rw [heap_alloc, if_neg (by simp), heap_alloc, if_pos rfl]
    have HX2 : Hid (∀ W : World, ((W.alloc (.cells #[] 64)).alloc (boxE ByteArray.empty 0 (.slice none 0 0))).heap[W.heap.size + 1]? = some (boxE ByteArray.empty 0 (.slice none 0 0))) := Lib.hid fun W => by rw [heap_alloc, if_pos (by simp)]
    have HE3 : Hid (∀ W : World, ((W.alloc (boxE ByteArray.empty 0 (.slice none 0 0))).alloc (.cells #[] 64)).heap[W.heap.size + 1]? = some (.cells #[] 64 (0, 0))) := Lib.hid fun W => by rw [heap_alloc, if_pos (by simp)]
    have HX3 : Hid (∀ W : World, ((W.alloc (boxE ByteArray.empty 0 (.slice none 0 0))).alloc (.cells #[] 64)).heap[W.heap.size]? = some (boxE ByteArray.empty 0 (.slice none 0 0))) := Lib.hid fun W => by rw [heap_alloc, if_neg (by simp), heap_alloc, if_pos rfl]
    have HKp := Lib.hid (fun (W : World) (u : Upd [] w0 W) => (show W.cell? ⟨w.heap.size, 0, none⟩ = some (.string ty) ∧ W.cell? ⟨w.heap.size, 1, none⟩ = some (.int .i64 ver) ∧ W.cell? ⟨w.heap.size, 2, none⟩ = some (.slice fa r.length fcap) by
      have q2 := (u.block w.heap.size (lt_of_blk H0.out.2.1) (by simp)).trans H0.out.2.1
      exact ⟨cell_blk q2 0, cell_blk q2 1, cell_blk q2 2⟩))
    have hl48 : r.length * 48 ≤ 140737488355328 := by have := HL.out; omega
    go_region_held3 (fun W => W.cell? ⟨w.heap.size, 0, none⟩ = some (.string ty) ∧ W.cell? ⟨w.heap.size, 1, none⟩ = some (.int .i64 ver) ∧ W.cell? ⟨w.heap.size, 2, none⟩ = some (.slice fa r.length fcap))
      (first
        | go_keep
        | (go_split_ands; refine ⟨?_, ?_, ?_⟩ <;> (rw [cell_set3 _ _ _ _ _ _ _ (by omega)]; assumption))
        | (go_split_ands; refine ⟨?_, ?_, ?_⟩ <;> (rw [hgrow.cell_far _ (by simp; omega) (by simp [Value.ownBlock]; omega)]; assumption)))
      (first
        | (refine step_append_rec (by rfl) _ _ (by rfl) (base := w0.heap.size) (v := .slice (some ⟨w0.heap.size, 0, none⟩) 0 0) (l := []) (A := fa) (c := fcap) (r := r) (by rfl) (by exact own_empty_blk (by exact HNE.out w0) (by omega)) (by rfl) (by exact HSr.out _ (by repeat' first | exact Upd.refl _ _ | apply Upd.alloc | apply Upd.drew)) ?_ ?_ ?_; (simp; omega); (simp <;> omega); intro v1 w1 hown1 hgrow; obtain ⟨ga, gcap, hv1⟩ := own_shape hown1; subst hv1; have hg1 : w.heap.size < w1.heap.size := (by have := hgrow.size; simp at this; omega); have u1 : Upd [] w0 w1 := Upd.grown (by repeat' first | exact Upd.refl _ _ | apply Upd.alloc | apply Upd.drew) hgrow (fun k hk => by simp [Value.ownBlock] at hk; omega); obtain ⟨q0, q1, q2⟩ := HKp.out w1 u1)
        | (refine step_append_rec (by rfl) _ _ (by rfl) (base := w0.heap.size) (v := .slice (some ⟨w0.heap.size, 0, none⟩) 0 0) (l := []) (A := fa) (c := fcap) (r := r) (by rfl) (by exact own_empty_blk (by exact HE2.out w0) (by omega)) (by rfl) (by exact HSr.out _ (by repeat' first | exact Upd.refl _ _ | apply Upd.alloc | apply Upd.drew)) ?_ ?_ ?_; (simp; omega); (simp <;> omega); intro v1 w1 hown1 hgrow; obtain ⟨ga, gcap, hv1⟩ := own_shape hown1; subst hv1; have hg1 : w.heap.size < w1.heap.size := (by have := hgrow.size; simp at this; omega); have u1 : Upd [] w0 w1 := Upd.grown (by repeat' first | exact Upd.refl _ _ | apply Upd.alloc | apply Upd.drew) hgrow (fun k hk => by simp [Value.ownBlock] at hk; omega); obtain ⟨q0, q1, q2⟩ := HKp.out w1 u1; have hbx : w1.heap[w0.heap.size + 1]? = some (boxE ByteArray.empty 0 (.slice none 0 0)) := (by rw [hgrow.block _ (by simp <;> omega) (by simp [Value.ownBlock] <;> omega)]; exact HX2.out w0); have b0 : w1.cell? ⟨w0.heap.size + 1, 0, none⟩ = some (.string ByteArray.empty) := cell_blk hbx 0; have b1 : w1.cell? ⟨w0.heap.size + 1, 1, none⟩ = some (.int .i64 0) := cell_blk hbx 1; have b2 : w1.cell? ⟨w0.heap.size + 1, 2, none⟩ = some (.slice none 0 0) := cell_blk hbx 2; have bz := frozen_blk hbx)
        | (refine step_append_rec (by rfl) _ _ (by rfl) (base := w0.heap.size) (v := .slice (some ⟨w0.heap.size + 1, 0, none⟩) 0 0) (l := []) (A := fa) (c := fcap) (r := r) (by rfl) (by exact own_empty_blk (by exact HE3.out w0) (by omega)) (by rfl) (by exact HSr.out _ (by repeat' first | exact Upd.refl _ _ | apply Upd.alloc | apply Upd.drew)) ?_ ?_ ?_; (simp; omega); (simp <;> omega); intro v1 w1 hown1 hgrow; obtain ⟨ga, gcap, hv1⟩ := own_shape hown1; subst hv1; have hg1 : w.heap.size < w1.heap.size := (by have := hgrow.size; simp at this; omega); have u1 : Upd [] w0 w1 := Upd.grown (by repeat' first | exact Upd.refl _ _ | apply Upd.alloc | apply Upd.drew) hgrow (fun k hk => by simp [Value.ownBlock] at hk; omega); obtain ⟨q0, q1, q2⟩ := HKp.out w1 u1; have hbx : w1.heap[w0.heap.size]? = some (boxE ByteArray.empty 0 (.slice none 0 0)) := (by rw [hgrow.block _ (by simp <;> omega) (by simp [Value.ownBlock] <;> omega)]; exact HX3.out w0); have b0 : w1.cell? ⟨w0.heap.size, 0, none⟩ = some (.string ByteArray.empty) := cell_blk hbx 0; have b1 : w1.cell? ⟨w0.heap.size, 1, none⟩ = some (.int .i64 0) := cell_blk hbx 1; have b2 : w1.cell? ⟨w0.heap.size, 2, none⟩ = some (.slice none 0 0) := cell_blk hbx 2; have bz := frozen_blk hbx))
    · have HP := Lib.hid (copy_new (ty := ty) (ver := ver) hown1 u1)
      go_wp2_with fail
      go_meet
      case rel => exact HP.out
    · have HP := Lib.hid (copy_set (ty := ty) (ver := ver) (by omega) hbx hown1 u1)
      go_wp2_with fail
      go_meet
      case rel => exact HP.out
    · have HP := Lib.hid (copy_set (ty := ty) (ver := ver) (by omega) hbx hown1 u1)
      go_wp2_with fail
      go_meet
      case rel => exact HP.out
  case rest =>
    obtain ⟨B, fv0, rfl, hB, hBx, hO, hU⟩ := hcut
    have HE0 : Hid (ER w wc B ty ver fv0 r) := Lib.hid ⟨hBx, (hU.block _ (lt_of_blk H0.out.2.2) (by simp)).trans H0.out.2.2, by rw [← HZ.out]; exact hO, by rw [← HZ.out]; exact hB, H0.out.1.trans hU⟩
    clear hB hBx hO hU HSr H0 HZ
    go_wp2_with fail
    go_loopg [6, 7, 8] (us.length + 1) (fun n i6 _ _ wr => ∃ (k : Nat) (ver' : Int) (r' : List Fd) (fv' : Value), i6 = .int .i64 k ∧ k ≤ us.length + 1 ∧ n = us.length + 1 - k ∧ Hid (ER w wr B ty ver' fv' r') ∧ Hid (stepU us ty (us.length + 1 - k) ver' r' = applyU us ty ver r) ∧ r'.length ≤ max r.length 16 ∧ Hid (∀ x ∈ r', FitN x))
    case atStart => exact ⟨0, ver, r, _, rfl, by omega, rfl, HE0, Lib.hid rfl, by omega, HN⟩
    case round =>
      obtain ⟨k, ver', r', fv', rfl, hk, rfl, hES, hstep, hlr, hfit⟩ := hrel
      have e0 : wr.cell? ⟨B, 0, none⟩ = some (.string ty) := cell_blk hES.out.ev 0
      have e1 : wr.cell? ⟨B, 1, none⟩ = some (.int .i64 ver') := cell_blk hES.out.ev 1
      have e2 : wr.cell? ⟨B, 2, none⟩ = some fv' := cell_blk hES.out.ev 2
      have hlt0 := lt_of_blk hES.out.res
      have hltB := lt_of_blk hES.out.ev
      have hmb := hES.out.mb
      have hneB : B ≠ w.heap.size + 1 := by omega
      have r0 : wr.cell? ⟨w.heap.size + 1, 0, none⟩ = some (.string ByteArray.empty) := cell_blk hES.out.res 0
      have r1 : wr.cell? ⟨w.heap.size + 1, 1, none⟩ = some (.int .i64 0) := cell_blk hES.out.res 1
      have r2 : wr.cell? ⟨w.heap.size + 1, 2, none⟩ = some (.slice none 0 0) := cell_blk hES.out.res 2
      have rfz := frozen_blk hES.out.res
      obtain ⟨fa', fcap', rfl, -, -⟩ := hES.out.own.recAt.isSlice
      by_cases hkl : k ≤ us.length
      · have hle : (k : Int) ≤ (us.length : Int) := by omega
        have hst : stepU us ty (us.length + 1 - k) ver' r' = match findU us ty ver' with
          | none => (ver', r')
          | some u => stepU us ty (us.length - k) (wrap64 (ver' + 1)) (u.ch.foldl doneF r') := by
          rw [show us.length + 1 - k = (us.length - k) + 1 by omega]; rfl
        rw [hstep.out] at hst
        have HST := Lib.hid hst
        have HFi := Lib.hid (find14_ok _ us ty ver' wr (HUs.out _ hES.out.upd))
        clear hst hstep
        rcases posU_cases us ty ver' with ⟨hp, -, hf⟩ | ⟨i, hi, hp, -, -, hf⟩
        · rw [hf] at HST
          rw [hp] at HFi
          clear hf hp r0 r1 r2 rfz
          go_wp2_with fail
          refine HFi.out.mono ?_
          rintro e w2 ⟨rfl, hu2⟩
          have hES2 := Lib.hid (hES.out.keep hu2)
          clear HFi hu2 hES hlt0 hltB hneB e0 e1 e2
          have e0 : w2.cell? ⟨B, 0, none⟩ = some (.string ty) := cell_blk hES2.out.ev 0
          have e1 : w2.cell? ⟨B, 1, none⟩ = some (.int .i64 ver') := cell_blk hES2.out.ev 1
          have e2 : w2.cell? ⟨B, 2, none⟩ = some (.slice fa' r'.length fcap') := cell_blk hES2.out.ev 2
          have r0 : w2.cell? ⟨w.heap.size + 1, 0, none⟩ = some (.string ByteArray.empty) := cell_blk hES2.out.res 0
          have r1 : w2.cell? ⟨w.heap.size + 1, 1, none⟩ = some (.int .i64 0) := cell_blk hES2.out.res 1
          have r2 : w2.cell? ⟨w.heap.size + 1, 2, none⟩ = some (.slice none 0 0) := cell_blk hES2.out.res 2
          have rfz := frozen_blk hES2.out.res
          go_wp2_with fail
          have hb := box_set3 hES2.out.res ty ver' (.slice fa' r'.length fcap')
          have z0 := cell_blk hb 0
          have z1 := cell_blk hb 1
          have z2 := cell_blk hb 2
          clear r0 r1 r2 e0 e1 e2 rfz hb
          generalize hWf : (((w2.setCell ⟨w.heap.size + 1, 0, none⟩ (.string ty)).setCell ⟨w.heap.size + 1, 1, none⟩ (.int .i64 ver')).setCell ⟨w.heap.size + 1, 2, none⟩ (.slice fa' r'.length fcap')) = Wf at *
          refine bodyPost_ret (by simp [results, Tryz.results25, go_sem, z0, z1, z2]; try rfl) rfl ?_
          rw [HST.out, ← hWf]
          exact hES2.out.done
        · rw [hf] at HST
          rw [hp] at HFi
          have hi0 : ¬ (i : Int) < 0 := by omega
          have hil : (i : Int) < (us.length : Int) := by omega
          have HUs2 := Lib.hid (fun (W : World) (u : Upd [] w W) => (HUs.out W u))
          obtain ⟨ca, cc, hcv⟩ := HSh.out us[i] (List.getElem_mem hi)
          have HUC := Lib.hid (HC.out us[i] (List.getElem_mem hi))
          have HUch := Lib.hid (fun (W : World) (x : Upd [] w W) => (HUs.out W x).chs (List.getElem_mem hi))
          have HUu : Hid (∃ b off, ua = some ⟨b, off, none⟩ ∧ ∀ (W : World), Upd [] w W → W.cell? ⟨b, off + i * 3 + 2, none⟩ = some us[i].cv) := Lib.hid (by
            obtain ⟨a', cap', he, -, -, h3⟩ := HUs.out w (Upd.refl _ _)
            simp only [Value.slice.injEq, true_and] at he
            obtain ⟨rfl, rfl⟩ := he
            obtain ⟨b, off, rfl, hU, -⟩ := h3 i hi
            exact ⟨b, off, rfl, fun W u => (U3.of_blk hU (u.block _ hU.lt (by simp))).2.2⟩)
          clear hf hp r0 r1 r2 rfz HUs2
          generalize us[i] = u at *
          obtain ⟨uty, ufr, ucv, uch⟩ := u
          dsimp only at hcv
          subst hcv
          obtain ⟨ub, uoff, hua, hUu⟩ := HUu.out
          subst hua
          have HUv := Lib.hid hUu
          clear HUu hUu
          have hcc : uch.length ≤ 9223372036854775807 := by
            obtain ⟨_, _, hv, q1, q2, -⟩ := HUch.out w (Upd.refl _ _)
            simp only [Value.slice.injEq] at hv
            unfold maxLen at q2
            dsimp only at q1 hv
            omega
          go_wp2_with fail
          refine HFi.out.mono ?_
          rintro e w2 ⟨rfl, hu2⟩
          have hES2 := Lib.hid (hES.out.keep hu2)
          clear HFi hu2 hES hlt0 hltB hneB e0 e1 e2
          go_wp2_with fail
          go_loopg [8] uch.length (fun n2 i2 wr2 => ∃ (j : Nat) (fv3 : Value), i2 = .int .i64 j ∧ j ≤ uch.length ∧ n2 = uch.length - j ∧ Hid (ER w wr2 B ty ver' fv3 ((uch.take j).foldl doneF r')))
          case atStart => exact ⟨0, _, rfl, by omega, rfl, hES2⟩
          case round =>
            obtain ⟨j, fv3, rfl, hj, rfl, hE3⟩ := hrel
            have c2 : wr.cell? ⟨ub, uoff + i * 3 + 2, none⟩ = some (.slice ca uch.length cc) := HUv.out wr hE3.out.upd
            by_cases hjl : j < uch.length
            · have hlt : (j : Int) < (uch.length : Int) := by omega
              have hdj : Hid ((uch.take (j + 1)).foldl doneF r' = doneF ((uch.take j).foldl doneF r') uch[j]) := Lib.hid (by
                rw [List.take_add_one, List.getElem?_eq_getElem hjl, List.foldl_append]
                rfl)
              obtain ⟨_, _, hv, q1, q2, hch⟩ := HUch.out wr hE3.out.upd
              simp only [Value.slice.injEq] at hv
              obtain ⟨rfl, -, rfl⟩ := hv
              obtain ⟨cb, coff, rfl, hca⟩ := hch j hjl
              obtain ⟨d0, d1, d2, d3, d4, d5, d6⟩ := hca
              have e2 : wr.cell? ⟨B, 2, none⟩ = some fv3 := cell_blk hE3.out.ev 2
              have hrl := foldF_length (uch.take j) r' (max r.length 16) hlr (by omega)
              have hrf := Lib.hid (foldF_fit (uch.take j) r' hfit.out (fun c hc => HUC.out c (List.mem_of_mem_take hc)))
              obtain ⟨fa3, fcap3, rfl, -, -⟩ := hE3.out.own.recAt.isSlice
              generalize uch[j] = c at *
              obtain ⟨kd, cnm, cto, ⟨fnm, ftx, cn, fs⟩⟩ := c
              dsimp only at d0 d1 d2 d3 d4 d5 d6
              generalize (uch.take j).foldl doneF r' = rj at *
              clear hch q1
              have hD := Lib.hid (done14_ok (.slice fa3 rj.length fcap3) rj ⟨kd, cnm, cto, ⟨fnm, ftx, cn, fs⟩⟩ wr.drew (hE3.out.keep (Upd.refl [] wr).drew).own.recAt (by have := HL.out; omega) (HT.out.upd hE3.out.upd.drew) hrf.out)
              go_upto_region 11 with (fail)
              have e2' : wr.drew.cell? ⟨B, 2, none⟩ = some (.slice fa3 rj.length fcap3) := e2
              have c2' : wr.drew.cell? ⟨ub, uoff + i * 3 + 2, none⟩ = some (.slice (some ⟨cb, coff, none⟩) uch.length cc) := c2
              have d0' : wr.drew.cell? ⟨cb, coff + j * 7, none⟩ = some (.int .i64 kd) := d0
              have d1' : wr.drew.cell? ⟨cb, coff + j * 7 + 1, none⟩ = some (.string cnm) := d1
              have d2' : wr.drew.cell? ⟨cb, coff + j * 7 + 2, none⟩ = some (.string cto) := d2
              have d3' : wr.drew.cell? ⟨cb, coff + j * 7 + 3, none⟩ = some (.string fnm) := d3
              have d4' : wr.drew.cell? ⟨cb, coff + j * 7 + 3 + 1, none⟩ = some (.bool ftx) := d4
              have d5' : wr.drew.cell? ⟨cb, coff + j * 7 + 3 + 2, none⟩ = some (.int .i64 cn) := d5
              have d6' : wr.drew.cell? ⟨cb, coff + j * 7 + 3 + 3, none⟩ = some (.string fs) := d6
              go_region_law (first
                | (go_simp; go_at_call 45; refine hD.out.mono ?_; rintro e w5 ⟨fv5, rfl, hr5, hv5, hu5⟩; have hA := ER.after hE3.out (Upd.refl [] wr).drew hr5 hv5 hu5; obtain ⟨fa5, fcap5, rfl, -, -⟩ := hr5.isSlice; have e25 : w5.cell? ⟨B, 2, none⟩ = some (.slice fa3 rj.length fcap3) := cell_blk hA.1.ev 2; have fz5 := frozen_blk hA.1.ev))
              all_goals
                have HE6 : Hid (∀ W, W.Alike (w5.setCell ⟨B, 2, none⟩ (.slice fa5 (doneF rj ⟨kd, cnm, cto, ⟨fnm, ftx, cn, fs⟩⟩).length fcap5)) → ER w W B ty ver' (.slice fa5 (doneF rj ⟨kd, cnm, cto, ⟨fnm, ftx, cn, fs⟩⟩).length fcap5) (doneF rj ⟨kd, cnm, cto, ⟨fnm, ftx, cn, fs⟩⟩)) := Lib.hid fun W hW => hA.1.setF hA.2 hW
                clear hA hr5 hv5 hu5 hE3 hD e25 fz5 e2 e2' c2 c2' d0 d0' d1 d1' d2 d2' d3 d3' d4 d4' d5 d5' d6 d6'
                have hdj2 := hdj
                generalize doneF rj ⟨kd, cnm, cto, ⟨fnm, ftx, cn, fs⟩⟩ = rn at *
                go_wp2_with fail
                go_roundg (uch.length - (j + 1))
                case measure => omega
                case rel => exact ⟨j + 1, _, by go_num, by omega, rfl, Lib.hid (by rw [hdj2.out]; exact HE6.out _ (alike_refl _))⟩
            · have hlt : ¬ (j : Int) < (uch.length : Int) := by omega
              have hje : uch.take j = uch := List.take_of_length_le (by omega)
              rw [hje] at hE3
              have e1 : wr.cell? ⟨B, 1, none⟩ = some (.int .i64 ver') := cell_blk hE3.out.ev 1
              have fz := frozen_blk hE3.out.ev
              have hlr2 := foldF_length uch r' (max r.length 16) hlr (by omega)
              have hfit2 := Lib.hid (foldF_fit uch r' hfit.out HUC.out)
              have hstep2 : Hid (stepU us ty (us.length + 1 - (k + 1)) (wrap64 (ver' + 1)) (uch.foldl doneF r') = applyU us ty ver r) := Lib.hid (by rw [show us.length + 1 - (k + 1) = us.length - k by omega]; exact HST.out.symm)
              clear HST
              go_wp2_with fail
              go_roundg (us.length + 1 - (k + 1))
              case measure => omega
              case rel => exact ⟨k + 1, wrap64 (ver' + 1), _, _, by go_num, by omega, rfl, Lib.hid (hE3.out.setV (alike_refl _)), hstep2, hlr2, hfit2⟩
      · have hle : ¬ (k : Int) ≤ (us.length : Int) := by omega
        have HST : Hid ((ver', r') = applyU us ty ver r) := Lib.hid (by have := hstep.out; rwa [show us.length + 1 - k = 0 by omega] at this)
        clear hstep
        go_wp2_with fail
        have hb := box_set3 hES.out.res ty ver' (.slice fa' r'.length fcap')
        have z0 := cell_blk hb 0
        have z1 := cell_blk hb 1
        have z2 := cell_blk hb 2
        clear r0 r1 r2 e0 e1 e2 rfz hb
        generalize hWf : (((wr.setCell ⟨w.heap.size + 1, 0, none⟩ (.string ty)).setCell ⟨w.heap.size + 1, 1, none⟩ (.int .i64 ver')).setCell ⟨w.heap.size + 1, 2, none⟩ (.slice fa' r'.length fcap')) = Wf at *
        refine bodyPost_ret (by simp [results, Tryz.results25, go_sem, z0, z1, z2]; try rfl) rfl ?_
        rw [← HST.out, ← hWf]
        exact hES.out.done
end Go.Proofs.YtajppgngoffonaaGreatDoor.U
