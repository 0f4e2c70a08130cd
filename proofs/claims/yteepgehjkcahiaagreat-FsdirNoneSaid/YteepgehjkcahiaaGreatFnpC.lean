/- Closing a row: a law that returned true and turned no block that was there meets its row's post. Without a file system nothing is done. FsdirNone returns true, whatever the name, the bytes and the number are, in whatever memory, and leaves all that was there as it was. No condition. -/
import Derived.WideKeyArgs
import Derived.Test.YteepgehjkcahiaaGreatC35
import Derived.Test.YteepgehjkcahiaaGreatRows
namespace Go.Proofs.YteepgehjkcahiaaGreat
open Go.RowKit Go.ChangeShapes Go.WideShapes Go.ChangeAt

theorem Upd.frame {w w' : World} (h : Upd [] w w') (may : MemPlace → Prop) : w.keptBut w' may := by
  refine ⟨h.os, h.output, fun i hi => ?_⟩
  rw [h.block i hi (by simp)]
  split <;> simp_all

theorem Upd.same {w w' : World} (h : Upd [] w w') {p : MemPlace} (hp : p.block < w.heap.size) : w.sameAt w' p := by
  cases p with
  | cell b o => exact World.cell?_of_block (w := w) (h.block b hp (by simp))
  | map b => exact h.block b hp (by simp)

section
variable {H : Type} {enc : TypeId × Value → H} {P : Program}

theorem trodAll_stays (hl : laidOutB P = true) {W W' : World} (hu : Upd [] W W') : ∀ (ts : List TypeId) (vs : List Value) (ds : List (DataW H)) (ps : List MemPlace), (∀ t ∈ ts, P.readableRec t = true ∧ t < P.types.size) →
    DataW.TrodAll enc P W 0 (fun _ => true) true ts vs ds ps → (∀ p ∈ ps, p.block < W.heap.size) → DataW.TrodAll enc P W' 0 (fun b => decide (b < W.heap.size)) true ts vs ds ps := by
  intro ts
  induction ts with
  | nil => intro vs ds ps _ h _; cases vs <;> cases ds <;> exact h
  | cons t ts ih =>
    intro vs ds ps ht h hp
    cases vs with
    | nil => exact h.elim
    | cons v vs =>
      cases ds with
      | nil => exact h.elim
      | cons d ds =>
        obtain ⟨p, q, h1, h2, rfl⟩ := h
        have ht' := ht t (by simp)
        exact ⟨p, q, WideElems.Trod_stays hl ht'.1 ht'.2 h1 (fun x hx => hu.same (hp x (by simp [hx]))) (fun x hx => by simpa using hp x (by simp [hx])),
          ih vs ds q (fun t h => ht t (by simp [h])) h2 (fun x hx => hp x (by simp [hx])), rfl⟩

/-- THE ROW's POST of a law without variables: it returned 'true', nothing old has turned. -/
theorem post_true {f : Func} {s : ChangeSpec} {B : TypeId} (hv : s.vars = []) (hl : laidOutB P = true) (hts : ∀ t ∈ f.params.toList, P.readableRec t = true ∧ t < P.types.size) (hr : f.resultTypes = #[B]) (hB : P.underlying B = some .bool)
    {W W' : World} {args : Array Value} {ds gs : List (DataW H)} {before : List MemPlace} (hW : DataW.Whole enc P f.params.toList s.vars false W args.toList ds gs before) (hu : Upd [] W W')
    (hs : s.fn H (ds ++ []) = { results := [.lit (.bool true)], args := ds }) : s.post enc P f false true false false W args (.bool true) W' := by
  have hlt := hW.lt
  have hW0 := hW
  obtain ⟨p, q, h1, h2, rfl, h3, h4⟩ := hW
  rw [hv] at h2
  obtain ⟨rfl, rfl⟩ := trodVars_none h2
  refine ⟨ds, [], p ++ [], [], p, [], hW0, ?_, ?_, ?_, hu.frame _, fun h => by cases h⟩
  · rw [hs, hr]
    exact trodAll_cons_mk (shut_bool hB _) trodAll_mk0
  · rw [hs]
    exact trodAll_stays hl hu _ _ _ _ hts h1 (fun x hx => hlt x (by simp [hx]))
  · rw [hs, hv]; exact rfl
end
end Go.Proofs.YteepgehjkcahiaaGreat

namespace Go.Proofs.YteepgehjkcahiaaGreat
open Go.RowKit Go.Maps

theorem use_nil (w : World) : Calls Tryz.prog 41 #[.pointer none] w fun r w' => r = .returned (.int .i64 1) ∧ w' = w := by
  go_enter Tryz.func41, Tryz.ntmps41
  go_wp2_with fail
  go_ret
  exact ⟨rfl, rfl⟩
theorem find_nil (w : World) (s : ByteArray) : Calls Tryz.prog 44 #[.pointer none, .string s] w fun r w' => r = .returned (.tuple #[.pointer none, .int .i64 1]) ∧ w' = w := by
  have HU := Lib.hid (use_nil w)
  go_enter Tryz.func44, Tryz.ntmps44
  go_wp2_with fail
  refine HU.out.mono ?_
  rintro r w1 ⟨rfl, rfl⟩
  go_wp2_with fail
  go_ret2
  exact ⟨rfl, rfl⟩
set_option maxRecDepth 100000 in
theorem read_nil (w : World) (s : ByteArray) (a n : Int) : Calls Tryz.prog 20 #[.pointer none, .string s, .int .i64 a, .int .i64 n] w fun r w' => r = .returned (.tuple #[.slice none 0 0, .int .i64 1]) ∧ w' = w := by
  have HU := Lib.hid (find_nil w s)
  go_enter Tryz.func20, Tryz.ntmps20
  go_wp2_with fail
  refine HU.out.mono ?_
  rintro r w1 ⟨rfl, rfl⟩
  go_wp2_with fail
  go_ret2
  exact ⟨rfl, rfl⟩
set_option maxRecDepth 100000 in
theorem size_nil (w : World) (s : ByteArray) : Calls Tryz.prog 24 #[.pointer none, .string s] w fun r w' => r = .returned (.tuple #[.int .i64 0, .int .i64 1]) ∧ w' = w := by
  have HU := Lib.hid (find_nil w s)
  have HZ := Lib.hid (isize_nil w)
  go_enter Tryz.func24, Tryz.ntmps24
  go_wp2_with fail
  refine HU.out.mono ?_
  rintro r w1 ⟨rfl, rfl⟩
  go_wp2_with fail
  refine HZ.out.mono ?_
  rintro r w2 ⟨rfl, rfl⟩
  go_wp2_with fail
  go_ret2
  exact ⟨rfl, rfl⟩
theorem reset_nil (w : World) : Calls Tryz.prog 32 #[.pointer none] w fun r w' => r = .returned (.tuple #[]) ∧ w' = w := by
  go_enter Tryz.func32, Tryz.ntmps32
  go_wp2_with fail
  (try simp only [Exit.inBlock, Exit.then]); refine bodyPost_ret (results_none rfl _ _ _) rfl ?_
  exact ⟨rfl, rfl⟩
set_option maxRecDepth 100000 in
theorem create_nil (w : World) (s : ByteArray) : Calls Tryz.prog 15 #[.pointer none, .string s] w fun r w' => r = .returned (.int .i64 1) ∧ w' = w := by
  have HU := Lib.hid (use_nil w)
  go_enter Tryz.func15, Tryz.ntmps15
  go_wp2_with fail
  refine HU.out.mono ?_
  rintro r w1 ⟨rfl, rfl⟩
  go_wp2_with fail
  go_ret
  exact ⟨rfl, rfl⟩
set_option maxRecDepth 100000 in
theorem append_nil (w : World) (s : ByteArray) (dv : Value) : Calls Tryz.prog 16 #[.pointer none, .string s, dv] w fun r w' => r = .returned (.int .i64 1) ∧ w' = w := by
  have HU := Lib.hid (find_nil w s)
  go_enter Tryz.func16, Tryz.ntmps16
  go_wp2_with fail
  refine HU.out.mono ?_
  rintro r w1 ⟨rfl, rfl⟩
  go_wp2_with fail
  go_ret
  exact ⟨rfl, rfl⟩
set_option maxRecDepth 100000 in
theorem rename_nil (w : World) (s t : ByteArray) : Calls Tryz.prog 21 #[.pointer none, .string s, .string t] w fun r w' => r = .returned (.int .i64 1) ∧ w' = w := by
  have HU := Lib.hid (find_nil w s)
  go_enter Tryz.func21, Tryz.ntmps21
  go_wp2_with fail
  refine HU.out.mono ?_
  rintro r w1 ⟨rfl, rfl⟩
  go_wp2_with fail
  go_ret
  exact ⟨rfl, rfl⟩
set_option maxRecDepth 100000 in
theorem remove_nil (w : World) (s : ByteArray) : Calls Tryz.prog 19 #[.pointer none, .string s] w fun r w' => r = .returned (.int .i64 1) ∧ w' = w := by
  have HU := Lib.hid (find_nil w s)
  go_enter Tryz.func19, Tryz.ntmps19
  go_wp2_with fail
  refine HU.out.mono ?_
  rintro r w1 ⟨rfl, rfl⟩
  go_wp2_with fail
  go_ret
  exact ⟨rfl, rfl⟩
set_option maxRecDepth 100000 in
theorem sync_nil (w : World) : Calls Tryz.prog 18 #[.pointer none] w fun r w' => r = .returned (.int .i64 1) ∧ w' = w := by
  have HU := Lib.hid (use_nil w)
  go_enter Tryz.func18, Tryz.ntmps18
  go_wp2_with fail
  refine HU.out.mono ?_
  rintro r w1 ⟨rfl, rfl⟩
  go_wp2_with fail
  go_ret
  exact ⟨rfl, rfl⟩
theorem list_nil (w : World) : Calls Tryz.prog 26 #[.pointer none] w fun r w' => r = .returned (.slice none 0 0) ∧ w' = w := by
  go_enter Tryz.func26, Tryz.ntmps26
  go_wp2_with fail
  go_ret
  exact ⟨rfl, rfl⟩
theorem free_nil (w : World) : Calls Tryz.prog 17 #[.pointer none] w fun r w' => r = .returned (.int .i64 0) ∧ w' = w := by
  go_enter Tryz.func17, Tryz.ntmps17
  go_wp2_with fail
  go_ret
  exact ⟨rfl, rfl⟩
set_option maxRecDepth 100000 in
theorem mount_nil (w : World) : Calls Tryz.prog 23 #[.pointer none] w fun r w' => r = .returned (.tuple #[.pointer none, .int .i64 1]) ∧ w' = w := by
  have HO := Lib.hid (open_nil w)
  go_enter Tryz.func23, Tryz.ntmps23
  go_wp2_with fail
  refine HO.out.mono ?_
  rintro r w1 ⟨rfl, rfl⟩
  go_wp2_with fail
  go_ret2
  exact ⟨rfl, rfl⟩
set_option maxRecDepth 100000 in
theorem mount_none (w : World) {p : Nat} {D : Dev} {F : List Nat} (h : DevAt w p D F) (hwr : D.wr ≤ 137438950000) (hdn : D.down = false) (hfu : D.fuse < 0) (hns : NoSlot fun i => (D.blk i).view) :
    Calls Tryz.prog 23 #[.pointer (some ⟨p, 0, none⟩)] w fun r w' => r = .returned (.tuple #[.pointer none, .int .i64 86]) ∧ Upd [p] w w' := by
  have HO := Lib.hid (open_none w h hwr hns)
  clear h
  go_enter Tryz.func23, Tryz.ntmps23
  go_wp2_with fail
  refine HO.out.mono ?_
  rintro r w1 ⟨e, D', rfl, he, hE, hD, hu⟩
  rcases he with rfl | rfl
  · rw [if_pos rfl] at hE
    have := (hE.ran (c := 0) (by simp)).ok hfu hdn
    omega
  · have HU := Lib.hid hu
    clear hE hD hu
    go_wp2_with fail
    go_ret2
    exact ⟨rfl, HU.out⟩
theorem new_noslot (n : Nat) : NoSlot fun i => ((Dev.new n).blk i).view := by
  have h : ∀ i, ((Dev.new n).blk i).view = zeroB := fun i => rfl
  exact ⟨slotOf_noughts, slotOf_noughts⟩
set_option maxRecDepth 100000 in
set_option maxHeartbeats 4000000 in
theorem fsnone_walk (w : World) (nm : ByteArray) (dv : Value) (n : Int) : Calls Tryz.prog 9 #[.string nm, dv, .int .i64 n] w fun r w' => r = .returned (.bool true) ∧ Upd [] w w' := by
  have HA := Lib.hid (awake_ok w)
  have HN := Lib.hid fun X : World => new_ok X 64 (by omega) (by omega)
  have H1 := Lib.hid fun X : World => read_nil X nm n n
  have H2 := Lib.hid fun X : World => size_nil X nm
  have H3 := Lib.hid fun X : World => reset_nil X
  have H4 := Lib.hid fun X : World => mount_nil X
  have H5 := Lib.hid fun X : World => create_nil X nm
  have H6 := Lib.hid fun X : World => append_nil X nm dv
  have H7 := Lib.hid fun X : World => rename_nil X nm nm
  have H8 := Lib.hid fun X : World => remove_nil X nm
  have H9 := Lib.hid fun X : World => sync_nil X
  have H10 := Lib.hid fun X : World => list_nil X
  have H11 := Lib.hid fun X : World => free_nil X
  have H12 := Lib.hid fun X : World => fformat_nil X
  go_enter Tryz.func9, Tryz.ntmps9
  go_wp2_with fail
  refine HA.out.mono ?_
  rintro r w1 ⟨rfl, hu1⟩
  have HU1 := Lib.hid hu1
  clear hu1
  go_wp2_with fail
  refine (HN.out _).mono ?_
  rintro r w2 ⟨p, F, rfl, hD, hU, hF⟩
  have HM := Lib.hid fun (X : World) (u : Upd [] w2 X) => mount_none X (hD.upd u (by simp)) (by simp [Dev.new]) rfl (by simp [Dev.new]) (new_noslot 64)
  have hpl := hF p hD.p_mem
  have HU2 := Lib.hid (HU1.out.trans hU)
  have hpw : w.heap.size ≤ p := by have := HU1.out.size; omega
  clear hD hU hF HN HA
  go_wp2_with fail
  refine (H1.out _).mono ?_
  rintro r w3 ⟨rfl, rfl⟩
  go_wp2_with fail
  refine (H2.out _).mono ?_
  rintro r w4 ⟨rfl, rfl⟩
  go_wp2_with fail
  refine (H3.out _).mono ?_
  rintro r w5 ⟨rfl, rfl⟩
  go_wp2_with fail
  refine (HM.out _ (Upd.refl _ _)).mono ?_
  rintro r w6 ⟨rfl, hu6⟩
  have HU6 := Lib.hid (HU2.out.next hu6 fun i hi hlt => by have := List.mem_singleton.1 hi; omega)
  clear hu6 HM
  go_wp2_with fail
  refine (H4.out _).mono ?_
  rintro r w7 ⟨rfl, rfl⟩
  go_wp2_with fail
  refine (H5.out _).mono ?_
  rintro r w8 ⟨rfl, rfl⟩
  go_wp2_with fail
  refine (H6.out _).mono ?_
  rintro r w9 ⟨rfl, rfl⟩
  go_wp2_with fail
  refine (H7.out _).mono ?_
  rintro r w10 ⟨rfl, rfl⟩
  go_wp2_with fail
  refine (H8.out _).mono ?_
  rintro r w11 ⟨rfl, rfl⟩
  go_wp2_with fail
  refine (H9.out _).mono ?_
  rintro r w12 ⟨rfl, rfl⟩
  go_wp2_with fail
  refine (H10.out _).mono ?_
  rintro r w13 ⟨rfl, rfl⟩
  go_wp2_with fail
  refine (H11.out _).mono ?_
  rintro r w14 ⟨rfl, rfl⟩
  go_wp2_with fail
  refine (H12.out _).mono ?_
  rintro r w15 ⟨rfl, rfl⟩
  go_wp2_with fail
  go_ret
  exact ⟨by first | rfl | simp, HU6.out⟩
end Go.Proofs.YteepgehjkcahiaaGreat

namespace Go.Proofs.YteepgehjkcahiaaGreat
theorem laidOut : laidOutB Tryz.prog = true := by kernel_rfl
theorem own : ownKnob Tryz.prog.godebug = none := by kernel_rfl
namespace fsdirNone
open Go.ChangeShapes Go.WideShapes Go.ChangeAt Go.RowKit

set_option maxRecDepth 100000 in
theorem lifted (os : Os) (started : os.Started) (H : Type) (enc : TypeId × Value → H) :
    ReturnsInHanded {} Tryz.checked os 9 .any (Rows.fsdirNoneSpec.pre6 enc Tryz.prog Tryz.f9 Rows.fsdirNoneRow.domain false) (Rows.fsdirNoneSpec.post enc Tryz.prog Tryz.f9 false true false false) := by
  refine returnsInHanded_of_change (C := Tryz.checked) own started (by kernel_rfl) Tryz.func9
    (ChangeSpec.witness6 (enc := enc) (C := Tryz.checked) false ⟨#[], #[.string ⟨#[]⟩, .slice none 0 0, .int .i64 0], []⟩ 8 (by kernel_rfl) (by kernel_rfl) (by kernel_rfl) (by kernel_rfl)) ?_
  intro W base args ds gs before hval0 hW hcnd _
  have hval : ∀ (j : Nat) t v, Tryz.f9.params[j]? = some t → args[j]? = some v → Value.okWide Tryz.prog W .any base t v := hval0
  have hW' := hW
  obtain ⟨p, q, hA0, hV, rfl, hfz, hnd⟩ := hW
  have hA : DataW.TrodAll enc Tryz.prog W 0 (fun _ => true) true Tryz.f9.params.toList args.toList ds p := hA0
  rw [Tryz.params9] at hA hval
  obtain ⟨v0, vs0, d0, ds0, p0, q0, hargs, rfl, rfl, h0, r0⟩ := trodAll_cons hA
  obtain ⟨v1, vs1, d1, ds1, p1, q1, rfl, rfl, rfl, h1, r1⟩ := trodAll_cons r0
  obtain ⟨v2, vs2, d2, ds2, p2, q2, rfl, rfl, rfl, h2, r2⟩ := trodAll_cons r1
  obtain ⟨rfl, rfl, rfl⟩ := trodAll_nil r2
  obtain rfl : args = #[v0, v1, v2] := by cases args; simp_all
  obtain ⟨a2, rfl, e2, f2, w2⟩ := open_int Tryz.underlying3 (hval 2 3 v2 rfl rfl) h2
  obtain ⟨nm, rfl⟩ := okWide_string Tryz.underlying9 (hval 0 9 v0 rfl rfl)
  refine (fsnone_walk W nm v1 a2).mono fun e W' ⟨he, hu⟩ => ?_
  subst he
  exact ⟨_, rfl, post_true (B := 4) rfl laidOut (by rw [Tryz.params9]; decide +kernel) rfl Tryz.underlying4 hW' hu rfl⟩

theorem over : Rows.fsdirNoneRow.holds Tryz.pinned (OpenSpec.ofChange Rows.fsdirNoneSpec) :=
  OpenClaim.holds_of_wide 9 Tryz.f9 rfl rfl rfl rfl rfl rfl rfl ⟨rfl, rfl, rfl, rfl, rfl⟩ rfl rfl rfl rfl rfl (by kernel_rfl) Tryz.func9 (by kernel_rfl)
    (of_decide_eq_true (by kernel_rfl)) (by unfold Func.isWrapper; first | (rw [if_pos (by decide +kernel)]; kernel_rfl) | (rw [if_neg (by decide +kernel)]; exact ⟨rfl, rfl⟩))
    (fun os started H enc _ => lifted os started H enc)

theorem proved : Rows.FsdirNoneSaid := over
#print axioms proved
end fsdirNone
end Go.Proofs.YteepgehjkcahiaaGreat
