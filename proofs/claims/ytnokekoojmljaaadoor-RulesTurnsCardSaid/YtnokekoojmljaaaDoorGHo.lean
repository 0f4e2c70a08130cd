/- The rules' holds: two values. -/
import Derived.Deep.RegionHeld2
import Derived.Test.YtnokekoojmljaaaDoorGEw
import Derived.Test.YtnokekoojmljaaaDoorGXs
import Derived.Test.YtnokekoojmljaaaDoorGIt
namespace Go.Proofs.YtnokekoojmljaaaDoor
open Go.RowKit

abbrev boxC (c : Cd) : Obj := .cells #[.int .i64 c.kd, .bool c.nt, .int .i64 c.a.kd, .int .i64 c.a.n, .string c.a.s, c.a.av, .int .i64 c.b.kd, .int .i64 c.b.n, .string c.b.s, c.b.av] 56

theorem heap_top (w : World) (o : Obj) : (w.alloc o).heap[w.heap.size]? = some o := by rw [heap_alloc, if_pos rfl]
theorem heap_top1 (w : World) (o o' : Obj) : ((w.alloc o).alloc o').heap[w.heap.size + 1]? = some o' := by rw [heap_alloc, if_pos (by simp)]

theorem strip4 {W : World} {B B' : Nat} (h : ¬ B = B') (a b c d : Value) : ((((W.setCell ⟨B', 0, none⟩ a).setCell ⟨B', 1, none⟩ b).setCell ⟨B', 2, none⟩ c).setCell ⟨B', 3, none⟩ d).heap[B]? = W.heap[B]? := by
  rw [heap_setCell, if_neg h, heap_setCell, if_neg h, heap_setCell, if_neg h, heap_setCell, if_neg h]

theorem eql_field (x y : Fd) (w : World) : (binOp .eql 34 (aggF x) (aggF y)).run Tryd.prog w = .ok (.bool (eqF x y)) w := by
  have h : (Op.equal 34 (aggF x) (aggF y)).run Tryd.prog w = .ok (decide (x.nm = y.nm ∧ x.tx = y.tx ∧ x.n = y.n ∧ x.s = y.s)) w := equalIn_field 9998 x y w
  simp only [binOp, Sem.run_bind, h, Result.andThen_ok, Sem.run_pure, eqF]

theorem lt_run (a b : ByteArray) (W : World) : (binOp .lss 9 (.string a) (.string b)).run Tryd.prog W = .ok (.bool (ltB a b)) W := by
  simp [binOp, Op.stringOp, ltB]

/-- What lies ready when a condition is looked at. -/
structure HoIn (P : Pl) (vs vg : Value) (c : Cd) (w W : World) : Prop where
  pl : W.heap[w.heap.size]? = some (boxP P vs vg)
  cd : W.heap[w.heap.size + 1]? = some (boxC c)
  upd : Upd [] w W

theorem HoIn.start (P : Pl) (vs vg : Value) (c : Cd) (w : World) : HoIn P vs vg c w ((w.alloc (boxP P vs vg)).alloc (boxC c)) :=
  ⟨by rw [heap_alloc, if_neg (by simp), heap_alloc, if_pos rfl], by rw [heap_alloc, if_pos (by simp)], ((Upd.refl [] w).alloc _).alloc _⟩

theorem HoIn.next {P : Pl} {vs vg : Value} {c : Cd} {w W W' : World} (h : HoIn P vs vg c w W) (u : Upd [] W W') : HoIn P vs vg c w W' :=
  ⟨(u.block _ (lt_of_blk h.pl) (by simp)).trans h.pl, (u.block _ (lt_of_blk h.cd) (by simp)).trans h.cd, h.upd.trans u⟩

set_option maxRecDepth 100000 in
set_option maxHeartbeats 4000000 in
theorem holds_two (P : Pl) (hP : FitP P) (vs vg : Value) (c : Cd) (hkd : c.kd = 1 ∨ c.kd = 2 ∨ c.kd = 3) (hfa : fitX c.a) (hfb : fitX c.b) (w : World) (hT : Tab w) (hp : PlAt w P vs vg) (hka : KidsAt w c.a.av c.a.kids) (hkb : KidsAt w c.b.av c.b.kids) :
    Calls Tryd.prog 51 #[aggP P vs vg, aggC c] w fun e w' => e = endV .bool (holdsX P c) ∧ Upd [] w w' := by
  have hst := HoIn.start P vs vg c w
  have HA := Lib.hid (fun W (u : Upd [] w W) => value_ok P hP vs vg c.a hfa W (hT.upd u) (hp.keep u) (hka.keep u))
  have HB := Lib.hid (fun W (u : Upd [] w W) => value_ok P hP vs vg c.b hfb W (hT.upd u) (hp.keep u) (hkb.keep u))
  have HR : Hid (holdsX P c = match valueX P c.a with
      | .error e => .error e
      | .ok a => match valueX P c.b with
        | .error e => .error e
        | .ok b => if c.kd = 1 then .ok (eqF a b != c.nt) else if a.tx = b.tx then .ok ((lessF a b || sameF a b && decide (c.kd = 3)) != c.nt) else .error 134) := Lib.hid (by
    unfold holdsX hasC
    rw [if_pos (by rw [if_neg (by omega)]; exact decide_eq_true hkd), if_neg (by omega)]
    cases valueX P c.a with
    | error e => rfl
    | ok a =>
      cases valueX P c.b with
      | error e => rfl
      | ok b => rfl)
  generalize holdsX P c = R at *
  generalize valueX P c.a = ra at *
  generalize valueX P c.b = rb at *
  obtain ⟨aa, ac, haa⟩ := hka.isSlice
  obtain ⟨ba, bc, hba⟩ := hkb.isSlice
  obtain ⟨sa, sc, hvs, -, -⟩ := hp.1.isSlice
  obtain ⟨ga, gc, hvg, -, -⟩ := hp.2.isSlice
  have h4 : (c.kd == 4) = false := by simp; omega
  have hge : (1 : Int) ≤ c.kd := by omega
  have hlt : c.kd < (4 : Int) := by omega
  clear hT hp hka hkb hP hfa hfb
  subst hvs hvg
  obtain ⟨st, state, given⟩ := P
  obtain ⟨kd, nt, ⟨akd, an, as_, aav, akids⟩, ⟨bkd, bn, bs, bav, bkids⟩⟩ := c
  dsimp only at haa hba hst HA HB HR h4 hge hlt hkd
  subst haa hba
  have HS := Lib.hid hst
  clear hst
  go_enter Tryd.func51, Tryd.ntmps51
  go_wp2_with fail
  refine (need_yes 132 _).mono ?_
  rintro e w1 ⟨rfl, hu1⟩
  have hst1 := HS.out.next hu1
  have p0 : w1.cell? ⟨w.heap.size, 0, none⟩ = some (.string st) := cell_blk hst1.pl 0
  have p1 : w1.cell? ⟨w.heap.size, 1, none⟩ = some (.slice sa state.length sc) := cell_blk hst1.pl 1
  have p2 : w1.cell? ⟨w.heap.size, 2, none⟩ = some (.slice ga given.length gc) := cell_blk hst1.pl 2
  have c0 : w1.cell? ⟨w.heap.size + 1, 0, none⟩ = some (.int .i64 kd) := cell_blk hst1.cd 0
  have c2 : w1.cell? ⟨w.heap.size + 1, 2, none⟩ = some (.int .i64 akd) := cell_blk hst1.cd 2
  have c3 : w1.cell? ⟨w.heap.size + 1, 3, none⟩ = some (.int .i64 an) := cell_blk hst1.cd 3
  have c4 : w1.cell? ⟨w.heap.size + 1, 4, none⟩ = some (.string as_) := cell_blk hst1.cd 4
  have c5 : w1.cell? ⟨w.heap.size + 1, 5, none⟩ = some (.slice aa akids.list.length ac) := cell_blk hst1.cd 5
  have c6 : w1.cell? ⟨w.heap.size + 1, 6, none⟩ = some (.int .i64 bkd) := cell_blk hst1.cd 6
  have c7 : w1.cell? ⟨w.heap.size + 1, 7, none⟩ = some (.int .i64 bn) := cell_blk hst1.cd 7
  have c8 : w1.cell? ⟨w.heap.size + 1, 8, none⟩ = some (.string bs) := cell_blk hst1.cd 8
  have c9 : w1.cell? ⟨w.heap.size + 1, 9, none⟩ = some (.slice ba bkids.list.length bc) := cell_blk hst1.cd 9
  have HS1 := Lib.hid hst1
  clear hst1 hu1 HS
  go_upto_region 8 with (fail)
  have HKp := Lib.hid (fun (W2 : World) (u : Upd [] w1 W2) => (show W2.cell? ⟨w.heap.size, 0, none⟩ = some (.string st) ∧ W2.cell? ⟨w.heap.size, 1, none⟩ = some (.slice sa state.length sc) ∧ W2.cell? ⟨w.heap.size, 2, none⟩ = some (.slice ga given.length gc) ∧ W2.cell? ⟨w.heap.size + 1, 2, none⟩ = some (.int .i64 akd) ∧ W2.cell? ⟨w.heap.size + 1, 3, none⟩ = some (.int .i64 an) ∧ W2.cell? ⟨w.heap.size + 1, 4, none⟩ = some (.string as_) ∧ W2.cell? ⟨w.heap.size + 1, 5, none⟩ = some (.slice aa akids.list.length ac) ∧ W2.cell? ⟨w.heap.size + 1, 6, none⟩ = some (.int .i64 bkd) ∧ W2.cell? ⟨w.heap.size + 1, 7, none⟩ = some (.int .i64 bn) ∧ W2.cell? ⟨w.heap.size + 1, 8, none⟩ = some (.string bs) ∧ W2.cell? ⟨w.heap.size + 1, 9, none⟩ = some (.slice ba bkids.list.length bc) from ⟨cell_keep u p0, cell_keep u p1, cell_keep u p2, cell_keep u c2, cell_keep u c3, cell_keep u c4, cell_keep u c5, cell_keep u c6, cell_keep u c7, cell_keep u c8, cell_keep u c9⟩))
  go_cut [8, 9] (fun s8 s9 W2 => ∃ fa fb B8 B9, ra = .ok fa ∧ rb = .ok fb ∧ s8 = .pointer (some ⟨B8, 0, none⟩) ∧ s9 = .pointer (some ⟨B9, 0, none⟩) ∧ W2.heap[B8]? = some (boxF fa) ∧ W2.heap[B9]? = some (boxF fb) ∧ Upd [] w1 W2)
  case first =>
    go_region_held2 (fun w' => w'.cell? ⟨w.heap.size, 0, none⟩ = some (.string st) ∧ w'.cell? ⟨w.heap.size, 1, none⟩ = some (.slice sa state.length sc) ∧ w'.cell? ⟨w.heap.size, 2, none⟩ = some (.slice ga given.length gc) ∧ w'.cell? ⟨w.heap.size + 1, 2, none⟩ = some (.int .i64 akd) ∧ w'.cell? ⟨w.heap.size + 1, 3, none⟩ = some (.int .i64 an) ∧ w'.cell? ⟨w.heap.size + 1, 4, none⟩ = some (.string as_) ∧ w'.cell? ⟨w.heap.size + 1, 5, none⟩ = some (.slice aa akids.list.length ac) ∧ w'.cell? ⟨w.heap.size + 1, 6, none⟩ = some (.int .i64 bkd) ∧ w'.cell? ⟨w.heap.size + 1, 7, none⟩ = some (.int .i64 bn) ∧ w'.cell? ⟨w.heap.size + 1, 8, none⟩ = some (.string bs) ∧ w'.cell? ⟨w.heap.size + 1, 9, none⟩ = some (.slice ba bkids.list.length bc))
      (first | (refine HKp.out _ ?_; repeat' (with_reducible first | exact hub3 | exact hub | exact Upd.refl _ _ | apply Upd.setCellNew | apply Upd.alloc | apply Upd.drew | omega)))
      (first
        | (go_at_call 52; (with_reducible refine (HA.out (((w1.alloc (.cells #[.string { data := #[] }, .bool false, .int .i64 0, .string { data := #[] }] 34)).alloc (.cells #[.string { data := #[] }, .bool false, .int .i64 0, .string { data := #[] }] 34)).drew) (by exact ((HS1.out.upd.alloc _).alloc _).drew)).mono ?_); rintro e w2 ⟨rfl, hu2⟩; rcases ra with ce | fa; exact And.intro rfl (And.intro (by rw [HR.out]; rfl) ((((HS1.out.upd.alloc _).alloc _).drew).trans hu2)); dsimp only [endV]; have hub : Upd [] w1 w2 := ((((Upd.refl [] w1).alloc _).alloc _).drew).trans hu2; have hs2 : w1.heap.size + 2 ≤ w2.heap.size := (by have h : ((w1.alloc (.cells #[.string { data := #[] }, .bool false, .int .i64 0, .string { data := #[] }] 34)).alloc (.cells #[.string { data := #[] }, .bool false, .int .i64 0, .string { data := #[] }] 34)).heap.size ≤ w2.heap.size := hu2.size; simpa using h); have F1 : w2.heap[w1.heap.size]? = some (Obj.cells #[.string { data := #[] }, .bool false, .int .i64 0, .string { data := #[] }] 34) := (hu2.block _ (by show w1.heap.size < ((w1.alloc (.cells #[.string { data := #[] }, .bool false, .int .i64 0, .string { data := #[] }] 34)).alloc (.cells #[.string { data := #[] }, .bool false, .int .i64 0, .string { data := #[] }] 34)).heap.size; simp only [World.size_alloc]; omega) (by simp)).trans (blk_alloc (heap_top _ _)); have F2 : w2.heap[w1.heap.size + 1]? = some (Obj.cells #[.string { data := #[] }, .bool false, .int .i64 0, .string { data := #[] }] 34) := (hu2.block _ (by show w1.heap.size + 1 < ((w1.alloc (.cells #[.string { data := #[] }, .bool false, .int .i64 0, .string { data := #[] }] 34)).alloc (.cells #[.string { data := #[] }, .bool false, .int .i64 0, .string { data := #[] }] 34)).heap.size; simp only [World.size_alloc]; omega) (by simp)).trans (heap_top1 _ _ _); skip)
        | (go_at_call 52; (with_reducible refine (HA.out ((w1.alloc (.cells #[.string { data := #[] }, .bool false, .int .i64 0, .string { data := #[] }] 34)).drew) (by exact (HS1.out.upd.alloc _).drew)).mono ?_); rintro e w2 ⟨rfl, hu2⟩; rcases ra with ce | fa; exact And.intro rfl (And.intro (by rw [HR.out]; rfl) (((HS1.out.upd.alloc _).drew).trans hu2)); dsimp only [endV]; have hub : Upd [] w1 w2 := (((Upd.refl [] w1).alloc _).drew).trans hu2; have hs2 : w1.heap.size + 1 ≤ w2.heap.size := (by have h : (w1.alloc (.cells #[.string { data := #[] }, .bool false, .int .i64 0, .string { data := #[] }] 34)).heap.size ≤ w2.heap.size := hu2.size; simpa using h); have F1 : w2.heap[w1.heap.size]? = some (Obj.cells #[.string { data := #[] }, .bool false, .int .i64 0, .string { data := #[] }] 34) := (hu2.block _ (by show w1.heap.size < (w1.alloc (.cells #[.string { data := #[] }, .bool false, .int .i64 0, .string { data := #[] }] 34)).heap.size; simp only [World.size_alloc]; omega) (by simp)).trans (heap_top _ _); skip)
        | (go_at_call 52; (with_reducible refine (HA.out (w1.drew) (by exact HS1.out.upd.drew)).mono ?_); rintro e w2 ⟨rfl, hu2⟩; rcases ra with ce | fa; exact And.intro rfl (And.intro (by rw [HR.out]; rfl) ((HS1.out.upd.drew).trans hu2)); dsimp only [endV]; have hub : Upd [] w1 w2 := ((Upd.refl [] w1).drew).trans hu2; have hs2 : w1.heap.size + 0 ≤ w2.heap.size := (by have h : w1.heap.size ≤ w2.heap.size := hu2.size; simpa using h); skip)
        | (go_at_call 52; (with_reducible refine (HB.out (((w2.alloc (.cells #[.string { data := #[] }, .bool false, .int .i64 0, .string { data := #[] }] 34)).alloc (.cells #[.string { data := #[] }, .bool false, .int .i64 0, .string { data := #[] }] 34))) (by exact (((HS1.out.upd.trans hub).alloc _).alloc _))).mono ?_); rintro e w3 ⟨rfl, hu3⟩; rcases rb with ce | fb; exact And.intro rfl (And.intro (by rw [HR.out]; rfl) (((((HS1.out.upd.trans hub).alloc _).alloc _)).trans hu3)); dsimp only [endV]; have hub3 : Upd [] w1 w3 := (((hub.alloc _).alloc _)).trans hu3; have hs3 : w2.heap.size + 2 ≤ w3.heap.size := (by have h : ((w2.alloc (.cells #[.string { data := #[] }, .bool false, .int .i64 0, .string { data := #[] }] 34)).alloc (.cells #[.string { data := #[] }, .bool false, .int .i64 0, .string { data := #[] }] 34)).heap.size ≤ w3.heap.size := hu3.size; simpa using h); have hsu : Upd [] w2 w3 := ((((Upd.refl [] w2).alloc _).alloc _)).trans hu3; (try have G1 := (hsu.block _ (lt_of_blk F1) (by simp)).trans F1); (try have G2 := (hsu.block _ (lt_of_blk F2) (by simp)).trans F2); have G3 : w3.heap[w2.heap.size]? = some (Obj.cells #[.string { data := #[] }, .bool false, .int .i64 0, .string { data := #[] }] 34) := (hu3.block _ (by simp only [World.size_alloc]; omega) (by simp)).trans (blk_alloc (heap_top _ _)); have G4 : w3.heap[w2.heap.size + 1]? = some (Obj.cells #[.string { data := #[] }, .bool false, .int .i64 0, .string { data := #[] }] 34) := (hu3.block _ (by simp only [World.size_alloc]; omega) (by simp)).trans (heap_top1 _ _ _); (try have z10 := cell_blk G1 0); (try have z11 := cell_blk G1 1); (try have z12 := cell_blk G1 2); (try have z13 := cell_blk G1 3); (try have fz1 := frozen_blk G1); (try have z20 := cell_blk G2 0); (try have z21 := cell_blk G2 1); (try have z22 := cell_blk G2 2); (try have z23 := cell_blk G2 3); (try have fz2 := frozen_blk G2); (try have z30 := cell_blk G3 0); (try have z31 := cell_blk G3 1); (try have z32 := cell_blk G3 2); (try have z33 := cell_blk G3 3); (try have fz3 := frozen_blk G3); (try have z40 := cell_blk G4 0); (try have z41 := cell_blk G4 1); (try have z42 := cell_blk G4 2); (try have z43 := cell_blk G4 3); (try have fz4 := frozen_blk G4); (try have z1a0 := fun o => cell_blk (blk_alloc (o' := o) G1) 0); (try have z1a1 := fun o => cell_blk (blk_alloc (o' := o) G1) 1); (try have z1a2 := fun o => cell_blk (blk_alloc (o' := o) G1) 2); (try have z1a3 := fun o => cell_blk (blk_alloc (o' := o) G1) 3); (try have fz1a := fun o => frozen_blk (blk_alloc (o' := o) G1)); (try have z2a0 := fun o => cell_blk (blk_alloc (o' := o) G2) 0); (try have z2a1 := fun o => cell_blk (blk_alloc (o' := o) G2) 1); (try have z2a2 := fun o => cell_blk (blk_alloc (o' := o) G2) 2); (try have z2a3 := fun o => cell_blk (blk_alloc (o' := o) G2) 3); (try have fz2a := fun o => frozen_blk (blk_alloc (o' := o) G2)); (try have z3a0 := fun o => cell_blk (blk_alloc (o' := o) G3) 0); (try have z3a1 := fun o => cell_blk (blk_alloc (o' := o) G3) 1); (try have z3a2 := fun o => cell_blk (blk_alloc (o' := o) G3) 2); (try have z3a3 := fun o => cell_blk (blk_alloc (o' := o) G3) 3); (try have fz3a := fun o => frozen_blk (blk_alloc (o' := o) G3)); (try have z4a0 := fun o => cell_blk (blk_alloc (o' := o) G4) 0); (try have z4a1 := fun o => cell_blk (blk_alloc (o' := o) G4) 1); (try have z4a2 := fun o => cell_blk (blk_alloc (o' := o) G4) 2); (try have z4a3 := fun o => cell_blk (blk_alloc (o' := o) G4) 3); (try have fz4a := fun o => frozen_blk (blk_alloc (o' := o) G4)); have G5 : ((w3.alloc (.cells #[.string { data := #[] }, .bool false, .int .i64 0, .string { data := #[] }] 34)).alloc (.cells #[.string { data := #[] }, .bool false, .int .i64 0, .string { data := #[] }] 34)).heap[w3.heap.size]? = some (Obj.cells #[.string { data := #[] }, .bool false, .int .i64 0, .string { data := #[] }] 34) := blk_alloc (heap_top _ _); (try have z50 := cell_blk G5 0); (try have z51 := cell_blk G5 1); (try have z52 := cell_blk G5 2); (try have z53 := cell_blk G5 3); (try have fz5 := frozen_blk G5); (try have q1 : ¬ w1.heap.size = w2.heap.size := by omega); (try have q2 : ¬ w1.heap.size = w2.heap.size + 1 := by omega); (try have q3 : ¬ w1.heap.size = w3.heap.size := by omega); (try have q4 : ¬ w1.heap.size + 1 = w2.heap.size := by omega); (try have q5 : ¬ w1.heap.size + 1 = w2.heap.size + 1 := by omega); (try have q6 : ¬ w1.heap.size + 1 = w3.heap.size := by omega); (try have q7 : ¬ w2.heap.size = w1.heap.size := by omega); (try have q8 : ¬ w2.heap.size = w1.heap.size + 1 := by omega); (try have q9 : ¬ w2.heap.size = w3.heap.size := by omega); (try have q10 : ¬ w2.heap.size + 1 = w1.heap.size := by omega); (try have q11 : ¬ w2.heap.size + 1 = w1.heap.size + 1 := by omega); (try have q12 : ¬ w2.heap.size + 1 = w3.heap.size := by omega); (try have q13 : ¬ w3.heap.size = w1.heap.size := by omega); (try have q14 : ¬ w3.heap.size = w1.heap.size + 1 := by omega); (try have q15 : ¬ w3.heap.size = w2.heap.size := by omega); (try have q16 : ¬ w3.heap.size = w2.heap.size + 1 := by omega); skip)
        | (go_at_call 52; (with_reducible refine (HB.out ((w2.alloc (.cells #[.string { data := #[] }, .bool false, .int .i64 0, .string { data := #[] }] 34))) (by exact ((HS1.out.upd.trans hub).alloc _))).mono ?_); rintro e w3 ⟨rfl, hu3⟩; rcases rb with ce | fb; exact And.intro rfl (And.intro (by rw [HR.out]; rfl) ((((HS1.out.upd.trans hub).alloc _)).trans hu3)); dsimp only [endV]; have hub3 : Upd [] w1 w3 := ((hub.alloc _)).trans hu3; have hs3 : w2.heap.size + 1 ≤ w3.heap.size := (by have h : (w2.alloc (.cells #[.string { data := #[] }, .bool false, .int .i64 0, .string { data := #[] }] 34)).heap.size ≤ w3.heap.size := hu3.size; simpa using h); have hsu : Upd [] w2 w3 := (((Upd.refl [] w2).alloc _)).trans hu3; (try have G1 := (hsu.block _ (lt_of_blk F1) (by simp)).trans F1); (try have G2 := (hsu.block _ (lt_of_blk F2) (by simp)).trans F2); have G3 : w3.heap[w2.heap.size]? = some (Obj.cells #[.string { data := #[] }, .bool false, .int .i64 0, .string { data := #[] }] 34) := (hu3.block _ (by simp only [World.size_alloc]; omega) (by simp)).trans (heap_top _ _); (try have z10 := cell_blk G1 0); (try have z11 := cell_blk G1 1); (try have z12 := cell_blk G1 2); (try have z13 := cell_blk G1 3); (try have fz1 := frozen_blk G1); (try have z20 := cell_blk G2 0); (try have z21 := cell_blk G2 1); (try have z22 := cell_blk G2 2); (try have z23 := cell_blk G2 3); (try have fz2 := frozen_blk G2); (try have z30 := cell_blk G3 0); (try have z31 := cell_blk G3 1); (try have z32 := cell_blk G3 2); (try have z33 := cell_blk G3 3); (try have fz3 := frozen_blk G3); (try have z40 := cell_blk G4 0); (try have z41 := cell_blk G4 1); (try have z42 := cell_blk G4 2); (try have z43 := cell_blk G4 3); (try have fz4 := frozen_blk G4); (try have z1a0 := fun o => cell_blk (blk_alloc (o' := o) G1) 0); (try have z1a1 := fun o => cell_blk (blk_alloc (o' := o) G1) 1); (try have z1a2 := fun o => cell_blk (blk_alloc (o' := o) G1) 2); (try have z1a3 := fun o => cell_blk (blk_alloc (o' := o) G1) 3); (try have fz1a := fun o => frozen_blk (blk_alloc (o' := o) G1)); (try have z2a0 := fun o => cell_blk (blk_alloc (o' := o) G2) 0); (try have z2a1 := fun o => cell_blk (blk_alloc (o' := o) G2) 1); (try have z2a2 := fun o => cell_blk (blk_alloc (o' := o) G2) 2); (try have z2a3 := fun o => cell_blk (blk_alloc (o' := o) G2) 3); (try have fz2a := fun o => frozen_blk (blk_alloc (o' := o) G2)); (try have z3a0 := fun o => cell_blk (blk_alloc (o' := o) G3) 0); (try have z3a1 := fun o => cell_blk (blk_alloc (o' := o) G3) 1); (try have z3a2 := fun o => cell_blk (blk_alloc (o' := o) G3) 2); (try have z3a3 := fun o => cell_blk (blk_alloc (o' := o) G3) 3); (try have fz3a := fun o => frozen_blk (blk_alloc (o' := o) G3)); (try have z4a0 := fun o => cell_blk (blk_alloc (o' := o) G4) 0); (try have z4a1 := fun o => cell_blk (blk_alloc (o' := o) G4) 1); (try have z4a2 := fun o => cell_blk (blk_alloc (o' := o) G4) 2); (try have z4a3 := fun o => cell_blk (blk_alloc (o' := o) G4) 3); (try have fz4a := fun o => frozen_blk (blk_alloc (o' := o) G4)); have G5 : ((w3.alloc (.cells #[.string { data := #[] }, .bool false, .int .i64 0, .string { data := #[] }] 34)).alloc (.cells #[.string { data := #[] }, .bool false, .int .i64 0, .string { data := #[] }] 34)).heap[w3.heap.size]? = some (Obj.cells #[.string { data := #[] }, .bool false, .int .i64 0, .string { data := #[] }] 34) := blk_alloc (heap_top _ _); (try have z50 := cell_blk G5 0); (try have z51 := cell_blk G5 1); (try have z52 := cell_blk G5 2); (try have z53 := cell_blk G5 3); (try have fz5 := frozen_blk G5); (try have q1 : ¬ w1.heap.size = w2.heap.size := by omega); (try have q2 : ¬ w1.heap.size = w2.heap.size + 1 := by omega); (try have q3 : ¬ w1.heap.size = w3.heap.size := by omega); (try have q4 : ¬ w1.heap.size + 1 = w2.heap.size := by omega); (try have q5 : ¬ w1.heap.size + 1 = w2.heap.size + 1 := by omega); (try have q6 : ¬ w1.heap.size + 1 = w3.heap.size := by omega); (try have q7 : ¬ w2.heap.size = w1.heap.size := by omega); (try have q8 : ¬ w2.heap.size = w1.heap.size + 1 := by omega); (try have q9 : ¬ w2.heap.size = w3.heap.size := by omega); (try have q10 : ¬ w2.heap.size + 1 = w1.heap.size := by omega); (try have q11 : ¬ w2.heap.size + 1 = w1.heap.size + 1 := by omega); (try have q12 : ¬ w2.heap.size + 1 = w3.heap.size := by omega); (try have q13 : ¬ w3.heap.size = w1.heap.size := by omega); (try have q14 : ¬ w3.heap.size = w1.heap.size + 1 := by omega); (try have q15 : ¬ w3.heap.size = w2.heap.size := by omega); (try have q16 : ¬ w3.heap.size = w2.heap.size + 1 := by omega); skip)
        | (go_at_call 52; (with_reducible refine (HB.out (w2) (by exact (HS1.out.upd.trans hub))).mono ?_); rintro e w3 ⟨rfl, hu3⟩; rcases rb with ce | fb; exact And.intro rfl (And.intro (by rw [HR.out]; rfl) (((HS1.out.upd.trans hub)).trans hu3)); dsimp only [endV]; have hub3 : Upd [] w1 w3 := (hub).trans hu3; have hs3 : w2.heap.size + 0 ≤ w3.heap.size := (by have h : w2.heap.size ≤ w3.heap.size := hu3.size; simpa using h); have hsu : Upd [] w2 w3 := ((Upd.refl [] w2)).trans hu3; (try have G1 := (hsu.block _ (lt_of_blk F1) (by simp)).trans F1); (try have G2 := (hsu.block _ (lt_of_blk F2) (by simp)).trans F2); (try have z10 := cell_blk G1 0); (try have z11 := cell_blk G1 1); (try have z12 := cell_blk G1 2); (try have z13 := cell_blk G1 3); (try have fz1 := frozen_blk G1); (try have z20 := cell_blk G2 0); (try have z21 := cell_blk G2 1); (try have z22 := cell_blk G2 2); (try have z23 := cell_blk G2 3); (try have fz2 := frozen_blk G2); (try have z30 := cell_blk G3 0); (try have z31 := cell_blk G3 1); (try have z32 := cell_blk G3 2); (try have z33 := cell_blk G3 3); (try have fz3 := frozen_blk G3); (try have z40 := cell_blk G4 0); (try have z41 := cell_blk G4 1); (try have z42 := cell_blk G4 2); (try have z43 := cell_blk G4 3); (try have fz4 := frozen_blk G4); (try have z1a0 := fun o => cell_blk (blk_alloc (o' := o) G1) 0); (try have z1a1 := fun o => cell_blk (blk_alloc (o' := o) G1) 1); (try have z1a2 := fun o => cell_blk (blk_alloc (o' := o) G1) 2); (try have z1a3 := fun o => cell_blk (blk_alloc (o' := o) G1) 3); (try have fz1a := fun o => frozen_blk (blk_alloc (o' := o) G1)); (try have z2a0 := fun o => cell_blk (blk_alloc (o' := o) G2) 0); (try have z2a1 := fun o => cell_blk (blk_alloc (o' := o) G2) 1); (try have z2a2 := fun o => cell_blk (blk_alloc (o' := o) G2) 2); (try have z2a3 := fun o => cell_blk (blk_alloc (o' := o) G2) 3); (try have fz2a := fun o => frozen_blk (blk_alloc (o' := o) G2)); (try have z3a0 := fun o => cell_blk (blk_alloc (o' := o) G3) 0); (try have z3a1 := fun o => cell_blk (blk_alloc (o' := o) G3) 1); (try have z3a2 := fun o => cell_blk (blk_alloc (o' := o) G3) 2); (try have z3a3 := fun o => cell_blk (blk_alloc (o' := o) G3) 3); (try have fz3a := fun o => frozen_blk (blk_alloc (o' := o) G3)); (try have z4a0 := fun o => cell_blk (blk_alloc (o' := o) G4) 0); (try have z4a1 := fun o => cell_blk (blk_alloc (o' := o) G4) 1); (try have z4a2 := fun o => cell_blk (blk_alloc (o' := o) G4) 2); (try have z4a3 := fun o => cell_blk (blk_alloc (o' := o) G4) 3); (try have fz4a := fun o => frozen_blk (blk_alloc (o' := o) G4)); have G5 : ((w3.alloc (.cells #[.string { data := #[] }, .bool false, .int .i64 0, .string { data := #[] }] 34)).alloc (.cells #[.string { data := #[] }, .bool false, .int .i64 0, .string { data := #[] }] 34)).heap[w3.heap.size]? = some (Obj.cells #[.string { data := #[] }, .bool false, .int .i64 0, .string { data := #[] }] 34) := blk_alloc (heap_top _ _); (try have z50 := cell_blk G5 0); (try have z51 := cell_blk G5 1); (try have z52 := cell_blk G5 2); (try have z53 := cell_blk G5 3); (try have fz5 := frozen_blk G5); (try have q1 : ¬ w1.heap.size = w2.heap.size := by omega); (try have q2 : ¬ w1.heap.size = w2.heap.size + 1 := by omega); (try have q3 : ¬ w1.heap.size = w3.heap.size := by omega); (try have q4 : ¬ w1.heap.size + 1 = w2.heap.size := by omega); (try have q5 : ¬ w1.heap.size + 1 = w2.heap.size + 1 := by omega); (try have q6 : ¬ w1.heap.size + 1 = w3.heap.size := by omega); (try have q7 : ¬ w2.heap.size = w1.heap.size := by omega); (try have q8 : ¬ w2.heap.size = w1.heap.size + 1 := by omega); (try have q9 : ¬ w2.heap.size = w3.heap.size := by omega); (try have q10 : ¬ w2.heap.size + 1 = w1.heap.size := by omega); (try have q11 : ¬ w2.heap.size + 1 = w1.heap.size + 1 := by omega); (try have q12 : ¬ w2.heap.size + 1 = w3.heap.size := by omega); (try have q13 : ¬ w3.heap.size = w1.heap.size := by omega); (try have q14 : ¬ w3.heap.size = w1.heap.size + 1 := by omega); (try have q15 : ¬ w3.heap.size = w2.heap.size := by omega); (try have q16 : ¬ w3.heap.size = w2.heap.size + 1 := by omega); skip))
    all_goals
      clear HKp HR HA HB
      go_wp2_with fail
      go_meet
      case rel =>
        refine ⟨_, _, _, _, rfl, rfl, rfl, rfl, ?_, ?_, ?_⟩
        · (simp only [boxF]; repeat' first | (with_reducible exact G1) | (with_reducible exact G2) | (with_reducible exact G3) | (with_reducible exact G4) | (with_reducible exact heap_top _ _) | (with_reducible exact heap_top1 _ _ _) | (with_reducible refine box_set4 (a0 := .string { data := #[] }) (b0 := .bool false) (c0 := .int .i64 0) (d0 := .string { data := #[] }) ?_ _ _ _ _) | (with_reducible refine (strip4 ?_ _ _ _ _).trans ?_) | (with_reducible refine blk_alloc ?_) | omega)
        · (simp only [boxF]; repeat' first | (with_reducible exact G1) | (with_reducible exact G2) | (with_reducible exact G3) | (with_reducible exact G4) | (with_reducible exact heap_top _ _) | (with_reducible exact heap_top1 _ _ _) | (with_reducible refine box_set4 (a0 := .string { data := #[] }) (b0 := .bool false) (c0 := .int .i64 0) (d0 := .string { data := #[] }) ?_ _ _ _ _) | (with_reducible refine (strip4 ?_ _ _ _ _).trans ?_) | (with_reducible refine blk_alloc ?_) | omega)
        · (repeat' (with_reducible first | exact hub3 | exact hub | apply Upd.setCellNew | apply Upd.alloc | omega))
  case rest =>
    obtain ⟨fa, fb, B8, B9, rfl, rfl, rfl, rfl, hb8, hb9, huc⟩ := hcut
    have hst2 := HS1.out.next huc
    have k0 : wc.cell? ⟨w.heap.size + 1, 0, none⟩ = some (.int .i64 kd) := cell_blk hst2.cd 0
    have k1 : wc.cell? ⟨w.heap.size + 1, 1, none⟩ = some (.bool nt) := cell_blk hst2.cd 1
    have a0 : wc.cell? ⟨B8, 0, none⟩ = some (.string fa.nm) := cell_blk hb8 0
    have a1 : wc.cell? ⟨B8, 1, none⟩ = some (.bool fa.tx) := cell_blk hb8 1
    have a2 : wc.cell? ⟨B8, 2, none⟩ = some (.int .i64 fa.n) := cell_blk hb8 2
    have a3 : wc.cell? ⟨B8, 3, none⟩ = some (.string fa.s) := cell_blk hb8 3
    have b0 : wc.cell? ⟨B9, 0, none⟩ = some (.string fb.nm) := cell_blk hb9 0
    have b1 : wc.cell? ⟨B9, 1, none⟩ = some (.bool fb.tx) := cell_blk hb9 1
    have b2 : wc.cell? ⟨B9, 2, none⟩ = some (.int .i64 fb.n) := cell_blk hb9 2
    have b3 : wc.cell? ⟨B9, 3, none⟩ = some (.string fb.s) := cell_blk hb9 3
    have HU : Hid (Upd [] w wc) := Lib.hid hst2.upd
    clear hst2 hb8 hb9 huc HKp HA HB HS1 p0 p1 p2 c0 c2 c3 c4 c5 c6 c7 c8 c9
    obtain ⟨anm, atx, fan, fas⟩ := fa
    obtain ⟨bnm, btx, fbn, fbs⟩ := fb
    dsimp only at a0 a1 a2 a3 b0 b1 b2 b3
    by_cases h1 : kd = 1
    · subst h1
      have hR : Hid (R = .ok (eqF ⟨anm, atx, fan, fas⟩ ⟨bnm, btx, fbn, fbs⟩ != nt)) := Lib.hid (by rw [HR.out]; rfl)
      have hop := fun W => eql_field ⟨anm, atx, fan, fas⟩ ⟨bnm, btx, fbn, fbs⟩ W
      generalize eqF ⟨anm, atx, fan, fas⟩ ⟨bnm, btx, fbn, fbs⟩ = q at *
      go_upto_region 10 with (fail)
      go_quiet (fail)
      go_wp2_with fail
      go_ret
      exact ⟨by rw [hR.out]; rfl, by exact HU.out.alike ⟨rfl, rfl, rfl⟩⟩
    · have n1 : (kd == 1) = false := by simpa using h1
      by_cases htx : atx = btx
      · subst htx
        have hR : Hid (R = .ok ((lessF ⟨anm, atx, fan, fas⟩ ⟨bnm, atx, fbn, fbs⟩ || sameF ⟨anm, atx, fan, fas⟩ ⟨bnm, atx, fbn, fbs⟩ && decide (kd = 3)) != nt)) := Lib.hid (by rw [HR.out]; simp [h1])
        clear h1
        have hee : (atx == atx) = true := by simp
        go_wp2_with fail
        refine (need_yes 134 _).mono ?_
        rintro e w5 ⟨rfl, hu5⟩
        have k0' := cell_keep hu5 k0
        have k1' := cell_keep hu5 k1
        have a1' := cell_keep hu5 a1
        have a2' := cell_keep hu5 a2
        have a3' := cell_keep hu5 a3
        have b1' := cell_keep hu5 b1
        have b2' := cell_keep hu5 b2
        have b3' := cell_keep hu5 b3
        have HU5 : Hid (Upd [] w w5) := Lib.hid (HU.out.trans hu5)
        clear k0 k1 a0 a1 a2 a3 b0 b1 b2 b3 hu5
        cases atx with
        | false =>
          go_upto_region 12 with (fail)
          go_quiet (fail)
          go_wp2_with fail
          all_goals
            go_ret
            refine ⟨?_, by exact HU5.out.alike ⟨rfl, rfl, rfl⟩⟩
            rw [hR.out]
            clear hR HU5 HR HU k0' k1' a1' a2' a3' b1' b2' b3'
            simp only [endV, lessF, sameF]
            cases nt <;> simp_all [ltB] <;> first | done | (rw [Bool.eq_iff_iff]; simp; done)
        | true =>
          have hlt := fun W => lt_run fas fbs W
          have hqq := eqB fas fbs
          go_upto_region 12 with (fail)
          go_quiet (fail)
          go_upto_region 14 with (fail)
          go_quiet (fail)
          go_wp2_with fail
          all_goals
            go_ret
            refine ⟨?_, by exact HU5.out.alike ⟨rfl, rfl, rfl⟩⟩
            rw [hR.out]
            clear hR HU5 HR HU k0' k1' a1' a2' a3' b1' b2' b3'
            simp only [endV, lessF, sameF]
            cases nt <;> simp_all [ltB] <;> first | done | (rw [Bool.eq_iff_iff]; simp; done)
      · have hR : Hid (R = .error 134) := Lib.hid (by rw [HR.out]; simp [h1, htx])
        have hee : (atx == btx) = false := by simpa using htx
        clear htx h1
        go_wp2_with fail
        refine (need_no 134 _).mono ?_
        rintro e w5 ⟨rfl, hu5⟩
        go_wp2_with fail
        exact ⟨rfl, by rw [hR.out]; rfl, HU.out.trans hu5⟩
end Go.Proofs.YtnokekoojmljaaaDoor
