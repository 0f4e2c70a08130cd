/- The rules' holds: two values. -/
import Derived.Deep.RegionHeld2
import Derived.Test.YtajppgngoffonaaGreatDoorGEw
import Derived.Test.YtajppgngoffonaaGreatDoorGXs
import Derived.Test.YtajppgngoffonaaGreatDoorGIt
namespace Go.Proofs.YtajppgngoffonaaGreatDoor
open Go.RowKit

abbrev boxC (c : Cd) : Obj := .cells #[.int .i64 c.kd, .bool c.nt, .int .i64 c.a.kd, .int .i64 c.a.n, .string c.a.s, c.a.av, .int .i64 c.b.kd, .int .i64 c.b.n, .string c.b.s, c.b.av] 168

theorem heap_top (w : World) (o : Obj) : (w.alloc o).heap[w.heap.size]? = some o := by rw [heap_alloc, if_pos rfl]
theorem heap_top1 (w : World) (o o' : Obj) : ((w.alloc o).alloc o').heap[w.heap.size + 1]? = some o' := by rw [heap_alloc, if_pos (by simp)]

theorem strip4 {W : World} {B B' : Nat} (h : ¬ B = B') (a b c d : Value) : ((((W.setCell ⟨B', 0, none⟩ a).setCell ⟨B', 1, none⟩ b).setCell ⟨B', 2, none⟩ c).setCell ⟨B', 3, none⟩ d).heap[B]? = W.heap[B]? := by
  rw [heap_setCell, if_neg h, heap_setCell, if_neg h, heap_setCell, if_neg h, heap_setCell, if_neg h]

theorem eql_field (x y : Fd) (w : World) : (binOp .eql 64 (aggF x) (aggF y)).run Tryz.prog w = .ok (.bool (eqF x y)) w := by
  have h : (Op.equal 64 (aggF x) (aggF y)).run Tryz.prog w = .ok (decide (x.nm = y.nm ∧ x.tx = y.tx ∧ x.n = y.n ∧ x.s = y.s)) w := equalIn_field 9998 x y w
  simp only [binOp, Sem.run_bind, h, Result.andThen_ok, Sem.run_pure, eqF]

theorem lt_run (a b : ByteArray) (W : World) : (binOp .lss 9 (.string a) (.string b)).run Tryz.prog W = .ok (.bool (ltB a b)) W := by
  simp [binOp, Op.stringOp, ltB]

/-- What lies ready when a condition is looked at. -/
structure HoIn (P : Pl) (vs vg : Value) (c : Cd) (w W : World) : Prop where
  pl : W.heap[w.heap.size]? = some (boxP P vs vg)
  cd : W.heap[w.heap.size + 1]? = some (boxC c)
  upd : Upd [] w W

theorem HoIn.start (P : Pl) (vs vg : Value) (c : Cd) (w : World) : HoIn P vs vg c w ((w.alloc (boxP P vs vg)).alloc (boxC c)) :=
  ⟨by rw [heap_alloc, if_neg (by simp), heap_alloc, if_pos rfl], by rw [heap_alloc, if_pos (by simp)], ((Upd.refl [] w).alloc _).alloc _⟩

theorem HoIn.next {P : Pl} {vs vg : Value} {c : Cd} {w W W' : World} (h : HoIn P vs vg c w W) (u : Upd [] W W') : HoIn P vs vg c w W' :=
  ⟨(u.block _ (lt_of_blk h.pl) (by simp)).trans h.pl, (u.block _ (lt_of_blk h.cd) (by simp)).trans h.cd, h.upd.trans u⟩

end Go.Proofs.YtajppgngoffonaaGreatDoor
