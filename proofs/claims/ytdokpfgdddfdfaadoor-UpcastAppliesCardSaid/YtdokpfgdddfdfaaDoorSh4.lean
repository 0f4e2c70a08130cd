/- The sheet: slices.Insert of one field. -/
import Derived.Test.YtdokpfgdddfdfaaDoorSh3
import Derived.Lib.AppendZerosOnto
import Derived.Lib.Overlaps
namespace Go.Proofs.YtdokpfgdddfdfaaDoor
open Go.RowKit

theorem wpList_copy_run {w : World} {ops : Array Oper} {rest : List Oper} {o : Oper} {a : Act} {Q : Exit → Act → World → Prop} (hgd : o.guard = none) (d s : Operand) (t t' : TypeId)
    (ho : o.op = .call { callee := .builtin .copy, args := #[d, s], argTypes := #[t, t'] }) (v u : Value) (hd : a.eval d = v) (hs : a.eval s = u) {v' : Value} {w' : World}
    (hr : (Builtin.copy_ #[t, t'] o.type #[v, u]).run Tryd.prog w = .ok v' w') (h : wpList Tryd.prog ops Q rest (a.put o.dst v') w') : wpList Tryd.prog ops Q (o :: rest) a w :=
  wpList_plain hgd fun _ hK => by
    unfold Oper.wp execOp
    simp only [ho, resolve, invoke, builtin, Sem.run_bind, Sem.run_pure, Result.andThen_ok, List.map_toArray, List.map_cons, List.map_nil, hd, hs, hr]
    exact hK _ _ h

theorem step_copy_run {ops : Array Oper} {o : Oper} {a : Act} {w : World} {K : Act → World → Prop} {Q : Exit → Act → World → Prop} {E : Prop}
    (hg : o.guard = none) (d x : Operand) (dT sT : TypeId) (hop : o.op = Op.call { callee := Callee.builtin Builtin.copy, args := #[d, x], argTypes := #[dT, sT] })
    (v u : Value) (hd : a.eval d = v) (hx : a.eval x = u) {v' : Value} {w' : World} (hr : (Builtin.copy_ #[dT, sT] o.type #[v, u]).run Tryd.prog w = .ok v' w') (hK : K (a.put o.dst v') w') :
    if Region.wanted o (yielded ops a.tmps) = true then Oper.wp Tryd.prog o a w K Q else E := by
  have hw : Region.wanted o (yielded ops a.tmps) = true := by simp [Region.wanted, hg]
  rw [if_pos hw]
  unfold Oper.wp
  simp [execOp, hop, resolve, invoke, builtin, hd, hx, hr, Result.andThen]
  exact hK

theorem wpList_append_run' {w : World} {ops : Array Oper} {rest : List Oper} {o : Oper} {a : Act} {Q : Exit → Act → World → Prop} (hgd : o.guard = none) (s x : Operand) (t tn : TypeId)
    (ho : o.op = .call { callee := .builtin .append, args := #[s, x], argTypes := #[t, tn] }) (vs vx : Value) (hs : a.eval s = vs) (hx : a.eval x = vx)
    {v' : Value} {w' : World} (hr : (Builtin.append_ #[t, tn] o.type #[vs, vx]).run Tryd.prog w = .ok v' w') (h : wpList Tryd.prog ops Q rest (a.put o.dst v') w') : wpList Tryd.prog ops Q (o :: rest) a w :=
  wpList_plain hgd fun _ hK => by
    unfold Oper.wp execOp
    simp only [ho, resolve, invoke, builtin, Sem.run_bind, Sem.run_pure, Result.andThen_ok, List.map_toArray, List.map_cons, List.map_nil, hs, hx, hr]
    exact hK _ _ h

set_option maxRecDepth 100000 in
set_option maxHeartbeats 1600000 in
/-- There is room. -/
theorem insert_room_walk (w : World) (g B n n1 cap i p p1 c0 c1 : Nat) (v0 : Value) (D0 D1 : Addr) (r1 r2 : Value) (W1 W2 : World) (h1 : i + 1 ≤ n) (h2 : n + 1 ≤ cap) (h3 : cap ≤ 9223372036854775807)
    (hs0 : ∀ W, (Instr.slice 24 (.slice (some ⟨g, 0, none⟩) n cap) (some (.int .i64 i)) none none).run Tryd.prog W = .ok v0 W)
    (hsS : ∀ W, (Instr.slice 24 (.slice (some ⟨g, 0, none⟩) n cap) none (some (.int .i64 ((n : Int) + 1))) none).run Tryd.prog W = .ok (.slice (some ⟨g, 0, none⟩) n1 cap) W)
    (hsL1 : ∀ W, (Instr.slice 24 (.slice (some ⟨g, 0, none⟩) n1 cap) (some (.int .i64 ((i : Int) + 1))) none none).run Tryd.prog W = .ok (.slice (some D1) p c1) W)
    (hsL0 : ∀ W, (Instr.slice 24 (.slice (some ⟨g, 0, none⟩) n1 cap) (some (.int .i64 i)) none none).run Tryd.prog W = .ok (.slice (some D0) p1 c0) W)
    (hov : (callFunc 59 #[.slice (some ⟨B, 0, none⟩) 1 1, .slice (some D1) p c1]).run Tryd.prog w = .ok (.value (.bool false)) w)
    (hc1 : ∀ ty, (Builtin.copy_ #[24, 24] ty #[.slice (some D1) p c1, .slice (some D0) p1 c0]).run Tryd.prog w.drew = .ok r1 W1)
    (hc2 : ∀ ty, (Builtin.copy_ #[24, 24] ty #[.slice (some D0) p1 c0, .slice (some ⟨B, 0, none⟩) 1 1]).run Tryd.prog W1 = .ok r2 W2) :
    Calls Tryd.prog 47 #[.slice (some ⟨g, 0, none⟩) n cap, .int .i64 i, .slice (some ⟨B, 0, none⟩) 1 1] w fun e w' => e = .returned (.slice (some ⟨g, 0, none⟩) n1 cap) ∧ w' = W2 := by
  have hwr : IntKind.i64.wrap ((i : Int) + 1) = (i : Int) + 1 := IntWalk.i64_in _ (by omega)
  have hwn : IntKind.i64.wrap ((n : Int) + 1) = (n : Int) + 1 := IntWalk.i64_in _ (by omega)
  have hne : ¬ ((i : Int) = (n : Int)) := by omega
  have hle : ¬ ((cap : Int) < (n : Int) + 1) := by omega
  go_enter Tryd.func47, Tryd.ntmps47
  go_wp2_with (simp only [hov])
  go_region_held3 (fun _ => True) (exact trivial) (first | (refine step_copy_run (by rfl) _ _ 24 24 (by rfl) _ _ (by rfl) (by rfl) (by exact hc1 _) ?_))
  go_wp2_with (at_builtin; refine wpList_copy_run rfl _ _ 24 24 rfl _ _ rfl rfl (hc2 _) ?_)
  go_ret
  exact ⟨rfl, rfl⟩

set_option maxRecDepth 100000 in
set_option maxHeartbeats 1600000 in
/-- There is no room: a new row. -/
theorem insert_grow_walk (w : World) (g B n n1 cap i p p1 c0 d0 d1 G : Nat) (_v0 : Value) (S0 N N0 N1 : Addr) (r1 r2 : Value) (W1 W2 W3 : World) (h1 : i + 1 ≤ n) (h2 : n ≤ cap) (h3 : cap ≤ 9223372036854775806) (hc : cap ≤ n)
    (hs0 : ∀ W, (Instr.slice 24 (.slice (some ⟨g, 0, none⟩) n cap) (some (.int .i64 i)) none none).run Tryd.prog W = .ok (.slice (some S0) p c0) W)
    (hsA : ∀ W, (Instr.slice 24 (.slice (some ⟨g, 0, none⟩) n cap) none (some (.int .i64 i)) none).run Tryd.prog W = .ok (.slice (some ⟨g, 0, none⟩) i cap) W)
    (hap : ∀ ty, (Builtin.append_ #[24, 3] ty #[.slice (some ⟨g, 0, none⟩) i cap, .int .i64 ((n : Int) + 1 - i)]).run Tryd.prog w = .ok (.slice (some N) n1 G) W1)
    (hsN0 : ∀ W, (Instr.slice 24 (.slice (some N) n1 G) (some (.int .i64 i)) none none).run Tryd.prog W = .ok (.slice (some N0) p1 d0) W)
    (hsN1 : ∀ W, (Instr.slice 24 (.slice (some N) n1 G) (some (.int .i64 ((i : Int) + 1))) none none).run Tryd.prog W = .ok (.slice (some N1) p d1) W)
    (hc1 : ∀ ty, (Builtin.copy_ #[24, 24] ty #[.slice (some N0) p1 d0, .slice (some ⟨B, 0, none⟩) 1 1]).run Tryd.prog W1 = .ok r1 W2)
    (hc2 : ∀ ty, (Builtin.copy_ #[24, 24] ty #[.slice (some N1) p d1, .slice (some S0) p c0]).run Tryd.prog W2.drew = .ok r2 W3) :
    Calls Tryd.prog 47 #[.slice (some ⟨g, 0, none⟩) n cap, .int .i64 i, .slice (some ⟨B, 0, none⟩) 1 1] w fun e w' => e = .returned (.slice (some N) n1 G) ∧ w' = W3 := by
  have hwr : IntKind.i64.wrap ((i : Int) + 1) = (i : Int) + 1 := IntWalk.i64_in _ (by omega)
  have hwn : IntKind.i64.wrap ((n : Int) + 1) = (n : Int) + 1 := IntWalk.i64_in _ (by omega)
  have hwi : IntKind.i64.wrap ((n : Int) + 1 - i) = (n : Int) + 1 - i := IntWalk.i64_in _ (by omega)
  have hne : ¬ ((i : Int) = (n : Int)) := by omega
  have hle : (cap : Int) < (n : Int) + 1 := by omega
  go_enter Tryd.func47, Tryd.ntmps47
  go_wp2_with (first
    | (at_builtin; refine wpList_append_run' rfl _ _ 24 3 rfl _ _ rfl rfl (hap _) ?_)
    | (at_builtin; refine wpList_copy_run rfl _ _ 24 24 rfl _ _ rfl rfl (hc1 _) ?_))
  go_region_held3 (fun _ => True) (exact trivial) (first | (refine step_copy_run (by rfl) _ _ 24 24 (by rfl) _ _ (by rfl) (by rfl) (by exact hc2 _) ?_))
  go_wp2_with fail
  go_ret
  exact ⟨rfl, rfl⟩
end Go.Proofs.YtdokpfgdddfdfaaDoor
