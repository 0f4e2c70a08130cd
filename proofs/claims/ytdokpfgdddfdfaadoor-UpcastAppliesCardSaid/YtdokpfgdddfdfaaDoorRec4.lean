/- Records: an append of a record, nil or not, to a row of the call's own. -/
import Derived.Test.YtdokpfgdddfdfaaDoorRec3
import Derived.Maps.AppendAt
import Derived.OwnWalk
namespace Go.Proofs.YtdokpfgdddfdfaaDoor
open Go.RowKit

/-- What an append's source holds: the cells of r, from A on. -/
def Src (w : World) (A : Option Addr) (r : List Fd) : Prop := (A = none → r = []) ∧ ∀ ad, A = some ad → ∀ j u, (flatF r)[j]? = some u → w.cell? (ad.add j) = some u

/-- A row of fields of the call's own. -/
abbrev Own (w : World) (base : Nat) (v : Value) (l : List Fd) : Prop := w.ownsRow base 30 4 v l.length (flatF l)

theorem append_rec {w : World} {base : Nat} {v : Value} {l : List Fd} (hown : Own w base v l) {A : Option Addr} (c : Nat) {r : List Fd} (hr : Src w A r) (hb : (l.length + r.length) * 48 ≤ 140737488355328) (hbase : base ≤ w.heap.size) (ty : TypeId) :
    ∃ v' w', (Builtin.append_ #[24, 24] ty #[v, .slice A r.length c]).run Tryd.prog w = .ok v' w' ∧ Own w' base v' (l ++ r) ∧ w.grownBy w' v.ownBlock := by
  obtain ⟨i0, hi0, hz0, hz1, hz2⟩ := info_parts infoF
  rcases A with _ | ad
  · obtain rfl := hr.1 rfl
    refine ⟨v, w, ?_, by simpa [Own] using hown, World.grownBy.refl w _⟩
    rcases hown.2 with ⟨rfl, hn⟩ | ⟨g, cap, cur, rfl, _, _, hnc, _⟩
    · simp [Builtin.append_, run_underlying Tryd.underlying24, sizeOf, typeInfo, hi0, Builtin.lenOf, Builtin.firstCells]
    · simp [Builtin.append_, run_underlying Tryd.underlying24, sizeOf, typeInfo, hi0, Builtin.lenOf, Builtin.firstCells, hnc, storeCells]
  · obtain ⟨v', w', hrun, h2, h3, _, _⟩ := run_append_own_at (P := Tryd.prog) w base 24 ty 30 i0 _ 4 48 Tryd.underlying24 hi0 hz0 hz1 hz2 rfl (by omega) v l.length (flatF l) hown ad r.length c (flatF r) (flatF_len r) (hr.2 ad rfl) (flatF_one r) (by unfold maxLen; omega) hb hbase
    exact ⟨v', w', hrun, by unfold Own; rw [flatF_app, List.length_append]; exact h2, h3⟩

theorem wp_append_rec {w : World} {o : Oper} {a : Act} {K : Act → World → Prop} {Q : Exit → Act → World → Prop} (s x : Operand)
    (ho : o.op = .call { callee := .builtin .append, args := #[s, x], argTypes := #[24, 24] }) {base : Nat} {v : Value} {l : List Fd} (hs : a.eval s = v) (hown : Own w base v l)
    {A : Option Addr} {c : Nat} {r : List Fd} (hx : a.eval x = .slice A r.length c) (hr : Src w A r) (hb : (l.length + r.length) * 48 ≤ 140737488355328) (hbase : base ≤ w.heap.size)
    (h : ∀ v' w', Own w' base v' (l ++ r) → w.grownBy w' v.ownBlock → K (a.put o.dst v') w') : o.wp Tryd.prog a w K Q := by
  obtain ⟨v', w', hrun, h2, h3⟩ := append_rec hown c hr hb hbase o.type
  unfold Oper.wp execOp
  simp only [ho, resolve, invoke, builtin, Sem.run_bind, Sem.run_pure, Result.andThen_ok, List.map_toArray, List.map_cons, List.map_nil, hs, hx, hrun]
  exact h v' w' h2 h3

theorem wpList_append_rec {w : World} {ops : Array Oper} {rest : List Oper} {o : Oper} {a : Act} {Q : Exit → Act → World → Prop} (hgd : o.guard = none) (s x : Operand)
    (ho : o.op = .call { callee := .builtin .append, args := #[s, x], argTypes := #[24, 24] }) {base : Nat} {v : Value} {l : List Fd} (hs : a.eval s = v) (hown : Own w base v l)
    {A : Option Addr} {c : Nat} {r : List Fd} (hx : a.eval x = .slice A r.length c) (hr : Src w A r) (hb : (l.length + r.length) * 48 ≤ 140737488355328) (hbase : base ≤ w.heap.size)
    (h : ∀ v' w', Own w' base v' (l ++ r) → w.grownBy w' v.ownBlock → wpList Tryd.prog ops Q rest (a.put o.dst v') w') : wpList Tryd.prog ops Q (o :: rest) a w :=
  wpList_plain hgd fun _ hK => wp_append_rec s x ho hs hown hx hr hb hbase fun v' w' h2 h3 => hK _ _ (h v' w' h2 h3)

theorem step_append_rec {w : World} {ops : Array Oper} {o : Oper} {a : Act} {K : Act → World → Prop} {Q : Exit → Act → World → Prop} {E : Prop} (hgd : o.guard = none) (s x : Operand)
    (ho : o.op = .call { callee := .builtin .append, args := #[s, x], argTypes := #[24, 24] }) {base : Nat} {v : Value} {l : List Fd} (hs : a.eval s = v) (hown : Own w base v l)
    {A : Option Addr} {c : Nat} {r : List Fd} (hx : a.eval x = .slice A r.length c) (hr : Src w A r) (hb : (l.length + r.length) * 48 ≤ 140737488355328) (hbase : base ≤ w.heap.size)
    (h : ∀ v' w', Own w' base v' (l ++ r) → w.grownBy w' v.ownBlock → K (a.put o.dst v') w') :
    if Region.wanted o (yielded ops a.tmps) = true then Oper.wp Tryd.prog o a w K Q else E := by
  have hw : Region.wanted o (yielded ops a.tmps) = true := by simp [Region.wanted, hgd]
  rw [if_pos hw]
  exact wp_append_rec s x ho hs hown hx hr hb hbase h

/-- A record as an append's source, whole. -/
theorem RecAt.src {w : World} {a : Option Addr} {n cap : Nat} {l : List Fd} (h : RecAt w (.slice a n cap) l) : n = l.length ∧ Src w a l := by
  obtain ⟨a', cap', hv, h1, h2, h3⟩ := h
  simp only [Value.slice.injEq] at hv
  obtain ⟨rfl, rfl, rfl⟩ := hv
  refine ⟨rfl, fun q => ?_, fun ad q j u hu => ?_⟩
  · cases l with
    | nil => rfl
    | cons x l => obtain ⟨b, off, e, _⟩ := h3 0 (by simp); rw [q] at e; cases e
  · have hj : j < (flatF l).length := by
      rcases Nat.lt_or_ge j (flatF l).length with h | h
      · exact h
      · rw [List.getElem?_eq_none h] at hu; cases hu
    rw [flatF_len] at hj
    obtain ⟨b, off, e, _⟩ := h3 0 (by omega)
    rw [q] at e
    cases e
    have := src_part (w := w) (b := b) (off := off) (l1 := []) (l2 := l) (l3 := []) (fun i hi => by
      obtain ⟨b', off', e', hf⟩ := h3 i (by simpa using hi)
      rw [q] at e'
      cases e'
      simpa using hf) j u hu
    simpa using this

theorem Own.recAt {w : World} {base : Nat} {v : Value} {l : List Fd} (h : Own w base v l) : RecAt w v l := by
  obtain ⟨h0, h2⟩ := h
  rcases h2 with ⟨rfl, hn⟩ | ⟨g, cap, cur, rfl, hg, hh, r1, r2, r3, r4⟩
  · have : l = [] := List.eq_nil_of_length_eq_zero hn
    subst this
    exact ⟨none, 0, rfl, by simp, by omega, by simp⟩
  · refine ⟨_, cap, rfl, r1, r2, fun i hi => ⟨g, 0, rfl, ?_⟩⟩
    have key : ∀ f, f < 4 → w.cell? ⟨g, i * 4 + f, none⟩ = (cellsF l[i])[f]? := fun f hf => by
      rw [cell_blk hh, ← Array.getElem?_toList, ← flatF_at l hi hf, ← r4, List.getElem?_take_of_lt (by omega)]
    rw [Nat.zero_add]
    exact ⟨key 0 (by omega), key 1 (by omega), key 2 (by omega), key 3 (by omega)⟩
end Go.Proofs.YtdokpfgdddfdfaaDoor
