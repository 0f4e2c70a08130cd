/- Rows of upcasters of the call's own, and an append of one to them. -/
import Derived.Test.YtdokpfgdddfdfaaDoorCv
namespace Go.Proofs.YtdokpfgdddfdfaaDoor
open Go.RowKit

def cellsU (u : Up) : List Value := [.string u.ty, .int .i64 u.fr, u.cv]
def flatU (l : List Up) : List Value := l.flatMap cellsU

theorem flatU_len (l : List Up) : (flatU l).length = l.length * 3 := by
  induction l with
  | nil => rfl
  | cons x l ih => simp only [flatU, List.flatMap_cons, List.length_append, List.length_cons] at ih ⊢; rw [ih]; simp [cellsU]; omega
theorem flatU_app (l r : List Up) : flatU (l ++ r) = flatU l ++ flatU r := by simp [flatU]
theorem flatU_at (l : List Up) {i f : Nat} (hi : i < l.length) (hf : f < 3) : (flatU l)[i * 3 + f]? = (cellsU (l[i]))[f]? := by
  induction l generalizing i with
  | nil => simp at hi
  | cons x l ih =>
    cases i with
    | zero =>
      simp only [flatU, List.flatMap_cons]
      rw [List.getElem?_append_left (by simp [cellsU]; omega)]; simp
    | succ i =>
      simp only [flatU, List.flatMap_cons]
      rw [List.getElem?_append_right (by simp [cellsU]; omega)]
      have := ih (i := i) (by simpa using hi)
      simp only [flatU] at this
      rw [show (i + 1) * 3 + f - (cellsU x).length = i * 3 + f by simp [cellsU]; omega, this]; simp

abbrev OwnU (w : World) (base : Nat) (v : Value) (l : List Up) : Prop := w.ownsRow base 38 3 v l.length (flatU l)

theorem ownU_nil (w : World) (base : Nat) : OwnU w base (.slice none 0 0) [] := ⟨rfl, .inl ⟨rfl, rfl⟩⟩

theorem infoU : (Tryd.prog.info? 38).map (fun i => (i.zero, i.size, i.bytes)) = some (some (.agg #[.string ByteArray.empty, .int .i64 0, .slice none 0 0]), 3, 48) := by kernel_rfl

theorem append_up {w : World} {base : Nat} {v : Value} {l : List Up} (hown : OwnU w base v l) (ad : Addr) (c : Nat) (u : Up) (hcv : u.cv.oneCell' = true) (hr : ∀ j x, (flatU [u])[j]? = some x → w.cell? (ad.add j) = some x) (hb : (l.length + 1) * 48 ≤ 140737488355328) (hbase : base ≤ w.heap.size) (ty : TypeId) :
    ∃ v' w', (Builtin.append_ #[23, 23] ty #[v, .slice (some ad) 1 c]).run Tryd.prog w = .ok v' w' ∧ OwnU w' base v' (l ++ [u]) ∧ w.grownBy w' v.ownBlock := by
  obtain ⟨i0, hi0, hz0, hz1, hz2⟩ := info_parts infoU
  obtain ⟨v', w', hrun, h2, h3, _, _⟩ := run_append_own_at (P := Tryd.prog) w base 23 ty 38 i0 _ 3 48 Tryd.underlying23 hi0 hz0 hz1 hz2 rfl (by omega) v l.length (flatU l) hown ad 1 c (flatU [u]) (flatU_len [u]) hr (by
    intro x hx
    simp [flatU, cellsU] at hx
    rcases hx with rfl | rfl | rfl
    · rfl
    · rfl
    · exact hcv) (by unfold maxLen; omega) hb hbase
  exact ⟨v', w', hrun, by unfold OwnU; rw [flatU_app, List.length_append]; exact h2, h3⟩

theorem wpList_append_up {w : World} {ops : Array Oper} {rest : List Oper} {o : Oper} {a : Act} {Q : Exit → Act → World → Prop} (hgd : o.guard = none) (s x : Operand)
    (ho : o.op = .call { callee := .builtin .append, args := #[s, x], argTypes := #[23, 23] }) {base : Nat} {v : Value} {l : List Up} (hs : a.eval s = v) (hown : OwnU w base v l)
    {ad : Addr} {c : Nat} {u : Up} (hx : a.eval x = .slice (some ad) 1 c) (hcv : u.cv.oneCell' = true) (hr : ∀ j x, (flatU [u])[j]? = some x → w.cell? (ad.add j) = some x) (hb : (l.length + 1) * 48 ≤ 140737488355328) (hbase : base ≤ w.heap.size)
    (h : ∀ v' w', OwnU w' base v' (l ++ [u]) → w.grownBy w' v.ownBlock → wpList Tryd.prog ops Q rest (a.put o.dst v') w') : wpList Tryd.prog ops Q (o :: rest) a w :=
  wpList_plain hgd fun _ hK => by
    obtain ⟨v', w', hrun, h2, h3⟩ := append_up hown ad c u hcv hr hb hbase o.type
    unfold Oper.wp execOp
    simp only [ho, resolve, invoke, builtin, Sem.run_bind, Sem.run_pure, Result.andThen_ok, List.map_toArray, List.map_cons, List.map_nil, hs, hx, hrun]
    exact hK _ _ (h v' w' h2 h3)

theorem srcU_box {w : World} {B : Nat} {u : Up} (hB : w.heap[B]? = some (boxU u)) : ∀ j x, (flatU [u])[j]? = some x → w.cell? ((⟨B, 0, none⟩ : Addr).add j) = some x := by
  intro j x hx
  rw [Go.WideShapes.add_plain, Nat.zero_add, cell_blk hB]
  have hf : flatU [u] = cellsU u := by simp [flatU]
  rw [hf] at hx
  match j, hx with
  | 0, hx => exact hx
  | 1, hx => exact hx
  | 2, hx => exact hx
  | j + 3, hx => simp [cellsU] at hx

/-- Such a row reads as upcasters. -/
theorem OwnU.ups {w : World} {base : Nat} {v : Value} {l : List Up} (h : OwnU w base v l) (hc : ∀ u ∈ l, ChsAt w u.cv u.ch) : UpsAt w v l := by
  obtain ⟨h0, h2⟩ := h
  rcases h2 with ⟨rfl, hn⟩ | ⟨g, cap, cur, rfl, hg, hh, r1, r2, r3, r4⟩
  · have : l = [] := List.eq_nil_of_length_eq_zero hn
    subst this
    exact ⟨none, 0, rfl, by simp, by omega, by simp⟩
  · refine ⟨_, cap, rfl, r1, r2, fun i hi => ⟨g, 0, rfl, ?_, hc _ (List.getElem_mem hi)⟩⟩
    have key : ∀ f, f < 3 → w.cell? ⟨g, i * 3 + f, none⟩ = (cellsU l[i])[f]? := fun f hf => by
      rw [cell_blk hh, ← Array.getElem?_toList, ← flatU_at l hi hf, ← r4, List.getElem?_take_of_lt (by omega)]
    rw [Nat.zero_add]
    exact ⟨key 0 (by omega), key 1 (by omega), key 2 (by omega)⟩

theorem UpsAt.slice {w : World} {v : Value} {us : List Up} (h : UpsAt w v us) : ∃ a c, v = .slice a us.length c ∧ us.length ≤ c ∧ c ≤ maxLen := by
  obtain ⟨a, cap, rfl, h1, h2, -⟩ := h
  exact ⟨a, cap, rfl, h1, h2⟩
end Go.Proofs.YtdokpfgdddfdfaaDoor
