/- Rows of expressions of the call's own. -/
import Derived.Test.YtajppgngoffonaaGreatDoorGZa
import Derived.Test.YtajppgngoffonaaGreatDoorGLk
import Derived.Test.YtajppgngoffonaaGreatDoorGXs
namespace Go.Proofs.YtajppgngoffonaaGreatDoor
open Go.RowKit

theorem infoX : (Tryz.prog.info? 54).map (fun i => (i.zero, i.size, i.bytes)) = some (some (.agg #[.int .i64 0, .int .i64 0, .string ByteArray.empty, .slice none 0 0]), 4, 56) := by kernel_rfl
theorem info_partsX : ∃ i, Tryz.prog.info? 54 = some i ∧ i.zero = some (.agg #[.int .i64 0, .int .i64 0, .string ByteArray.empty, .slice none 0 0]) ∧ i.size = 4 ∧ i.bytes = 56 := info_parts infoX

theorem add_plain (b o j : Nat) : (⟨b, o, none⟩ : Addr).add j = ⟨b, o + j, none⟩ := by
  unfold Addr.add
  split
  · subst_vars; rfl
  · rfl

def IsSl (v : Value) : Prop := ∃ a n c, v = .slice a n c

def flatX (l : List Xp) : List Value := l.flatMap fun x => [.int .i64 x.kd, .int .i64 x.n, .string x.s, x.av]
theorem flatX_len (l : List Xp) : (flatX l).length = l.length * 4 := by
  induction l with
  | nil => rfl
  | cons x l ih => simp only [flatX, List.flatMap_cons, List.length_append, List.length_cons, List.length_nil] at ih ⊢; omega
theorem flatX_app (l r : List Xp) : flatX (l ++ r) = flatX l ++ flatX r := by simp [flatX]
theorem flatX_one (l : List Xp) (h : ∀ x ∈ l, IsSl x.av) : ∀ u ∈ flatX l, u.oneCell' = true := by
  intro u hu
  obtain ⟨x, hx, hu⟩ := List.mem_flatMap.1 hu
  obtain ⟨a, n, c, e⟩ := h x hx
  rw [e] at hu
  simp only [List.mem_cons, List.not_mem_nil, or_false] at hu
  rcases hu with rfl | rfl | rfl | rfl <;> rfl
theorem flatX_at : ∀ (l : List Xp) (i : Nat) (hi : i < l.length), (flatX l)[i * 4]? = some (.int .i64 l[i].kd) ∧ (flatX l)[i * 4 + 1]? = some (.int .i64 l[i].n) ∧ (flatX l)[i * 4 + 2]? = some (.string l[i].s) ∧ (flatX l)[i * 4 + 3]? = some l[i].av := by
  intro l
  induction l with
  | nil => intro i hi; simp at hi
  | cons x l ih =>
    intro i hi
    have e : flatX (x :: l) = [.int .i64 x.kd, .int .i64 x.n, .string x.s, x.av] ++ flatX l := rfl
    rw [e]
    cases i with
    | zero => exact ⟨rfl, rfl, rfl, rfl⟩
    | succ i =>
      have h := ih i (by simpa using hi)
      have p : ∀ j, ([.int .i64 x.kd, .int .i64 x.n, .string x.s, x.av] ++ flatX l : List Value)[(i + 1) * 4 + j]? = (flatX l)[i * 4 + j]? := fun j => by
        rw [List.getElem?_append_right (by simp; omega)]
        congr 1
        simp
        omega
      have p0 := p 0
      rw [Nat.add_zero, Nat.add_zero] at p0
      rw [p0, p 1, p 2, p 3]
      exact h

abbrev OwnX (w : World) (base : Nat) (v : Value) (l : List Xp) : Prop := w.ownsRow base 54 4 v l.length (flatX l)
def SrcX (w : World) (A : Option Addr) (r : List Xp) : Prop := (A = none → r = []) ∧ ∀ ad, A = some ad → ∀ j u, (flatX r)[j]? = some u → w.cell? (ad.add j) = some u

theorem append_exp {w : World} {base : Nat} {v : Value} {l : List Xp} (hown : OwnX w base v l) {A : Option Addr} (c : Nat) {r : List Xp} (hr : SrcX w A r) (hs : ∀ x ∈ r, IsSl x.av) (hb : (l.length + r.length) * 56 ≤ 140737488355328) (hbase : base ≤ w.heap.size) (ty : TypeId) :
    ∃ v' w', (Builtin.append_ #[52, 52] ty #[v, .slice A r.length c]).run Tryz.prog w = .ok v' w' ∧ OwnX w' base v' (l ++ r) ∧ w.grownBy w' v.ownBlock := by
  obtain ⟨i0, hi0, hz0, hz1, hz2⟩ := info_partsX
  rcases A with _ | ad
  · obtain rfl := hr.1 rfl
    refine ⟨v, w, ?_, by simpa [OwnX] using hown, World.grownBy.refl w _⟩
    rcases hown.2 with ⟨rfl, hn⟩ | ⟨g, cap, cur, rfl, _, _, hnc, _⟩
    · simp [Builtin.append_, run_underlying Tryz.underlying52, sizeOf, typeInfo, hi0, Builtin.lenOf, Builtin.firstCells]
    · simp [Builtin.append_, run_underlying Tryz.underlying52, sizeOf, typeInfo, hi0, Builtin.lenOf, Builtin.firstCells, hnc, storeCells]
  · obtain ⟨v', w', hrun, h2, h3, _, _⟩ := run_append_own_at (P := Tryz.prog) w base 52 ty 54 i0 _ 4 56 Tryz.underlying52 hi0 hz0 hz1 hz2 rfl (by omega) v l.length (flatX l) hown ad r.length c (flatX r) (flatX_len r) (hr.2 ad rfl) (flatX_one r hs) (by unfold maxLen; omega) hb hbase
    exact ⟨v', w', hrun, by unfold OwnX; rw [flatX_app, List.length_append]; exact h2, h3⟩

theorem wpList_append_exp {w : World} {ops : Array Oper} {rest : List Oper} {o : Oper} {a : Act} {Q : Exit → Act → World → Prop} (hgd : o.guard = none) (s x : Operand)
    (ho : o.op = .call { callee := .builtin .append, args := #[s, x], argTypes := #[52, 52] }) {base : Nat} {v : Value} {l : List Xp} (hs : a.eval s = v) (hown : OwnX w base v l)
    {A : Option Addr} {c : Nat} {r : List Xp} (hx : a.eval x = .slice A r.length c) (hr : SrcX w A r) (hsl : ∀ x ∈ r, IsSl x.av) (hb : (l.length + r.length) * 56 ≤ 140737488355328) (hbase : base ≤ w.heap.size)
    (h : ∀ v' w', OwnX w' base v' (l ++ r) → w.grownBy w' v.ownBlock → wpList Tryz.prog ops Q rest (a.put o.dst v') w') : wpList Tryz.prog ops Q (o :: rest) a w :=
  wpList_plain hgd fun K hK => by
    obtain ⟨v', w', hrun, h2, h3⟩ := append_exp hown c hr hsl hb hbase o.type
    unfold Oper.wp execOp
    simp only [ho, resolve, invoke, builtin, Sem.run_bind, Sem.run_pure, Result.andThen_ok, List.map_toArray, List.map_cons, List.map_nil, hs, hx, hrun]
    exact hK _ _ (h v' w' h2 h3)

/-- A box of one expression. -/
theorem srcX_box {w : World} {B : Nat} {x : Xp} (h : w.heap[B]? = some (.cells #[.int .i64 x.kd, .int .i64 x.n, .string x.s, x.av] 54 (0, 0))) : SrcX w (some ⟨B, 0, none⟩) [x] := by
  refine ⟨fun q => absurd q (by simp), fun ad q j u hu => ?_⟩
  cases q
  match j, hu with
  | 0, hu => cases hu; exact cell_blk h 0
  | 1, hu => cases hu; exact cell_blk h 1
  | 2, hu => cases hu; exact cell_blk h 2
  | 3, hu => cases hu; exact cell_blk h 3
  | j + 4, hu => simp [flatX] at hu

theorem own_nilX (w : World) (base : Nat) : OwnX w base (.slice none 0 0) [] := World.ownsRow_nil _ _ _ _

theorem OwnX.slice {w : World} {base : Nat} {v : Value} {l : List Xp} (h : OwnX w base v l) : ∃ a c, v = .slice a l.length c := by
  rcases h.2 with ⟨rfl, hn⟩ | ⟨g, cap, cur, rfl, -⟩
  · exact ⟨none, 0, by rw [hn]⟩
  · exact ⟨_, _, rfl⟩

/-- A row of the call's own as what is added. -/
theorem OwnX.src {w : World} {base : Nat} {a : Option Addr} {n c : Nat} {l : List Xp} (h : OwnX w base (.slice a n c) l) : SrcX w a l := by
  obtain ⟨h0, h2⟩ := h
  rcases h2 with ⟨hv, hn⟩ | ⟨g, cap, cur, hv, hg, hh, r1, r2, r3, r4⟩
  · have : l = [] := List.eq_nil_of_length_eq_zero hn
    subst this
    exact ⟨fun _ => rfl, fun ad _ j u hu => by simp [flatX] at hu⟩
  · simp only [Value.slice.injEq] at hv
    obtain ⟨rfl, -, -⟩ := hv
    refine ⟨fun q => absurd q (by simp), fun ad q j u hu => ?_⟩
    cases q
    have hj : j < l.length * 4 := by
      rcases Nat.lt_or_ge j (l.length * 4) with h | h
      · exact h
      · rw [List.getElem?_eq_none (by rw [flatX_len]; exact h)] at hu; cases hu
    rw [add_plain, cell_blk hh, Nat.zero_add, ← Array.getElem?_toList]
    have : (cur.toList.take (l.length * 4))[j]? = (flatX l)[j]? := by rw [r4]
    rw [List.getElem?_take_of_lt hj] at this
    rw [this]
    exact hu

/-- What is read in it. -/
theorem OwnX.at {w : World} {base : Nat} {a : Option Addr} {n c : Nat} {l : List Xp} (h : OwnX w base (.slice a n c) l) : n = l.length ∧ n ≤ c ∧ c ≤ maxLen ∧ ∀ i (hi : i < l.length), ∃ g, a = some ⟨g, 0, none⟩ ∧ X4 w g (i * 4) l[i] := by
  have hs := h.src
  obtain ⟨h0, h2⟩ := h
  rcases h2 with ⟨hv, hn⟩ | ⟨g, cap, cur, hv, hg, hh, r1, r2, r3, r4⟩
  · have : l = [] := List.eq_nil_of_length_eq_zero hn
    subst this
    simp only [Value.slice.injEq] at hv
    obtain ⟨-, rfl, rfl⟩ := hv
    exact ⟨rfl, by omega, by omega, fun i hi => absurd hi (by simp)⟩
  · simp only [Value.slice.injEq] at hv
    obtain ⟨rfl, rfl, rfl⟩ := hv
    refine ⟨rfl, r1, r2, fun i hi => ⟨g, rfl, ?_⟩⟩
    obtain ⟨e0, e1, e2, e3⟩ := flatX_at l i hi
    have p : ∀ j u, (flatX l)[j]? = some u → w.cell? ⟨g, j, none⟩ = some u := fun j u hu => by
      have := hs.2 ⟨g, 0, none⟩ rfl j u hu
      rwa [add_plain, Nat.zero_add] at this
    exact ⟨p _ _ e0, p _ _ e1, p _ _ e2, p _ _ e3⟩

theorem OwnX.base {w : World} {a b : Nat} {v : Value} {l : List Xp} (h : OwnX w a v l) (hb : b ≤ a) : OwnX w b v l := by
  obtain ⟨h1, h2⟩ := h
  refine ⟨h1, ?_⟩
  rcases h2 with h2 | ⟨g, cap, cur, e, hge, r⟩
  · exact .inl h2
  · exact .inr ⟨g, cap, cur, e, Nat.le_trans hb hge, r⟩

/-- The arguments of a table's expressions. -/
theorem kids_sets {w : World} {v : Value} {l : List Asg} (h : AsgsAt w v l) : ∀ x ∈ setXs l, KidsAt w x.av x.kids := by
  intro x hx
  obtain ⟨a, ha, rfl⟩ := List.mem_map.1 hx
  obtain ⟨i, hi, rfl⟩ := List.mem_iff_getElem.1 ha
  obtain ⟨_, _, _, _, _, h3⟩ := h
  obtain ⟨b, off, -, hf⟩ := h3 i hi
  exact hf.2.2
theorem kids_conds {w : World} {v : Value} {l : List Cd} (h : CdsAt w v l) : ∀ x ∈ l.flatMap condXs, KidsAt w x.av x.kids := by
  intro x hx
  obtain ⟨c, hc, hx⟩ := List.mem_flatMap.1 hx
  obtain ⟨i, hi, rfl⟩ := List.mem_iff_getElem.1 hc
  obtain ⟨_, _, _, _, _, h3⟩ := h
  obtain ⟨b, off, -, hf⟩ := h3 i hi
  unfold condXs at hx
  split at hx
  · simp at hx; subst hx; exact hf.2.1
  · simp at hx
    rcases hx with rfl | rfl
    · exact hf.2.1
    · exact hf.2.2
theorem kids_case {w : World} {b o : Nat} {c : Cse} (h : CseAt w b o c) : ∀ x ∈ caseXs c, KidsAt w x.av x.kids := by
  intro x hx
  rcases List.mem_append.1 hx with hx | hx
  · exact kids_conds h.2.1 x hx
  · obtain ⟨m, hm, hx⟩ := List.mem_flatMap.1 hx
    obtain ⟨i, hi, rfl⟩ := List.mem_iff_getElem.1 hm
    obtain ⟨_, _, _, _, _, h3⟩ := h.2.2
    obtain ⟨b, off, -, hf⟩ := h3 i hi
    exact kids_sets hf.2 x hx
theorem kids_table {w : World} {hv ev : Value} {hs : List Hdl} {es : List Evo} (hh : HdlsAt w hv hs) (he : EvosAt w ev es) : ∀ x ∈ tableXs hs es, KidsAt w x.av x.kids := by
  intro x hx
  rcases List.mem_append.1 hx with hx | hx
  · obtain ⟨h, hm, hx⟩ := List.mem_flatMap.1 hx
    obtain ⟨c, hc, hx⟩ := List.mem_flatMap.1 hx
    obtain ⟨i, hi, rfl⟩ := List.mem_iff_getElem.1 hm
    obtain ⟨_, _, _, _, _, h3⟩ := hh
    obtain ⟨b, off, -, hf⟩ := h3 i hi
    obtain ⟨j, hj, rfl⟩ := List.mem_iff_getElem.1 hc
    obtain ⟨_, _, _, _, _, h4⟩ := hf.2.2
    obtain ⟨b, off, -, hf⟩ := h4 j hj
    exact kids_case hf x hx
  · obtain ⟨e, hm, hx⟩ := List.mem_flatMap.1 hx
    obtain ⟨i, hi, rfl⟩ := List.mem_iff_getElem.1 hm
    obtain ⟨_, _, _, _, _, h3⟩ := he
    obtain ⟨b, off, -, hf⟩ := h3 i hi
    exact kids_sets hf.2.1 x hx

theorem kids_sl {w : World} {l : List Xp} (h : ∀ x ∈ l, KidsAt w x.av x.kids) : ∀ x ∈ l, IsSl x.av := fun x hx => by
  obtain ⟨a, c, e⟩ := (h x hx).isSlice
  exact ⟨a, _, c, e⟩

/-- How many there are at most. -/
def SmallR (hs : List Hdl) (es : List Evo) : Prop :=
  hs.length ≤ 32 ∧ es.length ≤ 32 ∧ (∀ h ∈ hs, h.cases.length ≤ 16 ∧ h.needs.length ≤ 16 ∧ ∀ c ∈ h.cases, c.when.length ≤ 16 ∧ c.emits.length ≤ 16 ∧ ∀ m ∈ c.emits, m.sets.length ≤ 16) ∧ ∀ e ∈ es, e.sets.length ≤ 16 ∧ e.drops.length ≤ 16

theorem flat_len {α β : Type} (l : List α) (f : α → List β) (k : Nat) (h : ∀ x ∈ l, (f x).length ≤ k) : (l.flatMap f).length ≤ l.length * k := by
  induction l with
  | nil => simp
  | cons x l ih =>
    rw [List.flatMap_cons, List.length_append, List.length_cons, Nat.succ_mul]
    have := h x (by simp)
    have := ih (fun y hy => h y (by simp [hy]))
    omega
theorem flat_len' {α β : Type} (l : List α) (f : α → List β) (k n : Nat) (hl : l.length ≤ n) (h : ∀ x ∈ l, (f x).length ≤ k) : (l.flatMap f).length ≤ n * k :=
  Nat.le_trans (flat_len l f k h) (Nat.mul_le_mul_right k hl)
theorem condXs_len (c : Cd) : (condXs c).length ≤ 2 := by
  unfold condXs
  split <;> simp
theorem setXs_len (l : List Asg) : (setXs l).length = l.length := by simp [setXs]
theorem tableXs_len {hs : List Hdl} {es : List Evo} (h : SmallR hs es) : (tableXs hs es).length ≤ 150000 := by
  obtain ⟨h1, h2, h3, h4⟩ := h
  unfold tableXs
  rw [List.length_append]
  have a := flat_len' hs (fun h => h.cases.flatMap caseXs) 4608 32 h1 (fun x hx => by
    obtain ⟨g1, g2, g3⟩ := h3 x hx
    refine Nat.le_trans (flat_len' x.cases caseXs 288 16 g1 fun c hc => ?_) (by omega)
    obtain ⟨k1, k2, k3⟩ := g3 c hc
    unfold caseXs
    rw [List.length_append]
    have := flat_len' c.when condXs 2 16 k1 (fun y _ => condXs_len y)
    have := flat_len' c.emits (fun m => setXs m.sets) 16 16 k2 (fun m hm => by rw [setXs_len]; exact k3 m hm)
    omega)
  have b := flat_len' es (fun e => setXs e.sets) 16 32 h2 (fun x hx => by rw [setXs_len]; exact (h4 x hx).1)
  omega
end Go.Proofs.YtajppgngoffonaaGreatDoor
