/- Records: rows of the call's own; the document's Drop. -/
import Derived.Test.YtdokpfgdddfdfaaDoorRec2
namespace Go.Proofs.YtdokpfgdddfdfaaDoor
open Go.RowKit

/-- An append to a row of the call's own, as one step of a region that draws its order. -/
theorem step_append_own {P : Program} {w : World} {ops : Array Oper} {o : Oper} {a : Act} {K : Act → World → Prop} {Q : Exit → Act → World → Prop} {E : Prop} (hgd : o.guard = none) (s x : Operand) (t : TypeId)
    (ho : o.op = .call { callee := .builtin .append, args := #[s, x], argTypes := #[t, t] })
    (base : Nat) (e : TypeId) (i : TypeInfo) (z : Value) (size bytes : Nat) (ht : P.underlying t = some (.slice e)) (hi : P.info? e = some i) (hz : i.zero = some z)
    (hsize : i.size = size) (hby : i.bytes = bytes) (hzs : z.cells.size = size) (hsz : 0 < size)
    (v : Value) (n : Nat) (xs : List Value) (hs : a.eval s = v) (hown : w.ownsRow base e size v n xs)
    (ad : Addr) (m c : Nat) (news : List Value) (hx : a.eval x = .slice (some ad) m c) (hl : news.length = m * size) (hnews : ∀ j u, news[j]? = some u → w.cell? (ad.add j) = some u) (h1 : ∀ u ∈ news, u.oneCell' = true)
    (h63 : n + m ≤ maxLen) (hbytes : (n + m) * bytes ≤ 140737488355328) (hbase : base ≤ w.heap.size)
    (h : ∀ v' w', w'.ownsRow base e size v' (n + m) (xs ++ news) → w.grownBy w' v.ownBlock → K (a.put o.dst v') w') :
    if Region.wanted o (yielded ops a.tmps) = true then Oper.wp P o a w K Q else E := by
  have hw : Region.wanted o (yielded ops a.tmps) = true := by simp [Region.wanted, hgd]
  rw [if_pos hw]
  exact wp_append_own w s x t ho base e i z size bytes ht hi hz hsize hby hzs hsz v n xs hs hown ad m c news hx hl hnews h1 h63 hbytes hbase fun v' w' h2 h3 _ => h v' w' h2 h3

theorem infoF : (Tryd.prog.info? 30).map (fun i => (i.zero, i.size, i.bytes)) = some (some (aggF noF), 4, 48) := by kernel_rfl

theorem flatF_one (l : List Fd) : ∀ u ∈ flatF l, u.oneCell' = true := by
  intro u hu
  obtain ⟨x, _, hx⟩ := List.mem_flatMap.1 hu
  simp [cellsF] at hx
  rcases hx with rfl | rfl | rfl | rfl <;> rfl

theorem own_empty (w : World) : (w.alloc (.cells #[] 30)).ownsRow w.heap.size 30 4 (.slice (some ⟨w.heap.size, 0, none⟩) 0 0) 0 [] :=
  ⟨rfl, .inr ⟨w.heap.size, 0, #[], rfl, Nat.le_refl _, by rw [heap_alloc, if_pos rfl], Nat.le_refl _, by unfold maxLen; omega, rfl, rfl⟩⟩

theorem elem24 : Tryd.prog.underlying 24 = some (.slice (Tryd.prog.elem 24)) := by kernel_rfl
theorem size24 (w : World) : (sizeOf (Tryd.prog.elem 24)).run Tryd.prog w = .ok 4 w := by kernel_rfl

theorem slice_hi (a : Addr) (n cap i : Nat) (h : i ≤ cap) (W : World) : (Instr.slice 24 (.slice (some a) n cap) none (some (.int .i64 i)) none).run Tryd.prog W = .ok (.slice (some (if cap = 0 then a else a.add 0)) i cap) W := by
  rw [run_slice_h (w := W) 24 (some a) n cap elem24 .i64 i (by omega) (by omega), size24]
  simp only [Result.andThen, sliced]
  split <;> simp_all

theorem slice_lo (a : Addr) (n cap i : Nat) (h : i ≤ n) (W : World) : (Instr.slice 24 (.slice (some a) n cap) (some (.int .i64 i)) none none).run Tryd.prog W = .ok (.slice (some (if cap = i then a else a.add (i * 4))) (n - i) (cap - i)) W := by
  rw [run_slice_l (w := W) 24 (some a) n cap elem24 .i64 i (by omega) (by omega), size24]
  simp only [Result.andThen, sliced]
  split <;> simp_all

/-- A part of a record's cells, as an append's source. -/
theorem src_part {w : World} {b off : Nat} {l1 l2 l3 : List Fd} (h : ∀ i (hi : i < (l1 ++ l2 ++ l3).length), FAt w b (off + i * 4) (l1 ++ l2 ++ l3)[i]) :
    ∀ j u, (flatF l2)[j]? = some u → w.cell? ((⟨b, off + l1.length * 4, none⟩ : Addr).add j) = some u := by
  intro j u hu
  have hj : j < (flatF l2).length := by
    rcases Nat.lt_or_ge j (flatF l2).length with h | h
    · exact h
    · rw [List.getElem?_eq_none h] at hu; cases hu
  have hj' := hj
  rw [flatF_len] at hj
  have hi : j / 4 < l2.length := by omega
  have hlt : l1.length + j / 4 < (l1 ++ l2 ++ l3).length := by simp; omega
  have hF := h (l1.length + j / 4) hlt
  have hx : (l1 ++ l2 ++ l3)[l1.length + j / 4] = l2[j / 4] := by
    rw [List.getElem_append_left (by simp; omega), List.getElem_append_right (by omega)]
    congr 1; omega
  rw [hx] at hF
  have h4 : j % 4 < 4 := Nat.mod_lt _ (by omega)
  have hat := flatF_at l2 hi h4
  rw [show j / 4 * 4 + j % 4 = j by omega, hu] at hat
  rw [Go.WideShapes.add_plain]
  obtain ⟨c0, c1, c2, c3⟩ := hF
  have e0 : off + l1.length * 4 + j = off + (l1.length + j / 4) * 4 + j % 4 := by omega
  rw [e0]
  generalize j % 4 = f at *
  match f, h4 with
  | 0, _ => simp [cellsF] at hat; subst hat; exact c0
  | 1, _ => simp [cellsF] at hat; subst hat; exact c1
  | 2, _ => simp [cellsF] at hat; subst hat; exact c2
  | 3, _ => simp [cellsF] at hat; subst hat; exact c3

def OwnPost (l : List Fd) (w : World) (e : Ending) (w' : World) : Prop := ∃ v, e = .returned v ∧ w'.ownsRow w.heap.size 30 4 v l.length (flatF l) ∧ Upd [] w w'

def dropF (l : List Fd) (k : ByteArray) : List Fd := l.eraseP fun x => decide (x.nm = k)

theorem dropF_miss {l : List Fd} {k : ByteArray} (h : ∀ x ∈ l, x.nm ≠ k) : dropF l k = l := by
  unfold dropF
  exact List.eraseP_of_forall_not (by intro x hx; simpa using h x hx)

theorem dropF_hit {l1 l2 : List Fd} {x : Fd} {k : ByteArray} (h : ∀ y ∈ l1, y.nm ≠ k) (hk : x.nm = k) : dropF (l1 ++ x :: l2) k = l1 ++ l2 := by
  unfold dropF
  rw [List.eraseP_append_right _ (by intro y hy; simpa using h y hy), List.eraseP_cons_of_pos (by simpa using hk)]

end Go.Proofs.YtdokpfgdddfdfaaDoor
