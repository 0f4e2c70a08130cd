/- The sheet: Clone, Delete, Drop. -/
import Derived.Test.YtdokpfgdddfdfaaDoorSh1
import Derived.Laws.CopyOwn
import Derived.Laws.AppendOwn
import Derived.Shelf.RegionOpenPlain
import Derived.Lib.SliceRun
namespace Go.Proofs.YtdokpfgdddfdfaaDoor
open Go.RowKit

theorem size30 : ∃ i, Tryd.prog.info? 30 = some i ∧ i.zero = some (aggF noF) ∧ i.size = 4 ∧ i.bytes = 48 := info_parts infoF

/-- A row in place: the cells X at block g. -/
def Blk (w : World) (g : Nat) (X : List Value) : Prop := w.heap[g]? = some (.cells X.toArray 30 (0, 0))

theorem Blk.set {w : World} {g : Nat} {X : List Value} (h : Blk w g X) (Y : List Value) : Blk (w.setRow g Y.toArray) g Y := setRow_heap w g _ _ 30 _ h

theorem Upd.setRow {F : List Nat} {w w' : World} (h : Upd F w w') {g : Nat} (hg : w.heap.size ≤ g ∨ g ∈ F) (cs : Array Value) : Upd F w (w'.setRow g cs) :=
  ⟨h.os, h.output, by simpa [World.setRow] using h.size, fun k hk hn => by
    rw [setRow_other w' g k cs (by rintro rfl; rcases hg with hg | hg; omega; exact hn hg)]
    exact h.block k hk hn⟩

theorem Own.blk {w : World} {base : Nat} {v : Value} {l : List Fd} (h : Own w base v l) (hl : 0 < l.length) : ∃ g cap X, v = .slice (some ⟨g, 0, none⟩) l.length cap ∧ base ≤ g ∧ Blk w g X ∧ l.length ≤ cap ∧ cap ≤ maxLen ∧ X.length = cap * 4 ∧ X.take (l.length * 4) = flatF l := by
  obtain ⟨h0, h2⟩ := h
  rcases h2 with ⟨rfl, hn⟩ | ⟨g, cap, cur, rfl, hg, hh, r1, r2, r3, r4⟩
  · omega
  · exact ⟨g, cap, cur.toList, rfl, hg, by unfold Blk; simpa using hh, r1, r2, by simpa using r3, r4⟩

theorem Blk.own {w : World} {base g n cap : Nat} {X : List Value} {l : List Fd} (h : Blk w g X) (hn : n = l.length) (hg : base ≤ g) (r1 : l.length ≤ cap) (r2 : cap ≤ maxLen) (r3 : X.length = cap * 4) (r4 : X.take (l.length * 4) = flatF l) : Own w base (.slice (some ⟨g, 0, none⟩) n cap) l := by
  subst hn
  exact ⟨flatF_len l, .inr ⟨g, cap, X.toArray, rfl, hg, h, r1, r2, by simpa using r3, by simpa using r4⟩⟩

theorem take_splice (L : List Value) (o : Nat) (cs : List Value) (ho : o ≤ L.length) : (splice L o cs).take o = L.take o := by
  unfold splice
  rw [List.take_append_of_le_length (by simp; omega), List.take_take, Nat.min_self]

theorem take_splice2 (L : List Value) (o : Nat) (cs : List Value) (ho : o ≤ L.length) : (splice L o cs).take (o + cs.length) = L.take o ++ cs := by
  unfold splice
  rw [← List.append_assoc]
  exact List.take_left' (by simp; omega)

theorem drop_splice (L : List Value) (o : Nat) (cs : List Value) (ho : o ≤ L.length) : (splice L o cs).drop o = cs ++ L.drop (o + cs.length) := by
  unfold splice
  exact List.drop_left' (by simp; omega)

theorem drop_splice2 (L : List Value) (o : Nat) (cs : List Value) (ho : o ≤ L.length) : (splice L o cs).drop (o + cs.length) = L.drop (o + cs.length) := by
  rw [← List.drop_drop, drop_splice L o cs ho, List.drop_left]

theorem take_pre {L A : List Value} {n k : Nat} (h : L.take n = A) (hk : k ≤ n) : L.take k = A.take k := by
  rw [← h, List.take_take, Nat.min_eq_left hk]

theorem flat_pre {L : List Value} {l1 l2 : List Fd} {n : Nat} (h : L.take n = flatF (l1 ++ l2)) (hn : n = (l1 ++ l2).length * 4) : L.take (l1.length * 4) = flatF l1 := by
  rw [take_pre h (by rw [hn]; simp; omega), flatF_app, List.take_append_of_le_length (by rw [flatF_len]; exact Nat.le_refl _), List.take_of_length_le (by rw [flatF_len]; exact Nat.le_refl _)]

theorem run_append_blk (w : World) (ty : TypeId) (g sLen sCap : Nat) (X : List Value) (hg : Blk w g X) (a : Addr) (c : Nat) (r : List Fd) (hr : Src w (some a) r) (hroom : sLen + r.length ≤ sCap) (hfit : (sLen + r.length) * 4 ≤ X.length) :
    (Builtin.append_ #[24, 24] ty #[.slice (some ⟨g, 0, none⟩) sLen sCap, .slice (some a) r.length c]).run Tryd.prog w = .ok (.slice (some ⟨g, 0, none⟩) (sLen + r.length) sCap) (w.setRow g (splice X (sLen * 4) (flatF r)).toArray) := by
  obtain ⟨i0, hi0, hz0, hz1, hz2⟩ := size30
  have := run_append_room (P := Tryd.prog) w 24 ty 30 i0 Tryd.underlying24 hi0 g sLen sCap X.toArray hg a r.length c (flatF r) (by rw [hz1, flatF_len]) (hr.2 a rfl) (flatF_one r) hroom (by rw [hz1, flatF_len]; simp; omega)
  rw [this, hz1]
  simp [splice]

theorem run_copy_blk (w : World) (ty : TypeId) (g o dLen dCap : Nat) (X : List Value) (hg : Blk w g X) (a : Addr) (sLen c : Nat) (r : List Fd) (hr : Src w (some a) r) (hn : r.length = Nat.min sLen dLen) (hfit : o + r.length * 4 ≤ X.length) :
    (Builtin.copy_ #[24, 24] ty #[.slice (some ⟨g, o, none⟩) dLen dCap, .slice (some a) sLen c]).run Tryd.prog w = .ok (goInt r.length) (w.setRow g (splice X o (flatF r)).toArray) := by
  obtain ⟨i0, hi0, hz0, hz1, hz2⟩ := size30
  have hf := run_firstCells_some (P := Tryd.prog) w i0.size r.length a sLen c (flatF r) (by rw [hz1, flatF_len]) (hr.2 a rfl)
  have hst := run_storeCells_at Tryd.prog g o 30 (flatF r) 0 X.toArray w hg (by simpa [flatF_len] using hfit) (flatF_one r)
  simp [Builtin.copy_, run_underlying Tryd.underlying24, Builtin.lenOf, sizeOf, typeInfo, hi0, ← hn, hf, hst, splice]

theorem run_clear_blk (w : World) (ty : TypeId) (g o c : Nat) (X : List Value) (hg : Blk w g X) (hfit : o + 4 ≤ X.length) :
    (Builtin.clear_ #[24] ty #[.slice (some ⟨g, o, none⟩) 1 c]).run Tryd.prog w = .ok (.tuple #[]) (w.setRow g (splice X o (cellsF noF)).toArray) := by
  obtain ⟨i0, hi0, hz0, hz1, hz2⟩ := size30
  have hst := run_storeCells_at Tryd.prog g o 30 (cellsF noF) 0 X.toArray w hg (by simpa [cellsF] using hfit) (by intro v hv; simp [cellsF] at hv; rcases hv with rfl | rfl | rfl | rfl <;> rfl)
  have hz : (Builtin.zeroCells (aggF noF).cells 1).toList = cellsF noF := by kernel_rfl
  simp [Builtin.clear_, run_underlying Tryd.underlying24, zeroValue, typeInfo, hi0, hz0, hz, hst, splice]

set_option maxRecDepth 100000 in
theorem clone_ok (v : Value) (l : List Fd) (w : World) (h : RecAt w v l) (hl : l.length * 48 ≤ 140737488355328) : Calls Tryd.prog 18 #[v] w (OwnPost l w) := by
  have HR := Lib.hid (fun (W : World) (u : Upd [] w W) => h.keep u)
  obtain ⟨a, cap, rfl, h1, h2, h3⟩ := h
  cases a with
  | none =>
    have hn : l = [] := by
      cases l with
      | nil => rfl
      | cons x l => obtain ⟨b, off, e, _⟩ := h3 0 (by simp); cases e
    subst hn
    have hop : ∀ W, (binOp .eql 24 (.slice none 0 cap) (.slice none 0 0)).run Tryd.prog W = .ok (.bool true) W := fun W => Lib.run_eql_slice_nil W _ _ _ _ _ _ _ Tryd.underlying24
    go_enter Tryd.func18, Tryd.ntmps18
    go_wp2_with fail
    go_ret
    exact ⟨_, rfl, ⟨rfl, .inl ⟨rfl, rfl⟩⟩, Upd.refl _ _⟩
  | some ad =>
    clear h3
    have hop : ∀ W, (binOp .eql 24 (.slice (some ad) l.length cap) (.slice none 0 0)).run Tryd.prog W = .ok (.bool false) W := fun W => Lib.run_eql_slice_nil W _ _ _ _ _ _ _ Tryd.underlying24
    go_enter Tryd.func18, Tryd.ntmps18
    go_wp2_with (at_builtin; refine wpList_append_rec rfl _ _ rfl (l := []) rfl (own_empty _) rfl (HR.out _ ((Upd.refl _ _).alloc _)).src.2 ?c1 ?c2 ?_)
    case c1 => simp; omega
    case c2 => simp
    intro v' w1 hown hgrow
    have HO : Hid (Own w1 w.heap.size v' l ∧ Upd [] w w1) := Lib.hid ⟨by simpa using hown, ((Upd.refl [] w).alloc _).grown hgrow (fun k hk => by simp [Value.ownBlock] at hk; omega)⟩
    clear hown hgrow
    go_wp2_with fail
    go_ret
    exact ⟨_, rfl, HO.out.1, HO.out.2⟩

theorem cells_src {w : World} {g : Nat} {X : List Value} (hg : Blk w g X) {o : Nat} {r : List Fd} (h : (X.drop o).take (r.length * 4) = flatF r) : Src w (some ⟨g, o, none⟩) r := by
  refine ⟨fun q => (by cases q), fun ad q j u hu => ?_⟩
  cases q
  have hj : j < r.length * 4 := by
    rcases Nat.lt_or_ge j (flatF r).length with h | h
    · rwa [flatF_len] at h
    · rw [List.getElem?_eq_none h] at hu; cases hu
  rw [← h, List.getElem?_take_of_lt hj, List.getElem?_drop] at hu
  rw [Go.WideShapes.add_plain, cell_blk hg]
  simpa using hu

theorem flat_mid {L : List Value} {l1 l2 : List Fd} {n : Nat} (h : L.take n = flatF (l1 ++ l2)) (hn : n = (l1 ++ l2).length * 4) : (L.drop (l1.length * 4)).take (l2.length * 4) = flatF l2 := by
  have e : l2.length * 4 = n - l1.length * 4 := by rw [hn]; simp; omega
  rw [e, ← List.drop_take, h, flatF_app, List.drop_left' (flatF_len l1)]

theorem step_append_run {ops : Array Oper} {o : Oper} {a : Act} {w : World} {K : Act → World → Prop} {Q : Exit → Act → World → Prop} {E : Prop}
    (hg : o.guard = none) (d x : Operand) (dT sT : TypeId) (hop : o.op = Op.call { callee := Callee.builtin Builtin.append, args := #[d, x], argTypes := #[dT, sT] })
    (v u : Value) (hd : a.eval d = v) (hx : a.eval x = u) {v' : Value} {w' : World} (hr : (Builtin.append_ #[dT, sT] o.type #[v, u]).run Tryd.prog w = .ok v' w') (hK : K (a.put o.dst v') w') :
    if Region.wanted o (yielded ops a.tmps) = true then Oper.wp Tryd.prog o a w K Q else E := by
  have hw : Region.wanted o (yielded ops a.tmps) = true := by simp [Region.wanted, hg]
  rw [if_pos hw]
  unfold Oper.wp
  simp [execOp, hop, resolve, invoke, builtin, hd, hx, hr, Result.andThen]
  exact hK

theorem wpList_clear_run {w : World} {ops : Array Oper} {rest : List Oper} {o : Oper} {a : Act} {Q : Exit → Act → World → Prop} (hgd : o.guard = none) (d : Operand) (t : TypeId)
    (ho : o.op = .call { callee := .builtin .clear, args := #[d], argTypes := #[t] }) (v : Value) (hd : a.eval d = v) {v' : Value} {w' : World}
    (hr : (Builtin.clear_ #[t] o.type #[v]).run Tryd.prog w = .ok v' w') (h : wpList Tryd.prog ops Q rest (a.put o.dst v') w') : wpList Tryd.prog ops Q (o :: rest) a w :=
  wpList_plain hgd fun _ hK => by
    unfold Oper.wp execOp
    simp only [ho, resolve, invoke, builtin, Sem.run_bind, Sem.run_pure, Result.andThen_ok, List.map_toArray, List.map_cons, List.map_nil, hd, hr]
    exact hK _ _ h

set_option maxRecDepth 100000 in
set_option maxHeartbeats 1600000 in
theorem delete_walk (w : World) (g n cap i m k c2 : Nat) (A2 A3 : Addr) (W1 W2 : World) (h1 : i + 1 ≤ n) (h2 : n ≤ cap) (h3 : cap ≤ 9223372036854775807) (_hk : k ≤ n)
    (hsA : ∀ W, (Instr.slice 24 (.slice (some ⟨g, 0, none⟩) n cap) none (some (.int .i64 i)) none).run Tryd.prog W = .ok (.slice (some ⟨g, 0, none⟩) i cap) W)
    (hsB : ∀ W, (Instr.slice 24 (.slice (some ⟨g, 0, none⟩) n cap) (some (.int .i64 ((i : Int) + 1))) none none).run Tryd.prog W = .ok (.slice (some A2) m c2) W)
    (hsC : ∀ W, (Instr.slice 24 (.slice (some ⟨g, 0, none⟩) k cap) (some (.int .i64 k)) (some (.int .i64 n)) none).run Tryd.prog W = .ok (.slice (some A3) 1 (cap - k)) W)
    (hap : ∀ ty, (Builtin.append_ #[24, 24] ty #[.slice (some ⟨g, 0, none⟩) i cap, .slice (some A2) m c2]).run Tryd.prog w.drew = .ok (.slice (some ⟨g, 0, none⟩) k cap) W1)
    (hcl : ∀ ty c, (Builtin.clear_ #[24] ty #[.slice (some A3) 1 c]).run Tryd.prog W1 = .ok (.tuple #[]) W2) :
    Calls Tryd.prog 61 #[.slice (some ⟨g, 0, none⟩) n cap, .int .i64 i, .int .i64 ((i : Int) + 1)] w fun e w' => e = .returned (.slice (some ⟨g, 0, none⟩) k cap) ∧ w' = W2 := by
  have hwr : IntKind.i64.wrap ((i : Int) + 1) = (i : Int) + 1 := IntWalk.i64_in _ (by omega)
  have hne : ¬ ((i : Int) = (i : Int) + 1) := by omega
  go_enter Tryd.func61, Tryd.ntmps61
  go_wp2_with fail
  go_region_held3 (fun _ => True) (exact trivial) (first | (refine step_append_run (by rfl) _ _ 24 24 (by rfl) _ _ (by rfl) (by rfl) (by exact hap _) ?_))
  go_wp2_with (at_builtin; refine wpList_clear_run rfl _ 24 rfl _ rfl (hcl _ _) ?_)
  go_ret
  exact ⟨rfl, rfl⟩

theorem delete_ok (w : World) {base g cap : Nat} {l1 l2 : List Fd} {x : Fd} (h : Own w base (.slice (some ⟨g, 0, none⟩) (l1 ++ x :: l2).length cap) (l1 ++ x :: l2)) :
    Calls Tryd.prog 61 #[.slice (some ⟨g, 0, none⟩) (l1 ++ x :: l2).length cap, .int .i64 l1.length, .int .i64 ((l1.length : Int) + 1)] w fun e w' => e = .returned (.slice (some ⟨g, 0, none⟩) (l1 ++ l2).length cap) ∧ Own w' base (.slice (some ⟨g, 0, none⟩) (l1 ++ l2).length cap) (l1 ++ l2) ∧ Upd [g] w w' := by
  obtain ⟨g', cap', X, hv, hbg, hB, r1, r2, r3, r4⟩ := h.blk (by simp; omega)
  simp only [Value.slice.injEq, Option.some.injEq, Addr.mk.injEq, and_true, true_and] at hv
  obtain ⟨rfl, rfl⟩ := hv
  have hlen : (l1 ++ x :: l2).length = l1.length + 1 + l2.length := by simp; omega
  have hlen2 : (l1 ++ l2).length = l1.length + l2.length := by simp
  have hc : cap ≤ 9223372036854775807 := by unfold maxLen at r2; omega
  have hsrc : Src w (some (if cap = l1.length + 1 then ⟨g, 0, none⟩ else (⟨g, 0, none⟩ : Addr).add ((l1.length + 1) * 4))) l2 := by
    by_cases hq : cap = l1.length + 1
    · have : l2 = [] := List.eq_nil_of_length_eq_zero (by omega)
      subst this
      exact src_nil _ _
    · rw [if_neg hq, Go.WideShapes.add_plain, Nat.zero_add]
      have := flat_mid (L := X) (l1 := l1 ++ [x]) (l2 := l2) (n := (l1 ++ x :: l2).length * 4) (by rw [r4]; simp) (by simp)
      rw [show (l1 ++ [x]).length = l1.length + 1 by simp] at this
      exact cells_src hB this
  have hdB : Blk w.drew g X := hB
  have hap := fun ty => run_append_blk w.drew ty g l1.length cap X hdB _ (cap - (l1.length + 1)) l2 hsrc (by omega) (by omega)
  have hB1 := hdB.set (splice X (l1.length * 4) (flatF l2))
  have hl1 : l1.length * 4 ≤ X.length := by omega
  have hXl : (splice X (l1.length * 4) (flatF l2)).length = X.length := length_splice _ _ _ (by rw [flatF_len]; omega)
  have hcl := fun ty c => run_clear_blk _ ty g ((l1.length + l2.length) * 4) c _ hB1 (by rw [hXl]; omega)
  have hwalk := delete_walk w g (l1 ++ x :: l2).length cap l1.length l2.length (l1.length + l2.length) (cap - (l1.length + 1)) _ ⟨g, (l1.length + l2.length) * 4, none⟩ _ _ (by omega) r1 hc (by omega)
    (fun W => by
      rw [slice_hi ⟨g, 0, none⟩ _ cap l1.length (by omega) W, Go.WideShapes.add_plain, ite_self])
    (fun W => by
      have := slice_lo ⟨g, 0, none⟩ (l1 ++ x :: l2).length cap (l1.length + 1) (by omega) W
      rw [show (l1 ++ x :: l2).length - (l1.length + 1) = l2.length by omega] at this
      exact this)
    (fun W => by
      rw [run_slice_lh (w := W) 24 (some ⟨g, 0, none⟩) (l1.length + l2.length) cap elem24 .i64 .i64 _ _ (by omega) (by omega) (by omega), size24]
      simp only [Result.andThen, sliced, Int.toNat_natCast]
      rw [if_neg (by omega), show (l1 ++ x :: l2).length - (l1.length + l2.length) = 1 by omega]
      simp only [Option.map, Go.WideShapes.add_plain, Nat.zero_add])
    hap hcl
  refine hwalk.mono ?_
  rintro e w' ⟨rfl, rfl⟩
  rw [hlen2]
  refine ⟨rfl, ?_, ?_⟩
  · refine (hB1.set _).own (by simp) hbg (by simp; omega) r2 ?_ ?_
    · rw [length_splice _ _ _ (by rw [hXl]; simp [cellsF]; omega), hXl, r3]
    · rw [hlen2, take_splice _ _ _ (by rw [hXl]; omega)]
      have := take_splice2 X (l1.length * 4) (flatF l2) hl1
      rw [flatF_len, ← Nat.add_mul] at this
      rw [this, flat_pre r4 rfl, flatF_app]
  · exact (((Upd.refl [g] w).drew).setRow (Or.inr (by simp)) _).setRow (Or.inr (by simp)) _
end Go.Proofs.YtdokpfgdddfdfaaDoor
