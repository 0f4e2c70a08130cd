/- The reference cache: without and use. -/
import Derived.Test.YtgndkmdmpiiedaaRef1
import Derived.Test.YtgndkmdmpiiedaaOld2
namespace Go.Proofs.Ytgndkmdmpiiedaa.Ref
open Go.RowKit

/-- An append to a row of the call's own, as one step of a region that draws its order. -/
theorem step_append_own {P : Program} {w : World} {ops : Array Oper} {o : Oper} {a : Act} {K : Act → World → Prop} {Q : Exit → Act → World → Prop} {E : Prop} (hgd : o.guard = none) (s x : Operand) (t : TypeId)
    (ho : o.op = .call { callee := .builtin .append, args := #[s, x], argTypes := #[t, t] })
    (base : Nat) (e : TypeId) (i : TypeInfo) (z : Value) (size bytes : Nat) (ht : P.underlying t = some (.slice e)) (hi : P.info? e = some i) (hz : i.zero = some z)
    (hsize : i.size = size) (hby : i.bytes = bytes) (hzs : z.cells.size = size) (hsz : 0 < size)
    (v : Value) (n : Nat) (xs : List Value) (hs : a.eval s = v) (hown : w.ownsRow base e size v n xs)
    (ad : Addr) (m c : Nat) (news : List Value) (hx : a.eval x = .slice (some ad) m c) (hl : news.length = m * size) (hnews : ∀ j u, news[j]? = some u → w.cell? (ad.add j) = some u) (h1 : ∀ u ∈ news, u.oneCell' = true)
    (h63 : n + m ≤ maxLen) (hbytes : (n + m) * bytes ≤ 140737488355328) (hbase : base ≤ w.heap.size)
    (h : ∀ v' w', w'.ownsRow base e size v' (n + m) (xs ++ news) → w.grownBy w' v.ownBlock → K (a.put o.dst v') w') :
    if Region.wanted o (yielded ops a.tmps) = true then Oper.wp P o a w K Q else E := by
  have hw : Region.wanted o (yielded ops a.tmps) = true := by simp [Region.wanted, hgd]
  rw [if_pos hw]
  exact wp_append_own w s x t ho base e i z size bytes ht hi hz hsize hby hzs hsz v n xs hs hown ad m c news hx hl hnews h1 h63 hbytes hbase fun v' w' h2 h3 _ => h v' w' h2 h3

theorem infoIt : (Try.prog.info? 116).map (fun i => (i.zero, i.size, i.bytes)) = some (some (.agg #[.int .i64 0, .int .i64 0, .bool false, .int .i64 0]), 4, 32) := by kernel_rfl

theorem flat_one (l : List IT) : ∀ u ∈ flat l, u.oneCell' = true := by
  intro u hu
  obtain ⟨x, _, hx⟩ := List.mem_flatMap.1 hu
  simp [cells] at hx
  rcases hx with rfl | rfl | rfl | rfl <;> rfl

/-- A part of a row, as an append's source. -/
theorem src_cells {w : World} {g : Nat} {cur : Array Value} {l : List IT} (hb : w.heap[g]? = some (.cells cur 116 (0, 0))) (hc : cur.toList.take (l.length * 4) = flat l) {a b c : List IT} (hl : l = a ++ b ++ c) :
    ∀ j u, (flat b)[j]? = some u → w.cell? ((⟨g, a.length * 4, none⟩ : Addr).add j) = some u := by
  intro j u hu
  have hj : j < (flat b).length := by
    rcases Nat.lt_or_ge j (flat b).length with h | h
    · exact h
    · rw [List.getElem?_eq_none h] at hu; cases hu
  rw [Go.WideShapes.add_plain, cell_blk hb, ← Array.getElem?_toList, ← List.getElem?_take_of_lt (j := l.length * 4), hc, hl, flat_app, flat_app, List.append_assoc,
    List.getElem?_append_right (by rw [flat_len]; omega), flat_len, List.getElem?_append_left (by omega)]
  · rw [← hu]; congr 1; omega
  · rw [flat_len] at hj; rw [hl]; simp; omega

theorem own_empty (w : World) : (w.alloc (.cells #[] 116)).ownsRow w.heap.size 116 4 (.slice (some ⟨w.heap.size, 0, none⟩) 0 0) 0 [] :=
  ⟨rfl, .inr ⟨w.heap.size, 0, #[], rfl, Nat.le_refl _, by rw [heap_alloc, if_pos rfl], Nat.le_refl _, by unfold maxLen; omega, rfl, rfl⟩⟩

theorem elem92 : Try.prog.underlying 92 = some (.slice (Try.prog.elem 92)) := by kernel_rfl
theorem size92 (w : World) : (sizeOf (Try.prog.elem 92)).run Try.prog w = .ok 4 w := by kernel_rfl

/-- c.L up to i; c.L from i on. -/
theorem slice_hi (a : Addr) (n cap i : Nat) (h : i ≤ cap) (W : World) : (Instr.slice 92 (.slice (some a) n cap) none (some (.int .i64 i)) none).run Try.prog W = .ok (.slice (some (if cap = 0 then a else a.add 0)) i cap) W := by
  rw [run_slice_h (w := W) 92 (some a) n cap elem92 .i64 i (by omega) (by omega), size92]
  simp only [Result.andThen, sliced]
  split <;> simp_all

theorem slice_lo (a : Addr) (n cap i : Nat) (h : i ≤ n) (W : World) : (Instr.slice 92 (.slice (some a) n cap) (some (.int .i64 i)) none none).run Try.prog W = .ok (.slice (some (if cap = i then a else a.add (i * 4))) (n - i) (cap - i)) W := by
  rw [run_slice_l (w := W) 92 (some a) n cap elem92 .i64 i (by omega) (by omega), size92]
  simp only [Result.andThen, sliced]
  split <;> simp_all

def WithoutPost (w : World) (l : List IT) (e : Ending) (w' : World) : Prop := ∃ v, e = .returned v ∧ w'.ownsRow w.heap.size 116 4 v l.length (flat l) ∧ Upd [] w w'

set_option maxRecDepth 100000 in
set_option maxHeartbeats 3200000 in
theorem without_ok (w : World) {base r : Nat} {M : Int} {lv : Value} {l1 l2 : List IT} {x : IT} (h : RRep w base r M lv (l1 ++ x :: l2)) (hl : (l1 ++ x :: l2).length ≤ 1024) :
    Calls Try.prog 60 #[.pointer (some ⟨r, 0, none⟩), .int .i64 l1.length] w (WithoutPost w (l1 ++ l2)) := by
  obtain ⟨-, r1, fr⟩ := h.cellsR
  obtain ⟨g, cap, cur, rfl, hb, hcap, hcapm, -, -, hc⟩ := h.row (j := 0) (by simp; try omega)
  have hrlt := lt_of_blk h.blk
  have hglt := lt_of_blk hb
  have S1 : Hid (∀ W : World, W.heap[g]? = some (.cells cur 116 (0, 0)) → ∀ j u, (flat l1)[j]? = some u → W.cell? ((⟨g, 0, none⟩ : Addr).add j) = some u) := Lib.hid fun W hW => by
    have := src_cells hW hc (a := []) (b := l1) (c := x :: l2) (by simp)
    simpa using this
  have S2 : Hid (∀ W : World, W.heap[g]? = some (.cells cur 116 (0, 0)) → ∀ j u, (flat l2)[j]? = some u → W.cell? ((⟨g, (l1.length + 1) * 4, none⟩ : Addr).add j) = some u) := Lib.hid fun W hW => by
    have := src_cells hW hc (a := l1 ++ [x]) (b := l2) (c := []) (by simp)
    simpa using this
  have hn : (l1 ++ x :: l2).length = l1.length + 1 + l2.length := by simp; omega
  rw [hn] at hl hcap r1
  obtain ⟨i0, hi0, hz0, hz1, hz2⟩ := info_parts infoIt
  have HB := Lib.hid hb
  have hh1 : Hid ((flat l1).length = l1.length * 4 ∧ (flat l2).length = l2.length * 4 ∧ flat (l1 ++ l2) = flat l1 ++ flat l2 ∧ (l1 ++ l2).length = l1.length + l2.length) := Lib.hid ⟨flat_len _, flat_len _, flat_app _ _, by simp⟩
  have HF1 := Lib.hid (flat_one l1)
  have HF2 := Lib.hid (flat_one l2)
  unfold maxLen at hcapm
  clear h hb hc hn
  go_enter Try.func60, Try.ntmps60
  go_wp2_with fail
  have hz : ∀ j : Nat, (⟨g, 0, none⟩ : Addr).add j = ⟨g, j, none⟩ := fun j => by rw [Go.WideShapes.add_plain]; simp
  have hs1 : ∀ W : World, (Instr.slice 92 (.slice (some ⟨g, 0, none⟩) (l1.length + 1 + l2.length) cap) none (some (.int .i64 l1.length)) none).run Try.prog W = .ok (.slice (some ⟨g, 0, none⟩) l1.length cap) W := fun W => by
    rw [slice_hi _ _ _ _ (by omega), hz]; simp
  have hsl2 : ∃ ad2 : Addr, (∀ W : World, (Instr.slice 92 (.slice (some ⟨g, 0, none⟩) (l1.length + 1 + l2.length) cap) (some (.int .i64 (l1.length + 1))) none none).run Try.prog W = .ok (.slice (some ad2) l2.length (cap - (l1.length + 1))) W) ∧ (0 < l2.length → ad2 = ⟨g, (l1.length + 1) * 4, none⟩) := by
    refine ⟨if cap = l1.length + 1 then ⟨g, 0, none⟩ else ⟨g, (l1.length + 1) * 4, none⟩, fun W => ?_, fun h => by rw [if_neg (by omega)]⟩
    have := slice_lo ⟨g, 0, none⟩ (l1.length + 1 + l2.length) cap (l1.length + 1) (by omega) W
    rw [hz, show l1.length + 1 + l2.length - (l1.length + 1) = l2.length by omega] at this
    exact this
  obtain ⟨ad2, hs2, had⟩ := hsl2
  have S3 : Hid (∀ W : World, W.heap[g]? = some (.cells cur 116 (0, 0)) → ∀ j u, (flat l2)[j]? = some u → W.cell? (ad2.add j) = some u) := Lib.hid fun W hW j u hu => by
    by_cases hj : 0 < l2.length
    · rw [had hj]; exact S2.out W hW j u hu
    · have : l2 = [] := by cases l2 with | nil => rfl | cons a b => simp at hj
      subst this; simp [flat] at hu
  clear had hz
  have hwr : IntKind.i64.wrap ((l1.length : Int) + 1) = (l1.length : Int) + 1 := IntWalk.i64_in _ (by omega)
  go_region_held3 (fun w' => w'.cell? ⟨r, 1, none⟩ = some (.slice (some ⟨g, 0, none⟩) (l1.length + 1 + l2.length) cap))
    (first
      | go_keep
      | (rw [hgrow.cell_far _ (by simp; omega) (by simp [Value.ownBlock]; omega)]; assumption)
      | (rw [hgrow2.cell_far _ (by have := hgrow.size; simp at this ⊢; omega) (fun q => hnb r hrlt q.symm)]; assumption))
    (first
      | (refine step_append_own (by rfl) _ _ 92 (by rfl) w.heap.size 116 i0 _ 4 32 Try.underlying92 hi0 hz0 hz1 hz2 rfl (by omega) _ 0 [] (by rfl) ((own_empty w).drew) ⟨g, 0, none⟩ l1.length cap (flat l1) (by rfl) hh1.out.1 (S1.out _ (by rw [heap_drew, heap_alloc, if_neg (by omega)]; exact HB.out)) HF1.out (by unfold maxLen; omega) (by omega) (by simp) ?_; intro v1 w1 hown1 hgrow; have hnb : ∀ k, k < w.heap.size → v1.ownBlock ≠ some k := fun k hk q => by have := (hown1.lt k q).1; omega)
      | (refine step_append_own (by rfl) _ _ 92 (by rfl) w.heap.size 116 i0 _ 4 32 Try.underlying92 hi0 hz0 hz1 hz2 rfl (by omega) v1 (0 + l1.length) ([] ++ flat l1) (by rfl) hown1 ad2 l2.length (cap - (l1.length + 1)) (flat l2) (by rfl) hh1.out.2.1 (S3.out _ (by rw [hgrow.block g (by simp; omega) (by simp [Value.ownBlock]; omega), heap_drew, heap_alloc, if_neg (by omega)]; exact HB.out)) HF2.out (by unfold maxLen; omega) (by omega) (by have := hgrow.size; simp at this; omega) ?_; intro v2 w2 hown2 hgrow2))
  have HO : Hid (w2.ownsRow w.heap.size 116 4 v2 (l1 ++ l2).length (flat (l1 ++ l2)) ∧ Upd [] w w2) := Lib.hid (by
    rw [hh1.out.2.2.1, hh1.out.2.2.2]
    refine ⟨by simpa using hown2, ?_⟩
    have u1 : Upd [] w w1 := (((Upd.refl [] w).alloc _).drew).grown hgrow (fun k hk => by simp [Value.ownBlock] at hk; omega)
    exact u1.grown hgrow2 (fun k hk => (hown1.lt k hk).1))
  clear hown2 hgrow2 hgrow hown1 hs1 hs2 hwr
  go_wp2
  go_ret
  exact ⟨v2, rfl, HO.out.1, HO.out.2⟩

theorem cells_one (x : IT) : ∀ u ∈ cells x, u.oneCell' = true := by
  intro u hu
  simp [cells] at hu
  rcases hu with rfl | rfl | rfl | rfl <;> rfl

/-- What one more thing behind a row of things comes to. -/
theorem wp_append_item {w : World} {o : Oper} {a : Act} {next : Act → World → Prop} {Q : Exit → Act → World → Prop} (s y : Operand)
    (ho : o.op = .call { callee := .builtin .append, args := #[s, y], argTypes := #[92, 92] }) {base : Nat} {v : Value} {l : List IT} {x : IT} (B : Nat) (hs : a.eval s = v) (hx : a.eval y = .slice (some ⟨B, 0, none⟩) 1 1)
    (hown : w.ownsRow base 116 4 v l.length (flat l)) (hB : w.heap[B]? = some (.cells #[.int .i64 x.k, .int .i64 x.v, .bool x.d, .int .i64 x.p] 116 (0, 0))) (hl : l.length ≤ 1024) (hb : base ≤ w.heap.size)
    (h : ∀ g2 c2 w2, w2.ownsRow base 116 4 (.slice (some ⟨g2, 0, none⟩) (l ++ [x]).length c2) (l ++ [x]).length (flat (l ++ [x])) → w.grownBy w2 v.ownBlock → (v.ownBlock = some g2 ∨ g2 = w.heap.size) → next (a.put o.dst (.slice (some ⟨g2, 0, none⟩) (l ++ [x]).length c2)) w2) :
    Oper.wp Try.prog o a w next Q := by
  obtain ⟨i0, hi0, hz0, hz1, hz2⟩ := info_parts infoIt
  refine wp_append_lies w s y 92 ho base 116 i0 _ 4 32 Try.underlying92 hi0 hz0 hz1 hz2 rfl (by omega) v l.length (flat l) hs hown ⟨B, 0, none⟩ 1 1 (cells x) hx rfl (World.news_of_block hB) (cells_one x) (by omega) (by unfold maxLen; omega) (by omega) hb _ rfl fun g2 c2 w' h2 h3 h4 _ => ?_
  have e1 : flat l ++ cells x = flat (l ++ [x]) := by simp [flat]
  have e2 : l.length + 1 = (l ++ [x]).length := by simp
  rw [e1, e2] at h2
  rw [e2]
  exact h g2 c2 w' h2 h3 h4

theorem step_append_item {w : World} {ops : Array Oper} {o : Oper} {a : Act} {K : Act → World → Prop} {Q : Exit → Act → World → Prop} {E : Prop} (hgd : o.guard = none) (s y : Operand)
    (ho : o.op = .call { callee := .builtin .append, args := #[s, y], argTypes := #[92, 92] }) {base : Nat} {v : Value} {l : List IT} {x : IT} (B : Nat) (hs : a.eval s = v) (hx : a.eval y = .slice (some ⟨B, 0, none⟩) 1 1)
    (hown : w.ownsRow base 116 4 v l.length (flat l)) (hB : w.heap[B]? = some (.cells #[.int .i64 x.k, .int .i64 x.v, .bool x.d, .int .i64 x.p] 116 (0, 0))) (hl : l.length ≤ 1024) (hb : base ≤ w.heap.size)
    (h : ∀ g2 c2 w2, w2.ownsRow base 116 4 (.slice (some ⟨g2, 0, none⟩) (l ++ [x]).length c2) (l ++ [x]).length (flat (l ++ [x])) → w.grownBy w2 v.ownBlock → (v.ownBlock = some g2 ∨ g2 = w.heap.size) → K (a.put o.dst (.slice (some ⟨g2, 0, none⟩) (l ++ [x]).length c2)) w2) :
    if Region.wanted o (yielded ops a.tmps) = true then Oper.wp Try.prog o a w K Q else E := by
  have hw : Region.wanted o (yielded ops a.tmps) = true := by simp [Region.wanted, hgd]
  rw [if_pos hw]
  exact wp_append_item s y ho B hs hx hown hB hl hb h

theorem wpList_append_item {w : World} {ops : Array Oper} {rest : List Oper} {o : Oper} {a : Act} {Q : Exit → Act → World → Prop} (hgd : o.guard = none) (s y : Operand)
    (ho : o.op = .call { callee := .builtin .append, args := #[s, y], argTypes := #[92, 92] }) {base : Nat} {v : Value} {l : List IT} {x : IT} (B : Nat) (hs : a.eval s = v) (hx : a.eval y = .slice (some ⟨B, 0, none⟩) 1 1)
    (hown : w.ownsRow base 116 4 v l.length (flat l)) (hB : w.heap[B]? = some (.cells #[.int .i64 x.k, .int .i64 x.v, .bool x.d, .int .i64 x.p] 116 (0, 0))) (hl : l.length ≤ 1024) (hb : base ≤ w.heap.size)
    (h : ∀ g2 c2 w2, w2.ownsRow base 116 4 (.slice (some ⟨g2, 0, none⟩) (l ++ [x]).length c2) (l ++ [x]).length (flat (l ++ [x])) → w.grownBy w2 v.ownBlock → (v.ownBlock = some g2 ∨ g2 = w.heap.size) → wpList Try.prog ops Q rest (a.put o.dst (.slice (some ⟨g2, 0, none⟩) (l ++ [x]).length c2)) w2) : wpList Try.prog ops Q (o :: rest) a w :=
  wpList_plain hgd fun _ hK => wp_append_item s y ho B hs hx hown hB hl hb fun g2 c2 w2 h2 h3 h4 => hK _ _ (h g2 c2 w2 h2 h3 h4)

theorem upd_of_grown {a b : World} {row : Option Nat} (h : a.grownBy b row) : Upd row.toList a b :=
  ⟨h.os, h.output, h.size, fun k hk hn => h.block k hk (fun q => hn (by rw [← q]; simp))⟩

/-- A new row is stored. -/
theorem rrep_store {w : World} {base b2 r : Nat} {M : Int} {lv lv' : Value} {l l' : List IT} (h : RRep w base r M lv l) (hown : w.ownsRow b2 116 4 lv' l'.length (flat l')) (hb : base ≤ b2) (hr : lv'.ownBlock ≠ some r) : RRep (w.setCell ⟨r, 1, none⟩ lv') base r M lv' l' :=
  ⟨h.base_le, by rw [heap_setCell, if_pos rfl, h.blk]; rfl, own_upd (F := [r]) (own_mono hown hb) ((Upd.refl _ _).setCell (by simp) _ _) (fun k hk q => hr (by rw [q]; simp at hk; rw [hk])), hr⟩

def UsePost (w : World) (base r : Nat) (M : Int) (lv : Value) (l : List IT) (e : Ending) (w' : World) : Prop :=
  e = .returned (.tuple #[]) ∧ ∃ lv', RRep w' base r M lv' l ∧ Upd (rfoot r lv) w w' ∧ ∀ k ∈ rfoot r lv', k ∈ rfoot r lv ∨ w.heap.size ≤ k

set_option maxRecDepth 100000 in
set_option maxHeartbeats 3200000 in
theorem use_ok (w : World) {base r : Nat} {M : Int} {lv : Value} {l1 l2 : List IT} {x : IT} (h : RRep w base r M lv (l1 ++ x :: l2)) (hl : (l1 ++ x :: l2).length ≤ 1024) :
    Calls Try.prog 59 #[.pointer (some ⟨r, 0, none⟩), .int .i64 l1.length] w (UsePost w base r M lv (l1 ++ l2 ++ [x])) := by
  obtain ⟨-, r1, fr⟩ := h.cellsR
  obtain ⟨g, cap, cur, rfl, hb, hcap, hcapm, -, -, hc⟩ := h.row (j := 0) (by simp; try omega)
  have hrlt := lt_of_blk h.blk
  have hglt := lt_of_blk hb
  have hi : l1.length < (l1 ++ x :: l2).length := by simp
  obtain ⟨x0, x1, x2, x3⟩ := row_cell hb hc hi
  simp at x0 x1 x2 x3
  have hlt : (l1.length : Int) < ((l1 ++ x :: l2).length : Nat) := by omega
  have H := Lib.hid h
  clear h hb hc
  go_enter Try.func59, Try.ntmps59
  go_wp2_with fail
  have H0 : Hid (∀ W : World, Upd [] (w.alloc (.cells #[.int .i64 x.k, .int .i64 x.v, .bool x.d, .int .i64 x.p] 116)) W → RRep W base r M (.slice (some ⟨g, 0, none⟩) (l1 ++ x :: l2).length cap) (l1 ++ x :: l2)) := Lib.hid fun W hW =>
    H.out.keep (((Upd.refl [] w).alloc _).trans hW) (by simp)
  have y0 : (w.alloc (.cells #[.int .i64 x.k, .int .i64 x.v, .bool x.d, .int .i64 x.p] 116)).cell? ⟨w.heap.size, 0, none⟩ = some (.int .i64 x.k) := by simp
  have y1 : (w.alloc (.cells #[.int .i64 x.k, .int .i64 x.v, .bool x.d, .int .i64 x.p] 116)).cell? ⟨w.heap.size, 1, none⟩ = some (.int .i64 x.v) := by simp
  have y2 : (w.alloc (.cells #[.int .i64 x.k, .int .i64 x.v, .bool x.d, .int .i64 x.p] 116)).cell? ⟨w.heap.size, 2, none⟩ = some (.bool x.d) := by simp
  have y3 : (w.alloc (.cells #[.int .i64 x.k, .int .i64 x.v, .bool x.d, .int .i64 x.p] 116)).cell? ⟨w.heap.size, 3, none⟩ = some (.int .i64 x.p) := by simp
  have ys : w.heap.size < (w.alloc (.cells #[.int .i64 x.k, .int .i64 x.v, .bool x.d, .int .i64 x.p] 116)).heap.size := by simp
  have hu0 : Upd [] w (w.alloc (.cells #[.int .i64 x.k, .int .i64 x.v, .bool x.d, .int .i64 x.p] 116)) := (Upd.refl _ _).alloc _
  generalize w.alloc (.cells #[.int .i64 x.k, .int .i64 x.v, .bool x.d, .int .i64 x.p] 116) = W0 at *
  have HU0 := Lib.hid hu0
  clear hu0 x0 x1 x2 x3 r1 fr
  have hnew := fun W : World => show (W.alloc (.cells #[.int .i64 x.k, .int .i64 x.v, .bool x.d, .int .i64 x.p] 116)).heap[W.heap.size]? = some (.cells #[.int .i64 x.k, .int .i64 x.v, .bool x.d, .int .i64 x.p] 116 (0, 0)) by rw [heap_alloc, if_pos rfl]
  have HNEW := Lib.hid hnew
  have HFAR : Hid (∀ v1 : Value, (∀ k, v1.ownBlock = some k → W0.heap.size ≤ k) → ∀ k ∈ rfoot r (.slice (some ⟨g, 0, none⟩) (l1 ++ x :: l2).length cap), k ∉ v1.ownBlock.toList) := Lib.hid fun v1 h k hk q => by
    have h1 := h k (by simpa using q)
    have h2 := ((H0.out W0 (Upd.refl _ _)).lt hk).2
    omega
  clear hnew
  have hr0 : r < W0.heap.size := by omega
  have hne : r ≠ w.heap.size := by omega
  have hne' : w.heap.size ≠ r := by omega
  have hll : (l1 ++ l2).length ≤ 1024 := by simp at hl ⊢; omega
  have r1 : W0.cell? ⟨r, 1, none⟩ = some (.slice (some ⟨g, 0, none⟩) (l1 ++ x :: l2).length cap) := (H0.out W0 (Upd.refl _ _)).cellsR.2.1
  have fr := (H0.out W0 (Upd.refl _ _)).cellsR.2.2
  go_region_held3 (fun w' => w'.cell? ⟨w.heap.size, 0, none⟩ = some (.int .i64 x.k) ∧ w'.cell? ⟨w.heap.size, 1, none⟩ = some (.int .i64 x.v) ∧ w'.cell? ⟨w.heap.size, 2, none⟩ = some (.bool x.d) ∧ w'.cell? ⟨w.heap.size, 3, none⟩ = some (.int .i64 x.p))
    (first
      | go_keep
      | (go_split_ands; refine ⟨?_, ?_, ?_, ?_⟩ <;> (rw [hgrow2.cell_far _ (by simp; omega) (fun q => hnb q.symm)]; assumption))
      | (go_split_ands; refine ⟨?_, ?_, ?_, ?_⟩ <;> (rw [World.cell?_of_block (hU1.block _ (by simp; omega) (by simp))]; assumption)))
    (first
      | (go_at_call 60; refine (without_ok _ (H0.out _ (by first | exact (Upd.refl _ _).drew | exact ((Upd.refl _ _).alloc _).drew)) hl).mono ?_; rintro e w1 ⟨v1, rfl, hown1, hU1⟩; have hnb : v1.ownBlock ≠ some w.heap.size := (fun q => by have := (hown1.lt _ q).1; simp at this; omega); have hsz1 : w.heap.size < w1.heap.size := (by have := hU1.size; simp at this; omega); have hUW : Upd [] W0 w1 := Upd.trans (by first | exact (Upd.refl _ _).drew | exact ((Upd.refl _ _).alloc _).drew) hU1; have hR1 := H0.out w1 hUW; have hge : ∀ k, v1.ownBlock = some k → W0.heap.size ≤ k := (fun k hk => by have := (hown1.lt k hk).1; simp at this; omega); have hfar := HFAR.out v1 (fun k hk => by have := (hown1.lt k hk).1; simp at this; omega))
      | (refine step_append_item (by rfl) _ _ (by rfl) (x := x) w1.heap.size (by rfl) (by rfl) (hown1.alloc _) (HNEW.out w1) hll ?_ ?_; (exact Nat.le_trans hU1.size (by simp)); intro g2 c2 w2 hown2 hgrow2 _; have hR2 := (hR1.keep ((Upd.refl [] w1).alloc _) (by simp)).keep (upd_of_grown hgrow2) hfar; obtain ⟨-, r2, fr2⟩ := hR2.cellsR; have hu2 : Upd [] w w2 := ((HU0.out.trans hUW).alloc _).grown hgrow2 (fun k hk => by have := hge k hk; omega))
      | (refine step_append_item (by rfl) _ _ (by rfl) (x := x) W0.heap.size (by rfl) (by rfl) hown1 ?_ hll ?_ ?_; (rw [hU1.block _ (by simp) (by simp), heap_drew, heap_alloc, if_pos rfl]); (exact hU1.size); intro g2 c2 w2 hown2 hgrow2 _; have hR2 := hR1.keep (upd_of_grown hgrow2) hfar; obtain ⟨-, r2, fr2⟩ := hR2.cellsR; have hu2 : Upd [] w w2 := (HU0.out.trans hUW).grown hgrow2 (fun k hk => by have := hge k hk; omega)))
  all_goals
    have hge2 : ∀ k, (Value.slice (some ⟨g2, 0, none⟩) (l1 ++ l2 ++ [x]).length c2).ownBlock = some k → W0.heap.size ≤ k := fun k hk => by have := (hown2.lt k hk).1; simp at this; omega
    have hnr : (Value.slice (some ⟨g2, 0, none⟩) (l1 ++ l2 ++ [x]).length c2).ownBlock ≠ some r := fun q => by have := hge2 r q; omega
    have hfin := rrep_store hR2 hown2 (by have := H.out.base_le; simp; omega) hnr
    have hu3 : Upd (rfoot r (.slice (some ⟨g, 0, none⟩) (l1 ++ x :: l2).length cap)) w (w2.setCell ⟨r, 1, none⟩ (.slice (some ⟨g2, 0, none⟩) (l1 ++ l2 ++ [x]).length c2)) := (hu2.mono (by simp)).setCell (by simp) _ _
    have HFIN : Hid (UsePost w base r M (.slice (some ⟨g, 0, none⟩) (l1 ++ x :: l2).length cap) (l1 ++ l2 ++ [x]) (.returned (.tuple #[])) (w2.setCell ⟨r, 1, none⟩ (.slice (some ⟨g2, 0, none⟩) (l1 ++ l2 ++ [x]).length c2))) :=
      Lib.hid ⟨rfl, _, hfin, hu3, fun k hk => by
        simp only [rfoot, List.mem_cons, Option.mem_toList] at hk
        rcases hk with rfl | hk
        · left; simp
        · right; have := hge2 k hk; omega⟩
    clear hfin hu3
    go_end0
    rw [show l1.length + (l2.length + 1) = (l1 ++ l2 ++ [x]).length by simp]
    exact HFIN.out
end Go.Proofs.Ytgndkmdmpiiedaa.Ref
