/- Expressions between two blocks: what may turn beside them. Expressions in memory of their own: the program's own. Expressions in memory of their own: own. -/
import Derived.Test.YtajppgngoffonaaGreatDoorGYa
import Derived.Test.YtajppgngoffonaaGreatDoorGPa
import Derived.Test.YtajppgngoffonaaGreatDoorGXc
namespace Go.Proofs.YtajppgngoffonaaGreatDoor
open Go.RowKit

/-- Arguments that lie between two blocks. -/
def KidsIn (w : World) (lo hi : Nat) (av : Value) (kids : Ex) : Prop := ∀ W : World, (∀ k, lo ≤ k → k < hi → W.heap[k]? = w.heap[k]?) → KidsAt W av kids

theorem KidsIn.at {w : World} {lo hi : Nat} {av : Value} {kids : Ex} (h : KidsIn w lo hi av kids) : KidsAt w av kids := h w fun _ _ _ => rfl
theorem KidsIn.upd {w w' : World} {lo hi : Nat} {av : Value} {kids : Ex} (h : KidsIn w lo hi av kids) {F : List Nat} (u : Upd F w w') (hh : hi ≤ w.heap.size) (hF : ∀ k ∈ F, lo ≤ k → hi ≤ k) : KidsIn w' lo hi av kids :=
  fun W hW => h W fun k h1 h2 => (hW k h1 h2).trans (u.block k (by omega) (fun hk => by have := hF k hk h1; omega))
theorem KidsIn.wide {w : World} {lo hi : Nat} {av : Value} {kids : Ex} (h : KidsIn w lo hi av kids) {lo' hi' : Nat} (h1 : lo' ≤ lo) (h2 : hi ≤ hi') : KidsIn w lo' hi' av kids :=
  fun W hW => h W fun k g1 g2 => hW k (by omega) (by omega)
theorem KidsIn.nil (w : World) (lo hi : Nat) : KidsIn w lo hi (.slice none 0 0) .nil := fun _ _ => ⟨none, 0, rfl, Nat.le_refl _, by unfold maxLen; omega, trivial⟩

theorem own_same {w W : World} {base : Nat} {e : TypeId} {size : Nat} {v : Value} {n : Nat} {xs : List Value} (h : w.ownsRow base e size v n xs) (hW : ∀ k, v.ownBlock = some k → W.heap[k]? = w.heap[k]?) : W.ownsRow base e size v n xs := by
  obtain ⟨h1, h2⟩ := h
  refine ⟨h1, ?_⟩
  rcases h2 with h2 | ⟨g, cap, cur, hv, hg, hh, r⟩
  · exact Or.inl h2
  · subst hv
    exact Or.inr ⟨g, cap, cur, rfl, hg, by rw [hW g rfl]; exact hh, r⟩

/-- Arguments in a row of the call's own, each between two blocks of the call's own, that the row is not of. -/
def OwnT (w : World) (base : Nat) (v : Value) (l : List Xp) : Prop :=
  OwnX w base v l ∧ ∀ y ∈ l, ∃ lo hi, base ≤ lo ∧ hi ≤ w.heap.size ∧ (∀ g, v.ownBlock = some g → lo ≤ g → hi ≤ g) ∧ KidsIn w lo hi y.av y.kids

theorem OwnT.nil (w : World) (base : Nat) : OwnT w base (.slice none 0 0) [] := ⟨own_nilX w base, fun y hy => by simp at hy⟩

theorem OwnT.sl {w : World} {base : Nat} {v : Value} {l : List Xp} (h : OwnT w base v l) : ∀ y ∈ l, IsSl y.av := fun y hy => by
  obtain ⟨lo, hi, -, -, -, hk⟩ := h.2 y hy
  obtain ⟨a, c, e⟩ := hk.at.isSlice
  exact ⟨a, _, c, e⟩

theorem OwnT.kids {w : World} {base : Nat} {v : Value} {l : List Xp} (h : OwnT w base v l) : KidsIn w base w.heap.size v (Ex.of l) := by
  intro W hW
  obtain ⟨h1, h2⟩ := h
  have hl := h1.lt
  have h3 : OwnX W base v l := own_same h1 fun k hk => hW k (hl k hk).1 (hl k hk).2
  obtain ⟨a, c, rfl⟩ := h3.slice
  obtain ⟨-, g1, g2, g3⟩ := h3.at
  refine (kidsAt_iff _ _ _).2 ⟨a, c, by rw [Ex.list_of], by rw [Ex.list_of]; exact g1, g2, fun i hi => ?_⟩
  rw [Ex.list_of] at hi
  obtain ⟨g, e, hx⟩ := g3 i hi
  refine ⟨g, 0, e, ?_⟩
  have : (Ex.of l).list[i]'(by rw [Ex.list_of]; exact hi) = l[i] := by simp only [Ex.list_of]
  rw [this, Nat.zero_add]
  refine ⟨hx, ?_⟩
  obtain ⟨lo, hi', b1, b2, -, hk⟩ := h2 _ (List.getElem_mem hi)
  exact hk W fun k k1 k2 => hW k (by omega) (by omega)

/-- What a call leaves that changes older blocks alone. -/
theorem OwnT.upd {w w' : World} {base : Nat} {v : Value} {l : List Xp} (h : OwnT w base v l) {F : List Nat} (u : Upd F w w') (hF : ∀ k ∈ F, k < base) : OwnT w' base v l := by
  obtain ⟨h1, h2⟩ := h
  refine ⟨own_upd h1 u (fun k hk q => by have := hF k hk; have := (h1.lt k q).1; omega), fun y hy => ?_⟩
  obtain ⟨lo, hi, b1, b2, b3, hk⟩ := h2 y hy
  exact ⟨lo, hi, b1, Nat.le_trans b2 u.size, b3, hk.upd u b2 fun k hk' hlo => by have := hF k hk'; omega⟩

/-- Behind an append of an expression whose arguments lie between two blocks. -/
theorem OwnT.app {w w' : World} {base : Nat} {v v' : Value} {l : List Xp} (h : OwnT w base v l) {y : Xp} {lo hi : Nat} (b1 : base ≤ lo) (b2 : hi ≤ w.heap.size) (b3 : ∀ g, v.ownBlock = some g → lo ≤ g → hi ≤ g) (hy : KidsIn w lo hi y.av y.kids)
    (h1 : OwnX w' base v' (l ++ [y])) (hg : w.grownBy w' v.ownBlock) (hv : v'.ownBlock = v.ownBlock ∨ ∀ g, v'.ownBlock = some g → w.heap.size ≤ g) : OwnT w' base v' (l ++ [y]) := by
  have step : ∀ {z : Xp} {lo hi : Nat}, base ≤ lo → hi ≤ w.heap.size → (∀ g, v.ownBlock = some g → lo ≤ g → hi ≤ g) → KidsIn w lo hi z.av z.kids →
      ∃ lo hi, base ≤ lo ∧ hi ≤ w'.heap.size ∧ (∀ g, v'.ownBlock = some g → lo ≤ g → hi ≤ g) ∧ KidsIn w' lo hi z.av z.kids := by
    intro z lo hi c1 c2 c3 hz
    refine ⟨lo, hi, c1, Nat.le_trans c2 hg.size, fun g hgv hlo => ?_, fun W hW => hz W fun k k1 k2 => (hW k k1 k2).trans (hg.block k (by omega) fun q => ?_)⟩
    · rcases hv with e | e
      · exact c3 g (e ▸ hgv) hlo
      · have := e g hgv; omega
    · have := c3 k q.symm k1; omega
  refine ⟨h1, fun z hz => ?_⟩
  rcases List.mem_append.1 hz with hz | hz
  · obtain ⟨lo', hi', c1, c2, c3, hk⟩ := h.2 z hz
    exact step c1 c2 c3 hk
  · obtain rfl := List.mem_singleton.1 hz
    exact step b1 b2 b3 hy

theorem append_expT {w : World} {base : Nat} {v : Value} {l : List Xp} (hown : OwnX w base v l) {A : Option Addr} (c : Nat) {r : List Xp} (hr : SrcX w A r) (hs : ∀ x ∈ r, IsSl x.av) (hb : (l.length + r.length) * 56 ≤ 140737488355328) (hbase : base ≤ w.heap.size) (ty : TypeId) :
    ∃ v' w', (Builtin.append_ #[52, 52] ty #[v, .slice A r.length c]).run Tryz.prog w = .ok v' w' ∧ OwnX w' base v' (l ++ r) ∧ w.grownBy w' v.ownBlock ∧ (v'.ownBlock = v.ownBlock ∨ ∀ g, v'.ownBlock = some g → w.heap.size ≤ g) := by
  obtain ⟨i0, hi0, hz0, hz1, hz2⟩ := info_partsX
  rcases A with _ | ad
  · obtain rfl := hr.1 rfl
    refine ⟨v, w, ?_, by simpa [OwnX] using hown, World.grownBy.refl w _, Or.inl rfl⟩
    rcases hown.2 with ⟨rfl, hn⟩ | ⟨g, cap, cur, rfl, _, _, hnc, _⟩
    · simp [Builtin.append_, run_underlying Tryz.underlying52, sizeOf, typeInfo, hi0, Builtin.lenOf, Builtin.firstCells]
    · simp [Builtin.append_, run_underlying Tryz.underlying52, sizeOf, typeInfo, hi0, Builtin.lenOf, Builtin.firstCells, hnc, storeCells]
  · obtain ⟨v', w', hrun, h2, h3, _, h5⟩ := run_append_own_at (P := Tryz.prog) w base 52 ty 54 i0 _ 4 56 Tryz.underlying52 hi0 hz0 hz1 hz2 rfl (by omega) v l.length (flatX l) hown ad r.length c (flatX r) (flatX_len r) (hr.2 ad rfl) (flatX_one r hs) (by unfold maxLen; omega) hb hbase
    refine ⟨v', w', hrun, by unfold OwnX; rw [flatX_app, List.length_append]; exact h2, h3, ?_⟩
    rcases h5 with h5 | h5
    · exact Or.inl h5
    · exact Or.inr fun g hg => by rw [h5] at hg; cases hg; exact Nat.le_refl _

theorem wpList_append_expT {w : World} {ops : Array Oper} {rest : List Oper} {o : Oper} {a : Act} {Q : Exit → Act → World → Prop} (hgd : o.guard = none) (s x : Operand)
    (ho : o.op = .call { callee := .builtin .append, args := #[s, x], argTypes := #[52, 52] }) {base : Nat} {v : Value} {l : List Xp} (hs : a.eval s = v) (hown : OwnX w base v l)
    {A : Option Addr} {c : Nat} {r : List Xp} (hx : a.eval x = .slice A r.length c) (hr : SrcX w A r) (hsl : ∀ x ∈ r, IsSl x.av) (hb : (l.length + r.length) * 56 ≤ 140737488355328) (hbase : base ≤ w.heap.size)
    (h : ∀ v' w', OwnX w' base v' (l ++ r) → w.grownBy w' v.ownBlock → (v'.ownBlock = v.ownBlock ∨ ∀ g, v'.ownBlock = some g → w.heap.size ≤ g) → wpList Tryz.prog ops Q rest (a.put o.dst v') w') : wpList Tryz.prog ops Q (o :: rest) a w :=
  wpList_plain hgd fun K hK => by
    obtain ⟨v', w', hrun, h2, h3, h4⟩ := append_expT hown c hr hsl hb hbase o.type
    unfold Oper.wp execOp
    simp only [ho, resolve, invoke, builtin, Sem.run_bind, Sem.run_pure, Result.andThen_ok, List.map_toArray, List.map_cons, List.map_nil, hs, hx, hrun]
    exact hK _ _ (h v' w' h2 h3 h4)
end Go.Proofs.YtajppgngoffonaaGreatDoor

namespace Go.Proofs.YtajppgngoffonaaGreatDoor
open Go.RowKit

abbrev boxNo (n : Int) : Obj := .cells #[.int .i64 n] 3
abbrev clo (nb cb : Nat) : Value := .func (.func 36) #[] #[.pointer (some ⟨nb, 0, none⟩), .pointer (some ⟨cb, 0, none⟩)]
abbrev boxClo (nb cb : Nat) : Obj := .cells #[clo nb cb] 57

def OwnXPost (x : Xp) (m : Int) (nb : Nat) (w : World) (e : Ending) (w' : World) : Prop :=
  ∃ x', e = .returned (aggX x') ∧ bareX x' = (ownX x m).1 ∧ KidsIn w' w.heap.size w'.heap.size x'.av x'.kids ∧ w'.heap[nb]? = some (boxNo (ownX x m).2) ∧ Upd [nb] w w'

theorem entersOwn1 : ∀ args w, (callFunc 36 args).run Tryz.prog w = .ok (.enter 36 args) w := enters_of Tryz.func36 (by kernel_rfl) rfl

theorem of_list0 : ∀ f : Ex, Ex.of f.list = f := by
  intro f
  induction f with
  | nil => rfl
  | cons kd n s av kids rest _ ih => simp only [Ex.list, Ex.of, ih]

theorem size_setCell0 (w : World) (a : Addr) (v : Value) : (w.setCell a v).heap.size = w.heap.size := by simp
/-- A result in a variable of its own. -/
theorem res_exp {fn : Func} {tmps : Array Value} {W : World} {s1 B : Nat} {x : Xp} (hr : fn.results = #[.cell s1 54]) (h1 : tmps.getD s1 undef = .pointer (some ⟨B, 0, none⟩)) (hb : W.heap[B]? = some (boxX x)) :
    (results fn tmps).run Tryz.prog W = .ok (aggX x) W := by
  have z0 : W.cell? ⟨B, 0, none⟩ = some (.int .i64 x.kd) := cell_blk hb 0
  have z1 : W.cell? ⟨B, 1, none⟩ = some (.int .i64 x.n) := cell_blk hb 1
  have z2 : W.cell? ⟨B, 2, none⟩ = some (.string x.s) := cell_blk hb 2
  have z3 : W.cell? ⟨B, 3, none⟩ = some x.av := cell_blk hb 3
  simp only [Array.getD_eq_getD_getElem?] at h1
  simp [results, hr, h1, go_sem, z0, z1, z2, z3]

theorem box_set4X {W : World} {B : Nat} {x : Xp} (h : W.heap[B]? = some (boxX x)) (k n : Int) (s : ByteArray) (v : Value) :
    ((((W.setCell ⟨B, 0, none⟩ (.int .i64 k)).setCell ⟨B, 1, none⟩ (.int .i64 n)).setCell ⟨B, 2, none⟩ (.string s)).setCell ⟨B, 3, none⟩ v).heap[B]? = some (boxX ⟨k, n, s, v, .nil⟩) := by
  rw [heap_setCell, if_pos rfl, heap_setCell, if_pos rfl, heap_setCell, if_pos rfl, heap_setCell, if_pos rfl, h]
  rfl

theorem own_post {kd n : Int} {s : ByteArray} {av : Value} {kids : Ex} {m : Int} {nb : Nat} {w W : World} {v : Value} {done : List Xp} {mj : Int} (h1 : done.map bareX = (ownL kids.list (m - 1)).1) (h2 : mj = (ownL kids.list (m - 1)).2)
    (h3 : KidsIn W w.heap.size W.heap.size v (Ex.of done)) (h4 : W.heap[nb]? = some (boxNo mj)) (h5 : Upd [nb] w W) : OwnXPost ⟨kd, n, s, av, kids⟩ m nb w (.returned (.agg #[.int .i64 kd, .int .i64 n, .string s, v])) W := by
  have e := own_list kids (m - 1)
  refine ⟨⟨kd, n, s, v, Ex.of done⟩, rfl, ?_, h3, ?_, h5⟩
  · show (⟨kd, n, s, .slice none 0 0, (Ex.of done).bare⟩ : Xp) = ⟨kd, n, s, .slice none 0 0, (kids.own (m - 1)).1⟩
    rw [bare_of, h1, ← e, of_list0]
  · rw [h4, h2, ← e]; rfl

theorem own_at {w : World} {nb : Nat} {m : Int} (hn : w.heap[nb]? = some (boxNo m)) (hnw : nb ≠ w.heap.size) (x : Xp) : ∀ W, W.Alike (((w.setCell ⟨nb, 0, none⟩ (.int .i64 (m - 1))).alloc (boxX x)).alloc (boxX ⟨0, 0, ⟨#[]⟩, .slice none 0 0, .nil⟩)) →
      W.heap[nb]? = some (boxNo (m - 1)) ∧ Upd [nb] w W ∧ W.heap[w.heap.size]? = some (boxX x) ∧ W.heap[w.heap.size + 1]? = some (boxX ⟨0, 0, ⟨#[]⟩, .slice none 0 0, .nil⟩) := fun W h => by
  have hlt := lt_of_blk hn
  refine ⟨?_, ((((Upd.refl _ _).setCell (by simp) _ _).alloc _).alloc _).alike h, ?_, ?_⟩
  · rewrite [h.1, heap_alloc, if_neg (by simp only [World.size_alloc, size_setCell0]; omega), heap_alloc, if_neg (by simp only [size_setCell0]; omega), heap_setCell, if_pos rfl, hn]
    rfl
  · rewrite [h.1, heap_alloc, if_neg (by simp only [World.size_alloc, size_setCell0]; omega), heap_alloc, if_pos (by simp only [size_setCell0])]
    rfl
  · rewrite [h.1, heap_alloc, if_pos (by simp only [World.size_alloc, size_setCell0])]
    rfl

theorem box_res {wr : World} {B : Nat} {v : Value} {x : Xp} (h : wr.heap[B + 1]? = some (boxX x)) : ((wr.setCell ⟨B, 3, none⟩ v)).heap[B + 1]? = some (boxX x) := by
  rewrite [heap_setCell, if_neg (by omega)]
  exact h

set_option maxRecDepth 100000 in
set_option maxHeartbeats 4000000 in
theorem copied_ok : ∀ (x : Xp) (w0 w : World) (nb cb : Nat) (m : Int), KidsAt w0 x.av x.kids → Upd [] w0 w → w0.heap.size ≤ nb → w0.heap.size ≤ cb → nb ≠ cb → 0 ≤ m → m ≤ 65 →
    w.heap[nb]? = some (boxNo m) → w.heap[cb]? = some (boxClo nb cb) →
    Calls Tryz.prog 36 #[aggX x, .pointer (some ⟨nb, 0, none⟩), .pointer (some ⟨cb, 0, none⟩)] w (OwnXPost x m nb w) := by
  refine Ex.ind fun x ih w0 w nb cb m hk u0 hnb hcb hne hm0 hm1 hn hc => ?_
  obtain ⟨kd, n, s, av, kids⟩ := x
  obtain ⟨a, cap, hav, h1, h2, h3⟩ := (kidsAt_iff _ _ _).1 hk
  dsimp only at hav ih h1 h3
  subst hav
  have HI := Lib.hid ih
  have H3 := Lib.hid h3
  have HQ := Lib.hid (fun (v : Value) (done : List Xp) (mj : Int) (W : World) q1 q2 q3 q4 q5 => own_post (kd := kd) (n := n) (s := s) (av := .slice a kids.list.length cap) (kids := kids) (m := m) (nb := nb) (w := w) (W := W) (v := v) (done := done) (mj := mj) q1 q2 q3 q4 q5)
  clear ih h3 hk
  unfold maxLen at h2
  have c0 : w.cell? ⟨nb, 0, none⟩ = some (.int .i64 m) := cell_blk hn 0
  have d0 : w.cell? ⟨cb, 0, none⟩ = some (clo nb cb) := cell_blk hc 0
  have fz := frozen_blk hn
  have hltn := lt_of_blk hn
  have hltc := lt_of_blk hc
  have hwm : IntKind.i64.wrap (m - 1) = m - 1 := IntWalk.i64_in _ (by omega)
  have hnw : nb ≠ w.heap.size := by omega
  have hcw : cb ≠ w.heap.size := by omega
  have hat := own_at hn hnw (show Xp from ⟨kd, n, s, .slice a kids.list.length cap, kids⟩)
  have HAT := Lib.hid hat
  have H0 := Lib.hid (And.intro u0 hc)
  clear u0 hn hc hat
  generalize hl : kids.list = l at *
  go_enter Tryz.func36, Tryz.ntmps36
  go_wp2_with fail
  go_loopg [5, 13] l.length (fun k v i wr => ∃ (j : Nat) (done : List Xp) (mj : Int), i = .int .i64 j ∧ j ≤ l.length ∧ k = l.length - j ∧ Hid (OwnT wr (w.heap.size + 2) v done) ∧ (done.length : Int) + mj ≤ 64 ∧ -1 ≤ mj ∧
    Hid ((done.map bareX ++ (ownL (l.drop j) mj).1, (ownL (l.drop j) mj).2) = ownL l (m - 1)) ∧ Hid (wr.heap[nb]? = some (boxNo mj)) ∧ Hid (Upd [nb] w wr ∧ wr.heap[w.heap.size]? = some (boxX ⟨kd, n, s, .slice a l.length cap, kids⟩) ∧ wr.heap[w.heap.size + 1]? = some (boxX ⟨0, 0, ⟨#[]⟩, .slice none 0 0, .nil⟩)))
  case atStart =>
    have q := HAT.out _ (by first | exact ⟨rfl, rfl, rfl⟩ | exact alike_refl _)
    exact ⟨0, [], m - 1, rfl, by omega, rfl, Lib.hid (OwnT.nil _ _), by simp; omega, by omega, Lib.hid rfl, Lib.hid q.1, Lib.hid q.2⟩
  case round =>
    obtain ⟨j, done, mj, rfl, hj, rfl, HO, hlen, hmj, hA, HN, HU⟩ := hrel
    have e0 : wr.cell? ⟨nb, 0, none⟩ = some (.int .i64 mj) := cell_blk HN.out 0
    have bx := HU.out.2.1
    have br := HU.out.2.2
    have z0 := cell_blk br 0
    have z1 := cell_blk br 1
    have z2 := cell_blk br 2
    have z3 := cell_blk br 3
    have fzr := frozen_blk br
    have hr2 : w.heap.size + 1 < wr.heap.size := lt_of_blk br
    have hr3 : ¬ w.heap.size + 1 = wr.heap.size := by omega
    have HBr := Lib.hid br
    clear br
    have bc := (HU.out.1.block cb hltc (by simp; omega)).trans H0.out.2
    have x0 := cell_blk bx 0
    have x1 := cell_blk bx 1
    have x2 := cell_blk bx 2
    have x3 := cell_blk bx 3
    have fzx := frozen_blk bx
    have k0 : wr.cell? ⟨cb, 0, none⟩ = some (clo nb cb) := cell_blk bc 0
    have hwr : w.heap.size < wr.heap.size := lt_of_blk bx
    have hn2 : nb < wr.heap.size := lt_of_blk HN.out
    have hc2 : cb < wr.heap.size := lt_of_blk bc
    have hn3 : ¬ nb = wr.heap.size := by omega
    have hc3 : ¬ cb = wr.heap.size := by omega
    have hw3 : ¬ w.heap.size = wr.heap.size := by omega
    have HB := Lib.hid (And.intro bx bc)
    clear bx bc
    obtain ⟨va, vc, hv⟩ := HO.out.1.slice
    subst hv
    have hfin : ∀ W : World, Upd [w.heap.size, w.heap.size + 1] wr W → (done.map bareX, mj) = ownL l (m - 1) → OwnXPost ⟨kd, n, s, .slice a l.length cap, kids⟩ m nb w (.returned (.agg #[.int .i64 kd, .int .i64 n, .string s, .slice va done.length vc])) W := fun W u q => by
      refine HQ.out (.slice va done.length vc) done mj _ (congrArg Prod.fst q) (congrArg Prod.snd q) ?_ ?_ ?_
      · exact ((HO.out.kids).upd u (Nat.le_refl _) (fun k hk hlo => by simp at hk; omega)).wide (by omega) u.size
      · exact (u.block nb hn2 (by simp; omega)).trans HN.out
      · exact HU.out.1.next u (fun k hk hlt => by simp at hk; omega)
    have HFin := Lib.hid hfin
    clear hfin HQ HAT
    by_cases hjl : j < l.length
    · have hlt : (j : Int) < (l.length : Int) := by omega
      obtain ⟨b, off, rfl, hf⟩ := H3.out j hjl
      have hU0 : Upd [] w0 wr := H0.out.1.next HU.out.1 (fun k hk hlt => by simp at hk; omega)
      obtain ⟨y0, y1, y2, y3⟩ := hf.1.keep hU0
      have hblt : b < wr.heap.size := World.block_lt_of_cell? _ _ y0
      by_cases hneg : mj < 0
      · have hst := ownL_stop (l.drop j) mj hneg
        have hq : (done.map bareX, mj) = ownL l (m - 1) := by
          have := hA.out
          rewrite [hst] at this
          simpa using this
        have HR := Lib.hid (fun W (u : Upd [w.heap.size, w.heap.size + 1] wr W) => HFin.out W u hq)
        obtain ⟨ya, yc, hya⟩ := hf.2.isSlice
        clear hst hq hA HFin HI H3 hf hU0
        generalize l[j] = y at *
        obtain ⟨ykd, yn, ys, yav, ykids⟩ := y
        dsimp only at y0 y1 y2 y3 hya HR
        subst hya
        go_upto_region 6 with (fail)
        change Code.wp _ _ _ _ (wr.alloc (boxX ⟨ykd, yn, ys, .slice ya ykids.list.length yc, ykids⟩))
        have ua : Upd [] wr (wr.alloc (boxX ⟨ykd, yn, ys, .slice ya ykids.list.length yc, ykids⟩)) := (Upd.refl [] wr).alloc _
        replace e0 := cell_keep ua e0
        have bx := (ua.block _ hwr (by simp)).trans HB.out.1
        have br := (ua.block _ hr2 (by simp)).trans HBr.out
        replace x0 := cell_blk bx 0
        replace x1 := cell_blk bx 1
        replace x2 := cell_blk bx 2
        replace x3 := cell_blk bx 3
        replace fzx := frozen_blk bx
        replace z0 := cell_blk br 0
        replace z1 := cell_blk br 1
        replace z2 := cell_blk br 2
        replace z3 := cell_blk br 3
        replace fzr := frozen_blk br
        have HR2 := Lib.hid (fun W' (u : Upd [w.heap.size, w.heap.size + 1] (wr.alloc (boxX ⟨ykd, yn, ys, .slice ya ykids.list.length yc, ykids⟩)) W') => HR.out W' ((ua.mono (G := [w.heap.size, w.heap.size + 1]) (by simp)).trans u))
        have HBr2 := Lib.hid br
        clear y0 y1 y2 y3 k0 HR HBr HB bx br ua HN HU HO c0 d0 fz H0 hn3 hc3 hw3 hr3
        generalize (wr.alloc (boxX ⟨ykd, yn, ys, .slice ya ykids.list.length yc, ykids⟩)) = W at *
        go_wp2_with fail
        try simp only [Exit.inBlock, Exit.then]
        refine bodyPost_ret (res_exp (B := w.heap.size + 1) (x := ⟨kd, n, s, .slice va done.length vc, .nil⟩) Tryz.results36 (by rfl) ?rb) rfl ?_
        case rb => exact box_set4X (box_res HBr2.out) _ _ _ _
        refine HR2.out _ ?_
        exact (((((Upd.refl _ _).setCell (by simp) _ _).setCell (by simp) _ _).setCell (by simp) _ _).setCell (by simp) _ _).setCell (by simp) _ _
      · have hst := ownL_drop l mj j hjl hneg
        have hA2 := hA.out
        rewrite [hst] at hA2
        have HA2 := Lib.hid hA2
        have hlow := ownX_low l[j] mj (by omega)
        have hwa : Upd [] wr (wr.alloc (boxX l[j])) := (Upd.refl [] wr).alloc _
        have HC := Lib.hid (HI.out l[j] (List.getElem_mem hjl) w0 (wr.alloc (boxX l[j])) nb cb mj hf.2 (hU0.trans hwa) hnb hcb hne (by omega) (by omega) ((hwa.block nb (by omega) (by simp)).trans HN.out) ((hwa.block cb (by omega) (by simp)).trans HB.out.2))
        obtain ⟨ya, yc, hya⟩ := hf.2.isSlice
        clear hst hA2 hA hwa hf hU0 HFin
        generalize l[j] = y at *
        obtain ⟨ykd, yn, ys, yav, ykids⟩ := y
        dsimp only at y0 y1 y2 y3 hya HC
        subst hya
        generalize hoX : ownX ⟨ykd, yn, ys, .slice ya ykids.list.length yc, ykids⟩ mj = oX at *
        go_wp2_with fail
        refine HC.out.mono ?_
        rintro e w2 ⟨x', rfl, hx1, hx2, hx3, hx4⟩
        rewrite [hoX] at hx1 hx3
        obtain ⟨xa, xc, hxa⟩ := hx2.at.isSlice
        obtain ⟨xkd, xn, xs, xav, xkids⟩ := x'
        dsimp only at hxa hx2
        subst hxa
        have hsz : wr.heap.size + 1 ≤ w2.heap.size := by have := hx4.size; simpa using this
        have hO2 : OwnT w2 (w.heap.size + 2) (.slice va done.length vc) done := (HO.out.upd ((Upd.refl [] wr).alloc _) (by simp)).upd hx4 (fun k hk => by simp at hk; omega)
        have hvb : ∀ g, (Value.slice va done.length vc).ownBlock = some g → w.heap.size + 2 ≤ g ∧ g < wr.heap.size := fun g hg => World.ownsRow.lt HO.out.1 g hg
        have bx2 := (hx4.block w.heap.size (by simp; omega) (by simp; omega)).trans (((Upd.refl [] wr).alloc _).block w.heap.size hwr (by simp) |>.trans HB.out.1)
        have br2 := (hx4.block (w.heap.size + 1) (by simp; omega) (by simp; omega)).trans (((Upd.refl [] wr).alloc _).block (w.heap.size + 1) hr2 (by simp) |>.trans HBr.out)
        have hU2 : Upd [nb] w w2 := (HU.out.1.alloc _).next hx4 (fun k hk _ => hk)
        have H2 := Lib.hid (And.intro hO2 (And.intro hvb (And.intro bx2 (And.intro br2 (And.intro hU2 (And.intro hx1 (And.intro hx2 hx3)))))))
        clear HC hx1 hx2 hx3 hx4 hO2 hvb bx2 br2 hU2 HO HU HN HB HBr HI H3 e0 x0 x1 x2 x3 z0 z1 z2 z3 fzx fzr k0 y0 y1 y2 y3 hoX
        go_wp2_with (at_builtin; refine wpList_append_expT rfl _ _ rfl (l := done) rfl (H2.out.1.upd ((Upd.refl [] w2).alloc (boxX ⟨xkd, xn, xs, .slice xa xkids.list.length xc, xkids⟩)) (by simp)).1 rfl (srcX_box (x := ⟨xkd, xn, xs, .slice xa xkids.list.length xc, xkids⟩) (by rw [heap_alloc, if_pos rfl])) ?hsl ?c1 ?c2 ?_)
        case hsl =>
          intro x hx
          obtain rfl := List.mem_singleton.1 hx
          exact ⟨_, _, _, rfl⟩
        case c1 => simp only [List.length_cons, List.length_nil]; omega
        case c2 => simp only [World.size_alloc]; omega
        intro v4 w4 ho4 hg4 hv4
        have ua2 : Upd [] w2 (w2.alloc (boxX ⟨xkd, xn, xs, .slice xa xkids.list.length xc, xkids⟩)) := (Upd.refl [] w2).alloc _
        have hT4 : OwnT w4 (w.heap.size + 2) v4 (done ++ [⟨xkd, xn, xs, .slice xa xkids.list.length xc, xkids⟩]) :=
          (H2.out.1.upd ua2 (by simp)).app (lo := (wr.alloc (boxX ⟨ykd, yn, ys, .slice ya ykids.list.length yc, ykids⟩)).heap.size) (hi := w2.heap.size) (by simp; omega) (by simp)
            (fun g hg hlo => by have := (H2.out.2.1 g hg).2; simp at hlo; omega) (H2.out.2.2.2.2.2.2.1.upd ua2 (Nat.le_refl _) (by simp)) ho4 hg4 (by
              rcases hv4 with h | h
              · exact Or.inl h
              · exact Or.inr fun g hg => by have := h g hg; simpa using this)
        have hkp : ∀ k, k < w.heap.size + 2 → k < w2.heap.size → w4.heap[k]? = w2.heap[k]? := fun k hk1 hk2 => by
          rw [hg4.block k (by simp; omega) (fun e => by have := (H2.out.2.1 k e.symm).1; omega)]
          exact ua2.block k hk2 (by simp)
        have hrel : OwnT w4 (w.heap.size + 2) v4 (done ++ [⟨xkd, xn, xs, .slice xa xkids.list.length xc, xkids⟩]) ∧ ((done ++ [(⟨xkd, xn, xs, .slice xa xkids.list.length xc, xkids⟩ : Xp)]).map bareX ++ (ownL (l.drop (j + 1)) oX.2).1, (ownL (l.drop (j + 1)) oX.2).2) = ownL l (m - 1) ∧ w4.heap[nb]? = some (boxNo oX.2) ∧ Upd [nb] w w4 ∧
            w4.heap[w.heap.size]? = some (boxX ⟨kd, n, s, .slice (some ⟨b, off, none⟩) l.length cap, kids⟩) ∧ w4.heap[w.heap.size + 1]? = some (boxX ⟨0, 0, ⟨#[]⟩, .slice none 0 0, .nil⟩) := by
          refine ⟨hT4, ?_, ?_, ?_, ?_, ?_⟩
          · have hA2 := HA2.out
            rewrite [List.map_append, List.map_cons, List.map_nil, H2.out.2.2.2.2.2.1, List.append_assoc]
            exact hA2
          · rewrite [hkp nb (by omega) (by omega)]
            exact H2.out.2.2.2.2.2.2.2
          · exact ⟨hg4.os.trans (ua2.os.trans H2.out.2.2.2.2.1.os), hg4.output.trans (ua2.output.trans H2.out.2.2.2.2.1.output), Nat.le_trans H2.out.2.2.2.2.1.size (Nat.le_trans ua2.size hg4.size), fun k hk hn => (hkp k (by omega) (Nat.lt_of_lt_of_le hk H2.out.2.2.2.2.1.size)).trans (H2.out.2.2.2.2.1.block k hk hn)⟩
          · rewrite [hkp w.heap.size (by omega) (by omega)]
            exact H2.out.2.2.1
          · rewrite [hkp (w.heap.size + 1) (by omega) (by omega)]
            exact H2.out.2.2.2.1
        have HR4 := Lib.hid hrel
        clear hrel hT4 hkp ua2 ho4 hg4 hv4 H2 HA2
        go_wp2_with fail
        go_roundg (l.length - (j + 1))
        case measure => omega
        case rel => exact ⟨j + 1, done ++ [⟨xkd, xn, xs, .slice xa xkids.list.length xc, xkids⟩], oX.2, by go_num, by omega, rfl, Lib.hid HR4.out.1, by simp; omega, by omega, Lib.hid HR4.out.2.1, Lib.hid HR4.out.2.2.1, Lib.hid HR4.out.2.2.2⟩
    · have hlt : ¬ (j : Int) < (l.length : Int) := by omega
      have hq : (done.map bareX, mj) = ownL l (m - 1) := by
        have := hA.out
        rewrite [List.drop_eq_nil_of_le (by omega)] at this
        simpa [ownL] using this
      have HR := Lib.hid (fun W (u : Upd [w.heap.size, w.heap.size + 1] wr W) => HFin.out W u hq)
      clear hq hA HFin HI H3
      go_wp2_with fail
      try simp only [Exit.inBlock, Exit.then]
      refine bodyPost_ret (res_exp (B := w.heap.size + 1) (x := ⟨kd, n, s, .slice va done.length vc, .nil⟩) Tryz.results36 (by rfl) ?rb) rfl ?_
      case rb =>
        exact box_set4X (box_res HBr.out) _ _ _ _
      refine HR.out _ ?_
      exact (((((Upd.refl _ _).setCell (by simp) _ _).setCell (by simp) _ _).setCell (by simp) _ _).setCell (by simp) _ _).setCell (by simp) _ _

end Go.Proofs.YtajppgngoffonaaGreatDoor

namespace Go.Proofs.YtajppgngoffonaaGreatDoor
open Go.RowKit

set_option maxRecDepth 100000 in
set_option maxHeartbeats 1000000 in
theorem own_ok (x : Xp) (w : World) (hk : KidsAt w x.av x.kids) :
    Calls Tryz.prog 18 #[aggX x] w fun e w' => ∃ x', e = .returned (aggX x') ∧ bareX x' = (ownX x 65).1 ∧ KidsIn w' w.heap.size w'.heap.size x'.av x'.kids ∧ Upd [] w w' := by
  have HC := Lib.hid (fun (W : World) (nb cb : Nat) (u : Upd [] w W) (h1 : w.heap.size ≤ nb) (h2 : w.heap.size ≤ cb) (h3 : nb ≠ cb) h4 h5 => copied_ok x w W nb cb 65 hk u h1 h2 h3 (by omega) (by omega) h4 h5)
  obtain ⟨a, c, hav⟩ := hk.isSlice
  obtain ⟨kd, n, s, av, kids⟩ := x
  dsimp only at hav HC
  subst hav
  clear hk
  have hsf : ∀ (W : World) (m : Mode), (store ⟨w.heap.size + 1 + 1 + 1, 0, none⟩ (clo (w.heap.size + 1 + 1) (w.heap.size + 1 + 1 + 1)) m).run Tryz.prog W = stored Tryz.prog W ⟨w.heap.size + 1 + 1 + 1, 0, none⟩ (clo (w.heap.size + 1 + 1) (w.heap.size + 1 + 1 + 1)) m := fun W m => run_store _ _ _ _ m rfl
  go_enter Tryz.func18, Tryz.ntmps18
  go_wp2_with fail
  refine (HC.out _ (w.heap.size + 1 + 1) (w.heap.size + 1 + 1 + 1) ?u (by omega) (by omega) (by omega) ?h4 ?h5).mono ?_
  case u => exact ((((Upd.refl [] w).alloc _).alloc _).alloc _).alloc _
  case h4 => rw [heap_alloc, if_neg (by simp only [World.size_alloc]; omega), heap_alloc, if_pos (by simp only [World.size_alloc])]
  case h5 => rw [heap_alloc, if_pos (by simp only [World.size_alloc])]
  rintro e w1 ⟨x', rfl, hx1, hx2, hx3, hx4⟩
  have br : w1.heap[w.heap.size + 1]? = some (boxX ⟨0, 0, ⟨#[]⟩, .slice none 0 0, .nil⟩) := (hx4.block (w.heap.size + 1) (by simp only [World.size_alloc]; omega) (by simp)).trans (by
    rw [heap_alloc, if_neg (by simp only [World.size_alloc]; omega), heap_alloc, if_neg (by simp only [World.size_alloc]; omega), heap_alloc, if_pos (by simp only [World.size_alloc])])
  have hU : Upd [] w w1 := (((((Upd.refl [] w).alloc _).alloc _).alloc _).alloc _).next hx4 (fun k hk hlt => by simp at hk; omega)
  have hKI : KidsIn w1 (w.heap.size + 2) w1.heap.size x'.av x'.kids := hx2.wide (by simp only [World.size_alloc]; omega) (Nat.le_refl _)
  obtain ⟨xa, xc, hxa⟩ := hx2.at.isSlice
  obtain ⟨xkd, xn, xs, xav, xkids⟩ := x'
  dsimp only at hxa hKI
  subst hxa
  have hlt := lt_of_blk br
  have z0 := cell_blk br 0
  have z1 := cell_blk br 1
  have z2 := cell_blk br 2
  have z3 := cell_blk br 3
  have fzr := frozen_blk br
  have H1 := Lib.hid (And.intro hx1 (And.intro hU (And.intro hKI br)))
  clear hx1 hx2 hx3 hx4 hU hKI br HC hsf
  go_wp2_with fail
  try simp only [Exit.inBlock, Exit.then]
  refine bodyPost_ret (res_exp (B := w.heap.size + 1) (x := ⟨xkd, xn, xs, .slice xa xkids.list.length xc, .nil⟩) Tryz.results18 (by rfl) (box_set4X H1.out.2.2.2 _ _ _ _)) rfl ?_
  have u4 : Upd [w.heap.size + 1] w1 ((((w1.setCell ⟨w.heap.size + 1, 0, none⟩ (.int .i64 xkd)).setCell ⟨w.heap.size + 1, 1, none⟩ (.int .i64 xn)).setCell ⟨w.heap.size + 1, 2, none⟩ (.string xs)).setCell ⟨w.heap.size + 1, 3, none⟩ (.slice xa xkids.list.length xc)) :=
    ((((Upd.refl _ _).setCell (by simp) _ _).setCell (by simp) _ _).setCell (by simp) _ _).setCell (by simp) _ _
  refine ⟨⟨xkd, xn, xs, .slice xa xkids.list.length xc, xkids⟩, rfl, H1.out.1, ?_, ?_⟩
  · exact (H1.out.2.2.1.upd u4 (Nat.le_refl _) (fun k hk hlo => by simp at hk; omega)).wide (by omega) u4.size
  · exact H1.out.2.1.next u4 (fun k hk hlt => by simp at hk; omega)

theorem own_ok2 (x : Xp) (w : World) (hk : KidsAt w x.av x.kids) :
    Calls Tryz.prog 18 #[aggX x] w fun e w' => ∃ k n s a c kids, e = .returned (.agg #[.int .i64 k, .int .i64 n, .string s, .slice a (Ex.list kids).length c]) ∧ bareX ⟨k, n, s, .slice a (Ex.list kids).length c, kids⟩ = (ownX x 65).1 ∧
      KidsIn w' w.heap.size w'.heap.size (.slice a (Ex.list kids).length c) kids ∧ Upd [] w w' :=
  (own_ok x w hk).mono fun e w' ⟨x', he, h1, h2, h3⟩ => by
    obtain ⟨a, c, hv⟩ := h2.at.isSlice
    obtain ⟨k, n, s, v, kids⟩ := x'
    dsimp only at hv h2
    subst hv
    exact ⟨k, n, s, a, c, kids, he, h1, h2, h3⟩
end Go.Proofs.YtajppgngoffonaaGreatDoor
