/- Upcasters by what they bring up: byKey. -/
import Derived.Test.YtdokpfgdddfdfaaDoorUp
namespace Go.Proofs.YtdokpfgdddfdfaaDoor
open Go.RowKit Go.Shelf
attribute [local go_sem] Oper.semAt_some

def isU (s : ByteArray) (n : Int) (u : Up) : Bool := decide (s = u.ty ∧ n = u.fr)
def findU (l : List Up) (s : ByteArray) (n : Int) : Option Up := l.find? (isU s n)

/-- A map that answers as a list of upcasters does. -/
def MapU (w : World) (b : Nat) (l : List Up) : Prop := ∃ L c, MapB w b L c ∧ ∀ s n, getE L s n = (findU l s n).map aggU

theorem MapU.upd {w w' : World} {b : Nat} {l : List Up} (h : MapU w b l) {F : List Nat} (u : Upd F w w') (hF : b ∉ F) : MapU w' b l := by
  obtain ⟨L, c, h1, h2⟩ := h
  exact ⟨L, c, h1.grown u hF, h2⟩

theorem MapU.grownBy {w w' : World} {b : Nat} {l : List Up} (h : MapU w b l) {row : Option Nat} (hg : w.grownBy w' row) (hne : row ≠ some b) : MapU w' b l := by
  obtain ⟨L, c, h1, h2⟩ := h
  exact ⟨L, c, by unfold MapB at h1 ⊢; rw [hg.block b (lt_of_blk h1) (fun e => hne e.symm)]; exact h1, h2⟩

theorem MapU.lt {w : World} {b : Nat} {l : List Up} (h : MapU w b l) : b < w.heap.size := by
  obtain ⟨L, c, h1, h2⟩ := h
  exact lt_of_blk h1

theorem MapU.put {w : World} {b : Nat} {l : List Up} (h : MapU w b l) (u : Up) :
    ∃ w', (Instr.mapUpdate 40 (.map (some b)) (keyV u.ty u.fr) (aggU u)).run Tryd.prog w = .ok () w' ∧ MapU w' b (u :: l) ∧ w.grownBy w' (some b) := by
  obtain ⟨L, c, h1, h2⟩ := h
  obtain ⟨w', hr, hm, hg⟩ := run_mapUpd h1 u.ty u.fr (aggU u)
  refine ⟨w', hr, ⟨_, _, hm, fun s n => ?_⟩, hg⟩
  rw [getE_put, h2]
  unfold findU
  by_cases hk : s = u.ty ∧ n = u.fr
  · rw [if_pos hk]; simp [isU, hk]
  · rw [if_neg hk]; simp [isU, hk]

theorem MapU.look {w : World} {b : Nat} {l : List Up} (h : MapU w b l) (s : ByteArray) (n : Int) :
    (Instr.lookup 40 (.map (some b)) (keyV s n) true).run Tryd.prog w = .ok (.tuple #[((findU l s n).map aggU).getD (.agg #[.string ByteArray.empty, .int .i64 0, .slice none 0 0]), .bool (findU l s n).isSome]) w := by
  obtain ⟨L, c, h1, h2⟩ := h
  rw [run_look_ok h1, h2]
  simp

theorem wpListIn_mapUpd {F : Fence} {nF : Nat} {w : World} {ops : Array Oper} {rest : List Oper} {o : Oper} {a : Act} {Q : Exit → Act → World → Prop}
    (hg : o.guard = none) (m x v : Operand) (t : TypeId) (hop : o.op = Op.mapUpdate t m x v) (mv kv vv : Value) (hm : a.eval m = mv) (hx : a.eval x = kv) (hv : a.eval v = vv) {w' : World}
    (hrun : (Instr.mapUpdate t mv kv vv).run Tryd.prog w = .ok () w') (hK : wpListIn F nF Tryd.prog ops Q rest (a.put o.dst undef) w') :
    wpListIn F nF Tryd.prog ops Q (o :: rest) a w := by
  refine wpListIn_plain hg fun K' hK' => ?_
  unfold Oper.wpIn
  refine ⟨by simp [Oper.about, hop], ?_⟩
  rw [Oper.semAt_plain F _ _ (by rw [hop]; intro c hc'; cases hc')]
  simp [execOp, hop, hm, hx, hv, hrun, Result.andThen]
  exact hK' _ _ hK

theorem backward_in (F : Fence) (n : Nat) (h30 : F.fn 30) (hro : F.round = none) (a : Option Addr) (len cap : Nat) (w : World) :
    CallsIn F n Tryd.prog 30 #[.slice a len cap] w fun e w' => e = .returned (.func (.func 43) #[] #[.pointer (some ⟨w.heap.size, 0, none⟩)]) ∧ w' = w.alloc (.cells #[.slice a len cap] 23) := by
  refine callsIn_of_wp Tryd.func30 rfl h30 ?_ hro
  simp only [Tryd.ntmps30, List.size_toArray, List.length_cons, List.length_nil, Nat.reduceAdd, Nat.reduceSub, Array.replicate_succ, Array.replicate_zero, List.push_toArray, List.append_toArray, List.nil_append, List.cons_append]
  gi_wp2
  go_ret
  exact ⟨rfl, rfl⟩

theorem Below.upd {w w' : World} (h : Below w.heap.size w w') : Upd [] w w' := (Upd.refl [] w).below h (Nat.le_refl _)

set_option maxRecDepth 100000 in
set_option maxHeartbeats 4000000 in
theorem byKey_in (F : Fence) (n : Nat) (h17 : F.fn 17) (h30 : F.fn 30) (h43 : F.fn 43) (hro : F.round = none) (hn : 6 ≤ n) (a : Option Addr) (cap : Nat) (us : List Up) (w : World) (hu : UpsAt w (.slice a us.length cap) us) :
    CallsIn F n Tryd.prog 17 #[.slice a us.length cap] w fun e W' => e = .returned (.map (some w.heap.size)) ∧ MapU W' w.heap.size us ∧ Below w.heap.size w W' := by
  have h1 : 1 ≤ n := by omega
  have hmm := @run_makeMap Tryd.prog
  obtain ⟨a', cap', hv, hcap, hmax, hU⟩ := hu
  simp only [Value.slice.injEq, true_and] at hv
  obtain ⟨rfl, rfl⟩ := hv
  refine callsIn_of_wp_marks Tryd.func17 rfl h17 ?_ hro
  simp only [Tryd.ntmps17, List.size_toArray, List.length_cons, List.length_nil, Nat.reduceAdd, Nat.reduceSub, Array.replicate_succ, Array.replicate_zero, List.push_toArray, List.append_toArray, List.nil_append, List.cons_append]
  gi_wp2_with (gi_at_call 30; refine (backward_in F (n - 1) h30 hro _ _ _ _).mono ?_; rintro e w' ⟨rfl, rfl⟩)
  have hm0 : MapU (((w.alloc (.map #[] 0)).alloc (.cells #[.map (some w.heap.size)] 40)).alloc (.cells #[.slice a us.length cap] 23)) w.heap.size [] :=
    ⟨[], 0, by unfold MapB; rw [heap_alloc, if_neg (by simp; omega), heap_alloc, if_neg (by simp), heap_alloc, if_pos rfl]; rfl, fun s n => rfl⟩
  have bO := (Boxed.new (w.alloc (.map #[] 0)) 40 (.map (some w.heap.size))).alloc (.cells #[.slice a us.length cap] 23)
  have bS := Boxed.new ((w.alloc (.map #[] 0)).alloc (.cells #[.map (some w.heap.size)] 40)) 23 (.slice a us.length cap)
  simp only [World.size_alloc] at bO bS
  have hB0 : Below w.heap.size w (((w.alloc (.map #[] 0)).alloc (.cells #[.map (some w.heap.size)] 40)).alloc (.cells #[.slice a us.length cap] 23)) := (((Below.refl _ w).alloc (Nat.le_refl _) _).alloc (by simp) _).alloc (by simp; omega) _
  have hsz : (((w.alloc (.map #[] 0)).alloc (.cells #[.map (some w.heap.size)] 40)).alloc (.cells #[.slice a us.length cap] 23)).heap.size = w.heap.size + 3 := by simp
  obtain ⟨W0, hW0⟩ : ∃ W0, ((w.alloc (.map #[] 0)).alloc (.cells #[.map (some w.heap.size)] 40)).alloc (.cells #[.slice a us.length cap] 23) = W0 := ⟨_, rfl⟩
  rw [hW0] at hm0 bO bS hB0 hsz ⊢
  clear hW0 hmm
  have hseq : SeqStopsK F (n - 1) Tryd.prog 43 #[.pointer (some ⟨w.heap.size + 1 + 1, 0, none⟩)] (fun x : Fin us.length => #[.int .i64 ((x : Nat) : Int), aggU us[x.1]]) (KpB W0.heap.size w.heap.size) (fun ys => ys = backs us.length) (fun _ => True) us.length W0 :=
    fun l J Jx W hW _ _ hY hJ0 => back1_in F (n - 1) h43 hro (by omega) l (w.heap.size + 1 + 1) W0.heap.size w.heap.size a cap us hcap (by unfold maxLen at hmax; omega) J Jx hY W ((hW.cell (p := ⟨w.heap.size + 1 + 1, 0, none⟩) (by show w.heap.size + 1 + 1 < W0.heap.size; omega)).trans bS.cell) (by omega) (by omega)
      (fun i hi => by
        obtain ⟨b, off, e, hx⟩ := hU i hi
        have hlt := hx.1.lt
        refine ⟨b, off, e, by omega, by omega, ?_⟩
        have e1 : W0.heap[b]? = w.heap[b]? := hB0.block b hlt
        have e2 : W.heap[b]? = W0.heap[b]? := hW.block b (by omega)
        exact hx.1.of_blk (e2.trans e1)) hJ0
  refine wpIn_rangeFunc_ownH hro h1 (gf := 43) (lb := #[.pointer (some ⟨w.heap.size + 1 + 1, 0, none⟩)]) rfl h43 (enters_of Tryd.func43 (by kernel_rfl) rfl)
    hseq (fun h g => KpB.t h g) (KpB.b (Nat.le_refl _)) (Below.refl _ _) (fun _ => rfl)
    (fun pre W => (Boxed W (w.heap.size + 1) 40 (.map (some w.heap.size)) ∧ MapU W w.heap.size ((pre.map fun x => us[x.1]).reverse)) ∧ (Below w.heap.size w W ∧ W0.heap.size ≤ W.heap.size))
    (fun _ _ _ => False)
    (OwnFrom.and (OwnFrom.and (Own.from (boxed_own _ _ _) _) (fun s A B row hs hg hr => hs.grownBy hg (fun e => by have := (hr _ e).1; omega))) (OwnFrom.and (ownFrom_below (Nat.le_refl _) (by omega)) (fun _ _ _ _ hs hg _ => Nat.le_trans hs hg.size)))
    (fun _ _ _ _ _ hs _ _ => hs)
    ⟨⟨bO, hm0⟩, hB0, Nat.le_refl _⟩
    (fun x a' W => ∃ Bx, W0.heap.size ≤ Bx ∧ W.heap[Bx]? = some (boxU us[x.1]) ∧ a' = { tmps := #[.slice a us.length cap, undef, .map none, .pointer (some ⟨w.heap.size + 1, 0, none⟩), undef, .pointer (some ⟨Bx, 0, none⟩), .map (some w.heap.size), .slice a us.length cap, .func (.func 43) #[] #[.pointer (some ⟨w.heap.size + 1 + 1, 0, none⟩)], .int .i64 ((x : Nat) : Int), aggU us[x.1], undef, undef, undef, undef, undef, undef, undef, undef], defers := [] })
    (fun x a' _ X Y row hs hg hr => by
      obtain ⟨Bx, h1, h2, h3⟩ := hs
      refine ⟨Bx, h1, ?_, h3⟩
      rw [hg.block Bx (lt_of_blk h2) (fun e => by obtain ⟨-, o, ho, hoc⟩ := hr Bx e.symm; rw [h2] at ho; cases ho; cases hoc)]
      exact h2)
    ?assign ?body ?done ?stop
  case assign =>
    rintro l pre x W K ⟨⟨bO1, hm1⟩, hB1, hW1⟩ hK
    obtain ⟨b, off, -, -, a2, c2, hcv, -⟩ := hU x.1 x.2
    generalize us[x.1] = u at *
    obtain ⟨ty, fr, cv, ch⟩ := u
    dsimp only at hcv
    subst hcv
    gi_wp2
    exact hK _ _ ((KeepsOthers.alloc _ _).from _) (fun k hk _ => by rw [heap_alloc, if_neg (by omega)]) ⟨⟨bO1.alloc _, hm1.grownBy (World.grownBy_alloc W _ none) (by simp)⟩, hB1.alloc hB1.size _, by simp; omega⟩ ⟨W.heap.size, hW1, by rw [heap_alloc, if_pos rfl]; rfl, rfl⟩
  case body =>
    rintro l pre x a' W hl ⟨r, hr⟩ ⟨⟨bO1, hm1⟩, hB1, hW1⟩ ⟨Bx, hBx, hbx, rfl⟩ hlt
    obtain ⟨b, off, -, -, a2, c2, hcv, -⟩ := hU x.1 x.2
    obtain ⟨w1, hrun, hm2, hg⟩ := hm1.put us[x.1]
    have hm2' : MapU w1 w.heap.size (((pre ++ [x]).map fun x => us[x.1]).reverse) := by simpa using hm2
    have HM : Aside (MapU w1 w.heap.size (((pre ++ [x]).map fun x => us[x.1]).reverse)) := hm2'
    clear hm2 hm2'
    generalize us[x.1] = u at *
    obtain ⟨ty, fr, cv, ch⟩ := u
    dsimp only at hcv
    subst hcv
    have cO := bO1.cell
    have c0 : W.cell? ⟨Bx, 0, none⟩ = some (.string ty) := cell_blk hbx 0
    have c1 : W.cell? ⟨Bx, 1, none⟩ = some (.int .i64 fr) := cell_blk hbx 1
    have c2' : W.cell? ⟨Bx, 2, none⟩ = some (.slice a2 ch.length c2) := cell_blk hbx 2
    gi_wp2_with (gi_at_mapUpdate; refine wpListIn_mapUpd rfl _ _ _ 40 rfl _ _ _ rfl rfl rfl hrun ?_)
    have hlt := hm1.lt
    have hle : w.heap.size ≤ W.heap.size := by omega
    refine ⟨KeepsFrom.of_grownBy hg (fun j e => by cases e; omega), fun k hk hne => hg.block k (by have := bO1.lt; have := lt_of_blk hbx; omega) (fun e => hne (by cases e; rfl)), ⟨bO1.kept hg (fun e => by have := Option.some.inj e; omega), HM.out⟩, hB1.grown hg hB1.size (fun k e => by cases e; exact Nat.le_refl _), by have := hg.size; omega⟩
  case done =>
    rintro D ys W hD rfl ⟨⟨bO1, hm1⟩, hB1, hW1⟩ hK
    have cO := bO1.cell
    have hrev : ((backs us.length).map fun x => us[x.1]).reverse = us := by
      unfold backs
      rw [List.map_reverse, List.reverse_reverse]
      apply List.ext_getElem
      · simp
      · intro i h1 h2; simp
    rw [hrev] at hm1
    gi_wp2
    refine ⟨by simp, .inl ⟨_, _, rfl, run_takeDeferred hK, ?_⟩⟩
    exact ⟨_, results_tmp rfl _ _ _, rfl, hm1.grownBy (grownBy_putObj' W D _) (fun e => by cases e; omega), hB1.trans (belowK_b (w := w) (Nat.le_refl _) W D _ _ (by omega) hK rfl rfl)⟩
  case stop =>
    rintro D c pre W _ _ h _
    exact h.elim

theorem byKey_ok (v : Value) (us : List Up) (w : World) (hu : UpsAt w v us) :
    Calls Tryd.prog 17 #[v] w fun e w' => ∃ b, e = .returned (.map (some b)) ∧ w.heap.size ≤ b ∧ MapU w' b us ∧ Upd [] w w' := by
  obtain ⟨a, cap, rfl, h⟩ := hu
  have := byKey_in Fence.wide 6 trivial trivial trivial rfl (by omega) a cap us w ⟨a, cap, rfl, h⟩
  refine ((callsIn_wide (n := 6)).1 this).mono ?_
  rintro e w' ⟨rfl, hm, hb⟩
  exact ⟨_, rfl, Nat.le_refl _, hm, Below.upd hb⟩
end Go.Proofs.YtdokpfgdddfdfaaDoor
