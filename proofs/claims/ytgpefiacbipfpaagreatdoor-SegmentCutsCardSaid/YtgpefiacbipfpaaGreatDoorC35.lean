/- Segment: what the law's frames gives. -/
import Derived.Test.YtgpefiacbipfpaaGreatDoorC34
namespace Go.Proofs.YtgpefiacbipfpaaGreatDoor
open Go.RowKit Go.Maps
attribute [local go_sem] Oper.semAt_some
theorem roundList_append_G {α : Type} {f : α → List Value} {k bytes : Nat} {st e : TypeId} (T : RowT f k bytes st e) {ll nn : Nat} {w : World} {ops : Array Oper} {rest : List Oper} {o : Oper} {a : Act} {Q : Exit → Act → World → Prop} (hgd : o.guard = none) (s x : Operand)
  (ho : o.op = .call { callee := .builtin .append, args := #[s, x], argTypes := #[st, st] }) {base : Nat} {v : Value} {l : List α} (hs : a.eval s = v) (hown : OwnG f e k w base v l)
  {A : Option Addr} {c : Nat} {r : List α} (hx : a.eval x = .slice A r.length c) (hr : SrcG f w A r) (hsl : ∀ x ∈ r, ∀ u ∈ f x, u.oneCell' = true) (hb : (l.length + r.length) * bytes ≤ 140737488355328) (h63 : l.length + r.length ≤ 140737488355328) (hbase : base ≤ w.heap.size)
  (h : ∀ v' w', OwnG f e k w' base v' (l ++ r) → w.grownBy w' v.ownBlock → (v'.ownBlock = v.ownBlock ∨ ∀ g, v'.ownBlock = some g → w.heap.size ≤ g) → wpListIn (Fence.wide.inRound ll) nn Tryz.prog ops Q rest (a.put o.dst v') w') : wpListIn (Fence.wide.inRound ll) nn Tryz.prog ops Q (o :: rest) a w :=
 wpListIn_plain hgd fun K hK => opIn_round (by rw [ho]; intro c hc; cases hc) (by
  obtain ⟨v', w', hrun, h2, h3, h4⟩ := append_G T hown c hr hsl hb h63 hbase o.type
  unfold Oper.wp execOp
  simp only [ho, resolve, invoke, builtin, Sem.run_bind, Sem.run_pure, Result.andThen_ok, List.map_toArray, List.map_cons, List.map_nil, hs, hx, hrun]
  exact hK _ _ (h v' w' h2 h3 h4))
structure FrsO (w : World) (base : Nat) (fv : Value) (L : List FrR) : Prop where
 s : FrsS w base fv L
 o : ∀ x ∈ L, Ow w base x.dv x.d
 ap : ∀ x ∈ L, ∀ g, x.dv.ownBlock = some g → fv.ownBlock ≠ some g
theorem FrsO.low {w : World} {b base : Nat} {fv : Value} {L : List FrR} (h : FrsO w base fv L) (hb : b ≤ base) : FrsO w b fv L := ⟨h.s.low hb, fun x hx => (h.o x hx).base hb, h.ap⟩
theorem stab_frso {C base : Nat} {fv : Value} {L : List FrR} : Stab C fun W => FrsO W base fv L := fun X Y F h u hr => ⟨stab_frs X Y F h.s u hr, fun x hx => stab_own X Y F (h.o x hx) u hr, h.ap⟩
theorem OwnG.cells {α : Type} {f : α → List Value} {e : TypeId} {k base : Nat} {W : World} {v : Value} {l : List α} (h : OwnG f e k W base v l) {j : Nat} (hj : v.ownBlock = some j) {o : Obj} (ho : W.heap[j]? = some o) : o.isCells = true := by
 rcases h.2 with ⟨rfl, -⟩ | ⟨g, cap, cur, rfl, -, hg, -⟩
 ·cases hj
 ·cases hj
  rw [hg] at ho; cases ho; rfl
structure FmSt (w : World) (N most : Nat) (v : Value) (L' : List FrR) (pre : List (Nat × Frm)) (W : World) : Prop where
 b3 : W.heap[w.heap.size]? = some (.cells #[.int .i64 most] 3 (0, 0))
 b5 : W.heap[w.heap.size + 1]? = some (.cells #[v] 22 (0, 0))
 o : FrsO W N v L'
 fr : L'.map FrR.fr = pre.map (·.2)
 le : pre.length ≤ most
 upd : Upd [] w W
 sz : N ≤ W.heap.size
theorem stab_fm {w : World} {N most C : Nat} {v : Value} {L' : List FrR} {pre : List (Nat × Frm)} (hC : w.heap.size ≤ C) : Stab C (FmSt w N most v L' pre) := fun X Y F h u hr =>
 ⟨stab_blk rfl X Y F h.b3 u hr, stab_blk rfl X Y F h.b5 u hr, stab_frso X Y F h.o u hr, h.fr, h.le, stab_upd hC X Y F h.upd u hr, Nat.le_trans h.sz u.size⟩
theorem FmSt.keep {w X Y : World} {N most : Nat} {v : Value} {L' : List FrR} {pre : List (Nat × Frm)} (h : FmSt w N most v L' pre X) (u : Upd [] X Y) : FmSt w N most v L' pre Y := stab_fm (Nat.le_refl _) X Y [] h u (by simp)
theorem FmSt.len {w X : World} {N most : Nat} {v : Value} {L' : List FrR} {pre : List (Nat × Frm)} (h : FmSt w N most v L' pre X) : L'.length = pre.length := by
 have := congrArg List.length h.fr
 simpa using this
theorem FmSt.next {w W W6 w4 : World} {N most : Nat} {v v4 : Value} {L' : List FrR} {pre : List (Nat × Frm)} (h : FmSt w N most v L' pre W) (hN : w.heap.size + 1 < N) {x : FrR} {i : Nat} (ho : Ow W N x.dv x.d) (hap : ∀ g, x.dv.ownBlock = some g → v.ownBlock ≠ some g) (hlt : pre.length < most) (hu6 : Upd [] W W6)
  (ho4 : OwFr w4 N v4 (L' ++ [x])) (hg4 : W6.grownBy w4 v.ownBlock) (hn4 : v4.ownBlock = v.ownBlock ∨ ∀ g, v4.ownBlock = some g → W6.heap.size ≤ g) :
  FmSt w N most v4 (L' ++ [x]) (pre ++ [(i, x.fr)]) (w4.setCell ⟨w.heap.size + 1, 0, none⟩ v4) ∧ KeepsOthers W (w4.setCell ⟨w.heap.size + 1, 0, none⟩ v4) ∧ KpN w.heap.size W (w4.setCell ⟨w.heap.size + 1, 0, none⟩ v4) := by
 have hug := Upd.ofGrown hg4
 have h6 := h.keep hu6
 have hob : ∀ g, v.ownBlock = some g → N ≤ g ∧ g < W.heap.size := fun g hg => h.o.s.own.block g hg
 have hA : FrsS w4 N v4 (L' ++ [x]) := h6.o.s.app hg4 ho4 hn4 (by simp only [List.mem_singleton, forall_eq]; exact ho.rd.keep hu6) (by simp only [List.mem_singleton, forall_eq]; exact fun _ g hg => ⟨(ho.block g hg).1, hap g hg⟩)
 have hdO : ∀ y ∈ L' ++ [x], Ow W N y.dv y.d ∧ ∀ g, y.dv.ownBlock = some g → v.ownBlock ≠ some g := fun y hy => by
  rcases List.mem_append.1 hy with q | q
  ·exact ⟨h.o.o y q, h.o.ap y q⟩
  ·rw [List.mem_singleton.1 q]; exact ⟨ho, hap⟩
 have hO : FrsO w4 N v4 (L' ++ [x]) := ⟨hA, fun y hy => ((hdO y hy).1.upd hu6 (by simp)).upd hug fun j hj e => (hdO y hy).2 j e (by simpa using hj), fun y hy g hg q => by
  rcases hn4 with e | e
  ·exact (hdO y hy).2 g hg (by rw [← e]; exact q)
  ·have := e g q; have := ((hdO y hy).1.block g hg).2; have := hu6.size; omega⟩
 have us : Upd [w.heap.size + 1] w4 (w4.setCell ⟨w.heap.size + 1, 0, none⟩ v4) := (Upd.refl _ _).setCell (by simp) _ _
 have hne : ∀ (B : Nat), N ≤ B → B ∉ [w.heap.size + 1] := fun B hB q => by rw [List.mem_singleton] at q; omega
 have hot : ∀ (b : Nat) (o : Obj), b < N → W.heap[b]? = some o → w4.heap[b]? = some o := fun b o hb hh => (hug.block b (Nat.lt_of_lt_of_le (lt_of_blk hh) hu6.size) fun q => by have := (hob b (by simpa using q)).1; omega).trans (heap_keepU hu6 hh)
 have hu4 : Upd v.ownBlock.toList W w4 := (hu6.mono (by simp)).trans hug
 refine ⟨⟨?_, ?_, ?_, ?_, ?_, ?_, ?_⟩, ?_, ?_⟩
 ·exact (us.block _ (lt_of_blk (hot _ _ (by omega) h.b3)) (by simp)).trans (hot _ _ (by omega) h.b3)
 ·exact setBox (hot _ _ hN h.b5) _
 ·exact ⟨hO.s.upd us fun i hi => hne i ((hO.s.lt i hi).1), fun y hy => (hO.o y hy).upd us fun j hj e => hne j ((hO.o y hy).block j e).1 hj, hO.ap⟩
 ·rw [List.map_append, List.map_append, h.fr]; rfl
 ·rw [List.length_append]; exact hlt
 ·refine ((h.upd.next hu4 fun k hk hlt => ?_)).setCellNew (Nat.le_succ _) _ _
  have := (hob k (by simpa using hk)).1; omega
 ·rw [World.size_setCell]; exact Nat.le_trans h.sz hu4.size
 ·exact ((KeepsOthers.of_upd hu6 (by simp)).trans (KeepsOthers.of_grownBy hg4 fun j o hj ho => h6.o.s.own.cells hj ho)).trans (KeepsOthers.setCell _ _ _)
 ·exact (KpN.u hu6).t ((show KpN w.heap.size W6 w4 from ⟨_, hug, fun i hi => by have := (hob i (by simpa using hi)).1; omega⟩).t ⟨_, us, by simp⟩)
set_option maxRecDepth 100000 in
set_option maxHeartbeats 4000000 in
theorem frames_ok (w : World) (most : Nat) (hmost : most ≤ 100000) {base lg v : Nat} {fv sv : Value} {L : List FrR} {sz : List Nat} (h : LogS w base lg v fv sv L sz) (hlen : L.length ≤ 100000) (hsm : ∀ x ∈ L, x.d.length ≤ 100000) :
  Calls Tryz.prog 17 #[.pointer (some ⟨lg, 0, none⟩), .int .i64 most] w fun e w' => ∃ v' L', e = .returned v' ∧ FrsO w' w.heap.size v' L' ∧ L'.map FrR.fr = (L.map FrR.fr).take most ∧ Upd [] w w' := by
 refine (callsIn_wide (n := 6)).1 ?_
 refine callsIn_of_wp_marks Tryz.func17 rfl trivial ?_ rfl
 simp only [Tryz.ntmps17, List.size_toArray, List.length_cons, List.length_nil, Nat.reduceAdd, Nat.reduceSub, Array.replicate_succ, Array.replicate_zero, List.push_toArray, List.append_toArray, List.nil_append, List.cons_append]
 gi_wp2
 refine ⟨trivial, (callsIn_wide.2 (lall_ok _ _)).mono ?_⟩
 rintro e w' ⟨rfl, rfl⟩
 have hb3 := heap_keepA (.cells #[.slice none 0 0] 22 (0, 0)) (heap_top w (.cells #[.int .i64 most] 3 (0, 0)))
 have hb5 := heap_top (w.alloc (.cells #[.int .i64 most] 3 (0, 0))) (.cells #[.slice none 0 0] 22 (0, 0))
 have hu1 : Upd [] w ((w.alloc (.cells #[.int .i64 most] 3 (0, 0))).alloc (.cells #[.slice none 0 0] 22 (0, 0))) := ((Upd.refl [] w).alloc _).alloc _
 rw [World.size_alloc] at hb5
 try rw [World.size_alloc]
 try rw [World.size_alloc]
 generalize hW1 : (w.alloc (.cells #[.int .i64 most] 3 (0, 0))).alloc (.cells #[.slice none 0 0] 22 (0, 0)) = W1 at *
 have hbm := heap_top W1 (.cells #[.pointer (some ⟨lg, 0, none⟩)] 40 (0, 0))
 have hs1 : W1.heap.size = w.heap.size + 1 + 1 := by rw [← hW1]; simp
 rw [hs1] at hbm
 try rw [hs1]
 have hb3 := heap_keepA (.cells #[.pointer (some ⟨lg, 0, none⟩)] 40 (0, 0)) hb3
 have hb5 := heap_keepA (.cells #[.pointer (some ⟨lg, 0, none⟩)] 40 (0, 0)) hb5
 have hu := hu1.alloc (.cells #[.pointer (some ⟨lg, 0, none⟩)] 40 (0, 0))
 clear hu1 hW1 hs1
 generalize W1.alloc (.cells #[.pointer (some ⟨lg, 0, none⟩)] 40 (0, 0)) = W0 at *
 gi_wp2
 have hsz : w.heap.size + 1 + 1 < W0.heap.size := lt_of_blk hbm
 refine wp_rangeV (gf := 118) (lb := #[.pointer (some ⟨w.heap.size + 1 + 1, 0, none⟩)]) rfl (enters_of Tryz.func118 (by kernel_rfl) rfl)
  (lall_seq 5 (N := w.heap.size) (fun i hi => (h.lt i hi).2) (cell_blk hbm 0) (h.keep hu) hlen hsm) KpN.t (fun W l o o' hl _ _ => KpN.b W l o' (by omega)) (Upd.refl [] _) (fun _ _ _ _ ⟨_, e, _⟩ => by rw [e]; rfl)
  (fun pre W => ∃ v L', FmSt w W0.heap.size most v L' pre W)
  (fun c pre W => c = .exit 0 ∧ ∃ pre0 x v L', pre = pre0 ++ [x] ∧ pre0.length = most ∧ FmSt w W0.heap.size most v L' pre0 W)
  (fun _ => Stab.ex fun _ => Stab.ex fun _ => stab_fm (by omega))
  (fun _ _ => stab_pure.and (Stab.ex fun _ => Stab.ex fun _ => Stab.ex fun _ => Stab.ex fun _ => stab_pure.and (stab_pure.and (stab_fm (by omega)))))
  ⟨_, [], hb3, hb5, ⟨FrsS.nil _ _, by simp, by simp⟩, rfl, Nat.zero_le _, hu, Nat.le_refl _⟩
  (fun pre x a' W => ∃ (Bx : Nat) (v' v : Value) (L' : List FrR), (a' = { tmps := #[.pointer (some ⟨lg, 0, none⟩), .int .i64 most, undef, .pointer (some ⟨w.heap.size, 0, none⟩), .slice none 0 0, .pointer (some ⟨w.heap.size + 1, 0, none⟩), .int .i64 x.1, .pointer (some ⟨Bx, 0, none⟩), .pointer (some ⟨lg, 0, none⟩), .func (.func 118) #[] #[.pointer (some ⟨w.heap.size + 1 + 1, 0, none⟩)], .int .i64 x.1, .agg #[.int .u8 x.2.1.toNat, v'], undef, undef, undef, undef, undef, undef, undef, undef, undef, undef, undef, undef, undef, undef, undef, undef, undef], defers := [] } ∧ ∀ g, v'.ownBlock = some g → v.ownBlock ≠ some g) ∧ W.heap[Bx]? = some (boxFv x.2.1 v') ∧ Ow W W0.heap.size v' x.2.2 ∧ FmSt w W0.heap.size most v L' pre W)
  (fun _ _ _ => Stab.ex fun _ => Stab.ex fun _ => Stab.ex fun _ => Stab.ex fun _ => stab_pure.and ((stab_blk rfl).and (stab_own.and (stab_fm (by omega)))))
  ?assign ?body ?done ?stop
 case assign =>
  rintro l pre x vs V W K ⟨v, L', hi⟩ hvw ⟨v', rfl, ho⟩ hK
  obtain ⟨xa, xc, xm, hxm, rfl⟩ := ho.sliceM
  clear hxm
  gi_wp2
  have hu6 := (Upd.refl [] W).alloc (boxFv x.2.1 (.slice xa xm xc))
  refine hK _ _ (KeepsOthers.alloc _ _) (KpN.u hu6) ⟨v, L', (hi.keep hvw).keep hu6⟩ ⟨W.heap.size, .slice xa xm xc, v, L', ⟨by first | rfl | simp, fun g hg hv => ?_⟩, heap_top _ _, (ho.base hi.sz).upd hu6 (by simp), (hi.keep hvw).keep hu6⟩
  have h1 := (ho.block g hg).1
  have h2 := (hi.o.s.own.block g hv).2
  omega
 case body =>
  rintro l pre x a' W - ⟨Bx, v', v, L', ⟨rfl, hap⟩, hbx, ho, hi⟩ hpre
  obtain ⟨hx1, hx2, hx3⟩ := numF_pre hpre
  obtain ⟨i, y⟩ := x
  dsimp only at hx1 hx2 hx3 hbx ho
  obtain ⟨q, hq⟩ : ∃ q, q = pre.length := ⟨_, rfl⟩
  rw [← hq] at hx1
  subst hx1
  have hll := hi.len
  obtain ⟨xa, xc, xm, hxm, rfl⟩ := ho.sliceM
  clear hxm
  obtain ⟨va, vc, hv⟩ := hi.o.s.own.slice
  rw [hll, ← hq] at hv
  subst hv
  have hqm : i ≤ most := by have := hi.le; omega
  have c3 := cell_blk hi.b3 0
  have c5 := cell_blk hi.b5 0
  have d0 := cell_blk hbx 0
  have d1 := cell_blk hbx 1
  have f5 := frozen_blk hi.b5 0
  simp only [List.getElem?_toArray, List.getElem?_cons_zero, List.getElem?_cons_succ] at c3 c5 d0 d1
  have HI := Lib.hid hi
  have HO := Lib.hid (And.intro ho hap)
  have HQ := Lib.hid hq
  clear hi ho hap hpre hx2 hx3 hll hbx
  by_cases hm : most ≤ i
  ·obtain rfl : i = most := by omega
   clear hq
   gi_wp2
   exact ⟨KeepsOthers.refl _, rfl, pre, _, _, _, rfl, HQ.out.symm, HI.out⟩
  ·have hm' : ¬ (most : Int) ≤ (i : Int) := by omega
   have hm2 : (i : Int) < (most : Int) := by omega
   clear hq
   have hcell : ∀ X, (W.alloc X).cell? ⟨w.heap.size + 1, 0, none⟩ = some (.slice va i vc) := fun X => cell_blk (heap_keepA X HI.out.b5) 0
   gi_wp2_with (first
    | (gi_at_builtin; refine roundList_append_G TFr rfl _ _ rfl (base := W0.heap.size) (l := L') (r := [⟨y.1, .slice xa xm xc, y.2⟩]) (by rfl) (HI.out.o.s.own.upd ((Upd.refl [] W).alloc _) (by simp)) (by rfl) (src_new TFr (ty := 25) (B := W.heap.size) (heap_top' _ _ _ rfl)) (oneFr (w := W) (by simp only [List.mem_singleton, forall_eq]; exact HO.out.1.rd)) ?c1 ?c2 ?c3 ?_)
    | fail)
   case c1 => have := HI.out.len; have := HQ.out; simp; omega
   case c2 => have := HI.out.len; have := HQ.out; simp; omega
   case c3 => have := HI.out.sz; omega
   intro v4 w4 ho4 hg4 hn4
   have HN := Lib.hid (HI.out.next (by omega) (x := ⟨y.1, .slice xa xm xc, y.2⟩) (i := i) HO.out.1 HO.out.2 (by have := HQ.out; omega) ((Upd.refl [] W).alloc _) ho4 hg4 (hn4.imp id fun q g hg => by simpa using q g hg))
   have g5 : w4.frozen? ⟨w.heap.size + 1, 0, none⟩ = false ∧ ∃ o, w4.cell? ⟨w.heap.size + 1, 0, none⟩ = some o := by
    have hb := ((Upd.ofGrown hg4).block (w.heap.size + 1) (Nat.lt_of_lt_of_le (lt_of_blk HI.out.b5) ((Upd.refl [] W).alloc _).size) fun q => by have := (HI.out.o.s.own.block _ (by simpa using q)).1; omega).trans (heap_keepA _ HI.out.b5)
    exact ⟨frozen_blk hb 0, _, cell_blk hb 0⟩
   obtain ⟨g5, o5, k5⟩ := g5
   obtain ⟨a4, c4, m4, hm4, rfl⟩ := ho4.sliceM
   clear ho4 hg4 hn4 hm4
   gi_wp2
   exact ⟨HN.out.2.1, HN.out.2.2, _, _, HN.out.1⟩
 case done =>
  rintro D W hD ⟨v, L', hi⟩ hK
  obtain ⟨va, vc, vm, hvm, rfl⟩ := hi.o.s.own.sliceM
  have c5 := cell_blk hi.b5 0
  simp only [List.getElem?_toArray, List.getElem?_cons_zero] at c5
  clear hvm
  gi_wp2
  refine ⟨by simp, .inl ⟨_, _, rfl, run_takeDeferred hK, ?_⟩⟩
  have hi2 := stab_fm (Nat.le_refl _) W (W.putObj D (.deferred none)) [D] hi (Upd.putObj D _) (fun r hr => by rw [List.mem_singleton] at hr; subst hr; exact ⟨by omega, _, hK, rfl⟩)
  refine ⟨_, results_tmp rfl _ _ _, .slice va vm vc, L', rfl, hi2.o.low (by omega), ?_, hi2.upd⟩
  have := hi2.le
  rw [numF_len] at this
  rw [hi2.fr, numF_snd, List.take_of_length_le this]
 case stop =>
  rintro D c pre W hD hpre ⟨rfl, pre0, x, v, L', rfl, hl0, hi⟩ hK
  obtain ⟨va, vc, vm, hvm, rfl⟩ := hi.o.s.own.sliceM
  have c5 := cell_blk hi.b5 0
  simp only [List.getElem?_toArray, List.getElem?_cons_zero] at c5
  clear hvm
  gi_wp2
  refine ⟨by simp, .inl ⟨_, _, rfl, run_takeDeferred hK, ?_⟩⟩
  have hi2 := stab_fm (Nat.le_refl _) W (W.putObj D (.deferred none)) [D] hi (Upd.putObj D _) (fun r hr => by rw [List.mem_singleton] at hr; subst hr; exact ⟨by omega, _, hK, rfl⟩)
  refine ⟨_, results_tmp rfl _ _ _, .slice va vm vc, L', rfl, hi2.o.low (by omega), ?_, hi2.upd⟩
  rw [hi2.fr, (numF_pre hpre).2.2, hl0]
end Go.Proofs.YtgpefiacbipfpaaGreatDoor
