/- Segment: what the law's frames gives. -/
import Derived.Test.YtgpefiacbipfpaaGreatDoorC35
set_option maxRecDepth 100000
set_option maxHeartbeats 4000000
namespace Go.Proofs.YtgpefiacbipfpaaGreatDoor
open Go.RowKit Go.Maps
attribute [local go_sem] Oper.semAt_some
theorem Rv {α : Type} {f : α → List Value} {k bytes : Nat} {st e : TypeId} (T : fA f k bytes st e) {ll nn : Nat} {w : World} {ops : Array Oper} {rest : List Oper} {o : Oper} {a : Act} {Q : Exit → Act → World → Prop} (hgd : o.guard = none) (s x : Operand)
  (ho : o.op = .call { callee := .builtin .append, args := #[s, x], argTypes := #[st, st] }) {base : Nat} {v : Value} {l : List α} (hs : a.eval s = v) (hown : aK f e k w base v l)
  {A : Option Addr} {c : Nat} {r : List α} (hx : a.eval x = .slice A r.length c) (hr : hZ f w A r) (hsl : ∀ x ∈ r, ∀ u ∈ f x, u.oneCell' = true) (hb : (l.length + r.length) * bytes ≤ 140737488355328) (h63 : l.length + r.length ≤ 140737488355328) (hbase : base ≤ w.heap.size)
  (h : ∀ v' w', aK f e k w' base v' (l ++ r) → w.grownBy w' v.ownBlock → (v'.ownBlock = v.ownBlock ∨ ∀ g, v'.ownBlock = some g → w.heap.size ≤ g) → wpListIn (Fence.wide.inRound ll) nn Tryz.prog ops Q rest (a.put o.dst v') w') : wpListIn (Fence.wide.inRound ll) nn Tryz.prog ops Q (o :: rest) a w :=
 wpListIn_plain hgd fun K hK => Hb (by rw [ho]; intro c hc; cases hc) (by
  obtain ⟨v', w', hrun, h2, h3, h4⟩ := zJ T hown c hr hsl hb h63 hbase o.type
  unfold Oper.wp execOp
  simp only [ho, resolve, invoke, builtin, qF, vB, qG, DK, dR, kT, hs, hx, hrun]
  exact hK _ _ (h v' w' h2 h3 h4))
structure rG (w : World) (base : Nat) (fv : Value) (L : List aO) : Prop where
 s : dP w base fv L
 o : ∀ x ∈ L, Ow w base x.dv x.d
 ap : ∀ x ∈ L, ∀ g, x.dv.ownBlock = some g → fv.ownBlock ≠ some g
theorem rG.low {w : World} {b base : Nat} {fv : Value} {L : List aO} (h : rG w base fv L) (hb : b ≤ base) : rG w b fv L := ⟨h.s.low hb, fun x hx => (h.o x hx).base hb, h.ap⟩
theorem Rw {C base : Nat} {fv : Value} {L : List aO} : eC C fun W => rG W base fv L := fun X Y F h u hr => ⟨Rs X Y F h.s u hr, fun x hx => vX X Y F (h.o x hx) u hr, h.ap⟩
theorem aK.cells {α : Type} {f : α → List Value} {e : TypeId} {k base : Nat} {W : World} {v : Value} {l : List α} (h : aK f e k W base v l) {j : Nat} (hj : v.ownBlock = some j) {o : Obj} (ho : W.heap[j]? = some o) : o.isCells = true := by
 rcases h.2 with ⟨rfl, -⟩ | ⟨g, cap, cur, rfl, -, hg, -⟩
 ·cases hj
 cases hj
 rw [hg] at ho; cases ho; rfl
structure pM (w : World) (N most : Nat) (v : Value) (L' : List aO) (pre : List (Nat × eE)) (W : World) : Prop where
 b3 : W.heap[w.heap.size]? = some (.cells #[.int .i64 most] 3 (0, 0))
 b5 : W.heap[w.heap.size + 1]? = some (.cells #[v] 22 (0, 0))
 o : rG W N v L'
 fr : L'.map aO.fr = pre.map (·.2)
 le : pre.length ≤ most
 upd : aB [] w W
 sz : N ≤ W.heap.size
theorem wC {w : World} {N most C : Nat} {v : Value} {L' : List aO} {pre : List (Nat × eE)} (hC : w.heap.size ≤ C) : eC C (pM w N most v L' pre) := fun X Y F h u hr =>
 ⟨pG rfl X Y F h.b3 u hr, pG rfl X Y F h.b5 u hr, Rw X Y F h.o u hr, h.fr, h.le, Ar hC X Y F h.upd u hr, bG h.sz u.size⟩
theorem pM.keep {w X Y : World} {N most : Nat} {v : Value} {L' : List aO} {pre : List (Nat × eE)} (h : pM w N most v L' pre X) (u : aB [] X Y) : pM w N most v L' pre Y := wC (aQ _) X Y [] h u (by simp)
theorem pM.len {w X : World} {N most : Nat} {v : Value} {L' : List aO} {pre : List (Nat × eE)} (h : pM w N most v L' pre X) : L'.length = pre.length := by
 have := bM List.length h.fr
 simpa using this
theorem pM.next {w W W6 w4 : World} {N most : Nat} {v v4 : Value} {L' : List aO} {pre : List (Nat × eE)} (h : pM w N most v L' pre W) (hN : w.heap.size + 1 < N) {x : aO} {i : Nat} (ho : Ow W N x.dv x.d) (hap : ∀ g, x.dv.ownBlock = some g → v.ownBlock ≠ some g) (hlt : pre.length < most) (hu6 : aB [] W W6)
  (ho4 : qR w4 N v4 (L' ++ [x])) (hg4 : W6.grownBy w4 v.ownBlock) (hn4 : v4.ownBlock = v.ownBlock ∨ ∀ g, v4.ownBlock = some g → W6.heap.size ≤ g) :
  pM w N most v4 (L' ++ [x]) (pre ++ [(i, x.fr)]) (w4.setCell ⟨w.heap.size + 1, 0, none⟩ v4) ∧ KeepsOthers W (w4.setCell ⟨w.heap.size + 1, 0, none⟩ v4) ∧ jS w.heap.size W (w4.setCell ⟨w.heap.size + 1, 0, none⟩ v4) := by
 have hug := aB.ofGrown hg4
 have h6 := h.keep hu6
 have hob : ∀ g, v.ownBlock = some g → N ≤ g ∧ g < W.heap.size := fun g hg => h.o.s.own.block g hg
 have hA : dP w4 N v4 (L' ++ [x]) := h6.o.s.app hg4 ho4 hn4 (by simp only [aM, forall_eq]; exact ho.rd.keep hu6) (by simp only [aM, forall_eq]; exact fun _ g hg => ⟨(ho.block g hg).1, hap g hg⟩)
 have hdO : ∀ y ∈ L' ++ [x], Ow W N y.dv y.d ∧ ∀ g, y.dv.ownBlock = some g → v.ownBlock ≠ some g := fun y hy => by
  rcases bK.1 hy with q | q
  ·exact ⟨h.o.o y q, h.o.ap y q⟩
  rw [aM.1 q]; exact ⟨ho, hap⟩
 have hO : rG w4 N v4 (L' ++ [x]) := ⟨hA, fun y hy => ((hdO y hy).1.upd hu6 (by simp)).upd hug fun j hj e => (hdO y hy).2 j e (by simpa using hj), fun y hy g hg q => by
  rcases hn4 with e | e
  ·exact (hdO y hy).2 g hg (by rw [← e]; exact q)
  have := e g q; have := ((hdO y hy).1.block g hg).2; have := hu6.size; omega⟩
 have us : aB [w.heap.size + 1] w4 (w4.setCell ⟨w.heap.size + 1, 0, none⟩ v4) := (aB.refl _ _).setCell (by simp) _ _
 have hne : ∀ (B : Nat), N ≤ B → B ∉ [w.heap.size + 1] := fun B hB q => by rw [aM] at q; omega
 have hot : ∀ (b : Nat) (o : Obj), b < N → W.heap[b]? = some o → w4.heap[b]? = some o := fun b o hb hh => (hug.block b (dN (aH hh) hu6.size) fun q => by have := (hob b (by simpa using q)).1; omega).trans (gF hu6 hh)
 have hu4 : aB v.ownBlock.toList W w4 := (hu6.mono (by simp)).trans hug
 refine ⟨⟨?_, ?_, ?_, ?_, ?_, ?_, ?_⟩, ?_, ?_⟩
 ·exact (us.block _ (aH (hot _ _ (by omega) h.b3)) (by simp)).trans (hot _ _ (by omega) h.b3)
 ·exact vW (hot _ _ hN h.b5) _
 ·exact ⟨hO.s.upd us fun i hi => hne i ((hO.s.lt i hi).1), fun y hy => (hO.o y hy).upd us fun j hj e => hne j ((hO.o y hy).block j e).1 hj, hO.ap⟩
 ·rw [eZ, eZ, h.fr]; rfl
 ·rw [bD]; exact hlt
 ·refine ((h.upd.next hu4 fun k hk hlt => ?_)).setCellNew (tQ _) _ _
  have := (hob k (by simpa using hk)).1; omega
 ·rw [Eb]; exact bG h.sz hu4.size
 ·exact ((KeepsOthers.of_upd hu6 (by simp)).trans (KeepsOthers.of_grownBy hg4 fun j o hj ho => h6.o.s.own.cells hj ho)).trans (KeepsOthers.setCell _ _ _)
 exact (jS.u hu6).t ((show jS w.heap.size W6 w4 from ⟨_, hug, fun i hi => by have := (hob i (by simpa using hi)).1; omega⟩).t ⟨_, us, by simp⟩)
theorem Jg (w : World) (most : Nat) (hmost : most ≤ 100000) {base lg v : Nat} {fv sv : Value} {L : List aO} {sz : List Nat} (h : gC w base lg v fv sv L sz) (hlen : L.length ≤ 100000) (hsm : ∀ x ∈ L, x.d.length ≤ 100000) :
  Calls Tryz.prog 17 #[.pointer (some ⟨lg, 0, none⟩), .int .i64 most] w fun e w' => ∃ v' L', e = .returned v' ∧ rG w' w.heap.size v' L' ∧ L'.map aO.fr = (L.map aO.fr).take most ∧ aB [] w w' := by
 refine (jJ (n := 6)).1 ?_
 refine callsIn_of_wp_marks Tryz.func17 rfl trivial ?_ rfl
 simp only [Tryz.ntmps17, lI, eG, lJ, Nat.reduceAdd, Nat.reduceSub, DT, DU, DV, DW, List.nil_append, List.cons_append]
 gi_wp2
 refine ⟨trivial, (jJ.2 (Je _ _)).mono ?_⟩
 rintro e w' ⟨rfl, rfl⟩
 have hb3 := jG (.cells #[.slice none 0 0] 22 (0, 0)) (aX w (.cells #[.int .i64 most] 3 (0, 0)))
 have hb5 := aX (w.alloc (.cells #[.int .i64 most] 3 (0, 0))) (.cells #[.slice none 0 0] 22 (0, 0))
 have hu1 : aB [] w ((w.alloc (.cells #[.int .i64 most] 3 (0, 0))).alloc (.cells #[.slice none 0 0] 22 (0, 0))) := ((aB.refl [] w).alloc _).alloc _
 rw [gW] at hb5
 try rw [gW]
 try rw [gW]
 generalize hW1 : (w.alloc (.cells #[.int .i64 most] 3 (0, 0))).alloc (.cells #[.slice none 0 0] 22 (0, 0)) = W1 at *
 have hbm := aX W1 (.cells #[.pointer (some ⟨lg, 0, none⟩)] 40 (0, 0))
 have hs1 : W1.heap.size = w.heap.size + 1 + 1 := by rw [← hW1]; simp
 rw [hs1] at hbm
 try rw [hs1]
 have hb3 := jG (.cells #[.pointer (some ⟨lg, 0, none⟩)] 40 (0, 0)) hb3
 have hb5 := jG (.cells #[.pointer (some ⟨lg, 0, none⟩)] 40 (0, 0)) hb5
 have hu := hu1.alloc (.cells #[.pointer (some ⟨lg, 0, none⟩)] 40 (0, 0))
 clear hu1 hW1 hs1
 generalize W1.alloc (.cells #[.pointer (some ⟨lg, 0, none⟩)] 40 (0, 0)) = W0 at *
 gi_wp2
 have hsz : w.heap.size + 1 + 1 < W0.heap.size := aH hbm
 refine CM (gf := 118) (lb := #[.pointer (some ⟨w.heap.size + 1 + 1, 0, none⟩)]) rfl (enters_of Tryz.func118 (by kernel_rfl) rfl)
  (Jd 5 (N := w.heap.size) (fun i hi => (h.lt i hi).2) (aD hbm 0) (h.keep hu) hlen hsm) jS.t (fun W l o o' hl _ _ => jS.b W l o' (by omega)) (aB.refl [] _) (fun _ _ _ _ ⟨_, e, _⟩ => by rw [e]; rfl)
  (fun pre W => ∃ v L', pM w W0.heap.size most v L' pre W)
  (fun c pre W => c = .exit 0 ∧ ∃ pre0 x v L', pre = pre0 ++ [x] ∧ pre0.length = most ∧ pM w W0.heap.size most v L' pre0 W)
  (fun _ => eC.ex fun _ => eC.ex fun _ => wC (by omega))
  (fun _ _ => rB.and (eC.ex fun _ => eC.ex fun _ => eC.ex fun _ => eC.ex fun _ => rB.and (rB.and (wC (by omega)))))
  ⟨_, [], hb3, hb5, ⟨dP.nil _ _, by simp, by simp⟩, rfl, dH _, hu, aQ _⟩
  (fun pre x a' W => ∃ (Bx : Nat) (v' v : Value) (L' : List aO), (a' = { tmps := #[.pointer (some ⟨lg, 0, none⟩), .int .i64 most, undef, .pointer (some ⟨w.heap.size, 0, none⟩), .slice none 0 0, .pointer (some ⟨w.heap.size + 1, 0, none⟩), .int .i64 x.1, .pointer (some ⟨Bx, 0, none⟩), .pointer (some ⟨lg, 0, none⟩), .func (.func 118) #[] #[.pointer (some ⟨w.heap.size + 1 + 1, 0, none⟩)], .int .i64 x.1, .agg #[.int .u8 x.2.1.toNat, v'], undef, undef, undef, undef, undef, undef, undef, undef, undef, undef, undef, undef, undef, undef, undef, undef, undef], defers := [] } ∧ ∀ g, v'.ownBlock = some g → v.ownBlock ≠ some g) ∧ W.heap[Bx]? = some (nH x.2.1 v') ∧ Ow W W0.heap.size v' x.2.2 ∧ pM w W0.heap.size most v L' pre W)
  (fun _ _ _ => eC.ex fun _ => eC.ex fun _ => eC.ex fun _ => eC.ex fun _ => rB.and ((pG rfl).and (vX.and (wC (by omega)))))
  ?assign ?body ?done ?stop
 case assign =>
  rintro l pre x vs V W K ⟨v, L', hi⟩ hvw ⟨v', rfl, ho⟩ hK
  obtain ⟨xa, xc, xm, hxm, rfl⟩ := ho.sliceM
  clear hxm
  gi_wp2
  have hu6 := (aB.refl [] W).alloc (nH x.2.1 (.slice xa xm xc))
  refine hK _ _ (KeepsOthers.alloc _ _) (jS.u hu6) ⟨v, L', (hi.keep hvw).keep hu6⟩ ⟨W.heap.size, .slice xa xm xc, v, L', ⟨by first | rfl | simp, fun g hg hv => ?_⟩, aX _ _, (ho.base hi.sz).upd hu6 (by simp), (hi.keep hvw).keep hu6⟩
  have h1 := (ho.block g hg).1
  have h2 := (hi.o.s.own.block g hv).2
  omega
 case body =>
  rintro l pre x a' W - ⟨Bx, v', v, L', ⟨rfl, hap⟩, hbx, ho, hi⟩ hpre
  obtain ⟨hx1, hx2, hx3⟩ := Jb hpre
  obtain ⟨i, y⟩ := x
  dsimp only at hx1 hx2 hx3 hbx ho
  obtain ⟨q, hq⟩ : ∃ q, q = pre.length := ⟨_, rfl⟩
  rw [← hq] at hx1
  subst hx1
  have hll := hi.len
  obtain ⟨xa, xc, xm, hxm, rfl⟩ := ho.sliceM
  clear hxm
  obtain ⟨va, vc, hv⟩ := hi.o.s.own.slice
  rw [hll, ← hq] at hv
  subst hv
  have hqm : i ≤ most := by have := hi.le; omega
  have c3 := aD hi.b3 0
  have c5 := aD hi.b5 0
  have d0 := aD hbx 0
  have d1 := aD hbx 1
  have f5 := aZ hi.b5 0
  simp only [bA, bB, bS] at c3 c5 d0 d1
  have HI := aA hi
  have HO := aA (aC ho hap)
  have HQ := aA hq
  clear hi ho hap hpre hx2 hx3 hll hbx
  by_cases hm : most ≤ i
  ·obtain rfl : i = most := by omega
   clear hq
   gi_wp2
   exact ⟨KeepsOthers.refl _, rfl, pre, _, _, _, rfl, HQ.out.symm, HI.out⟩
  have hm' : ¬ (most : Int) ≤ (i : Int) := by omega
  have hm2 : (i : Int) < (most : Int) := by omega
  clear hq
  have hcell : ∀ X, (W.alloc X).cell? ⟨w.heap.size + 1, 0, none⟩ = some (.slice va i vc) := fun X => aD (jG X HI.out.b5) 0
  gi_wp2_with (first
   | (gi_at_builtin; refine Rv iH rfl _ _ rfl (base := W0.heap.size) (l := L') (r := [⟨y.1, .slice xa xm xc, y.2⟩]) (by rfl) (HI.out.o.s.own.upd ((aB.refl [] W).alloc _) (by simp)) (by rfl) (iS iH (ty := 25) (B := W.heap.size) (nC _ _ _ rfl)) (uK (w := W) (by simp only [aM, forall_eq]; exact HO.out.1.rd)) ?c1 ?c2 ?c3 ?_)
   | fail)
  case c1 => have := HI.out.len; have := HQ.out; simp; omega
  case c2 => have := HI.out.len; have := HQ.out; simp; omega
  case c3 => have := HI.out.sz; omega
  intro v4 w4 ho4 hg4 hn4
  have HN := aA (HI.out.next (by omega) (x := ⟨y.1, .slice xa xm xc, y.2⟩) (i := i) HO.out.1 HO.out.2 (by have := HQ.out; omega) ((aB.refl [] W).alloc _) ho4 hg4 (hn4.imp id fun q g hg => by simpa using q g hg))
  have g5 : w4.frozen? ⟨w.heap.size + 1, 0, none⟩ = false ∧ ∃ o, w4.cell? ⟨w.heap.size + 1, 0, none⟩ = some o := by
   have hb := ((aB.ofGrown hg4).block (w.heap.size + 1) (dN (aH HI.out.b5) ((aB.refl [] W).alloc _).size) fun q => by have := (HI.out.o.s.own.block _ (by simpa using q)).1; omega).trans (jG _ HI.out.b5)
   exact ⟨aZ hb 0, _, aD hb 0⟩
  obtain ⟨g5, o5, k5⟩ := g5
  obtain ⟨a4, c4, m4, hm4, rfl⟩ := ho4.sliceM
  clear ho4 hg4 hn4 hm4
  gi_wp2
  exact ⟨HN.out.2.1, HN.out.2.2, _, _, HN.out.1⟩
 case done =>
  rintro D W hD ⟨v, L', hi⟩ hK
  obtain ⟨va, vc, vm, hvm, rfl⟩ := hi.o.s.own.sliceM
  have c5 := aD hi.b5 0
  simp only [bA, bB] at c5
  clear hvm
  gi_wp2
  refine ⟨by simp, .inl ⟨_, _, rfl, run_takeDeferred hK, ?_⟩⟩
  have hi2 := wC (aQ _) W (W.putObj D (.deferred none)) [D] hi (aB.putObj D _) (fun r hr => by rw [aM] at hr; subst hr; exact ⟨by omega, _, hK, rfl⟩)
  refine ⟨_, results_tmp rfl _ _ _, .slice va vm vc, L', rfl, hi2.o.low (by omega), ?_, hi2.upd⟩
  have := hi2.le
  rw [yB] at this
  rw [hi2.fr, Dm, dY this]
 case stop =>
  rintro D c pre W hD hpre ⟨rfl, pre0, x, v, L', rfl, hl0, hi⟩ hK
  obtain ⟨va, vc, vm, hvm, rfl⟩ := hi.o.s.own.sliceM
  have c5 := aD hi.b5 0
  simp only [bA, bB] at c5
  clear hvm
  gi_wp2
  refine ⟨by simp, .inl ⟨_, _, rfl, run_takeDeferred hK, ?_⟩⟩
  have hi2 := wC (aQ _) W (W.putObj D (.deferred none)) [D] hi (aB.putObj D _) (fun r hr => by rw [aM] at hr; subst hr; exact ⟨by omega, _, hK, rfl⟩)
  refine ⟨_, results_tmp rfl _ _ _, .slice va vm vc, L', rfl, hi2.o.low (by omega), ?_, hi2.upd⟩
  rw [hi2.fr, (Jb hpre).2.2, hl0]
end Go.Proofs.YtgpefiacbipfpaaGreatDoor
