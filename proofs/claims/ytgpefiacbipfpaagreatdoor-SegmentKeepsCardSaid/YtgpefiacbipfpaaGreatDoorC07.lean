/- The device's Flush. A new device. The device's Crash. append(b, make([]byte, n)...), for bytes of the call's own. -/
import Derived.Laws.CopyRow
import Derived.Laws.MakeOwn
import Derived.Carry
import Derived.Lib.AppendZerosOnto
import Derived.Test.YtgpefiacbipfpaaGreatDoorC06
namespace Go.Proofs.YtgpefiacbipfpaaGreatDoor
open Go.RowKit Go.Maps
theorem wpList_clear_own {H : Type} {w : World} {ops : Array Oper} {rest : List Oper} {o : Oper} {a : Act} {Q : Exit → Act → World → Prop} (hg : o.guard = none) (m : Operand) (t : TypeId) (hop : o.op = Op.call { callee := Callee.builtin Builtin.clear, args := #[m], argTypes := #[t] })
  {k e : TypeId} (ht : Tryz.prog.underlying t = some (.map k e)) {R : Value → Option (DataW H × List MemPlace)} {b n : Nat} {D : DataW H} (hm : a.eval m = .map (some b)) (hown : w.ownsMap Tryz.prog k R b n D)
  (hK : ∀ w', w'.ownsMap Tryz.prog k R b 0 (.map []) → Upd [b] w w' → wpList Tryz.prog ops Q rest (a.put o.dst (.tuple #[])) w') : wpList Tryz.prog ops Q (o :: rest) a w := by
 refine wpList_plain hg fun K' hK' => ?_
 obtain ⟨es, clock, hb, F, hs, rfl⟩ := hown
 have hrun : (Builtin.clear_ #[t] o.type #[.map (some b)]).run Tryz.prog w = .ok (.tuple #[]) { w with heap := w.heap.setIfInBounds b (.map #[] clock) } := by
  simp [Builtin.clear_, run_underlying ht, MapKept.run_getObj_map hb, MapKept.run_setObj_map _ hb, Result.andThen]
 unfold Oper.wp
 simp [execOp, hop, resolve, invoke, builtin, hm, hrun, Result.andThen]
 refine hK' _ _ (hK _ ⟨#[], clock, Go.ChangeMaps.heap_setBlock_same hb _, ⟨by simp, MapKept.stamped_empty _, by simp⟩, Nat.le_refl _, rfl⟩ ?_)
 refine ⟨rfl, rfl, ?_, fun j hj hn => Go.ChangeMaps.heap_setBlock_other hb _ (by simpa using hn)⟩
 simp
theorem flatK_set : ∀ (l : List Bs) (n : Nat) (b : Bs), n < l.length → flatG cK (l.set n b) = (flatG cK l).take (n * 512) ++ cK b ++ (flatG cK l).drop (n * 512 + 512)
 | [], n, b, h => by simp at h
 | x :: l, 0, b, _ => by
  have : (flatG cK (x :: l)) = cK x ++ flatG cK l := by simp [flatG]
  rw [this, Nat.zero_mul, List.take_zero, List.nil_append, Nat.zero_add, List.drop_left' (cK_len x)]
  simp [flatG]
 | x :: l, n + 1, b, h => by
  have e : (flatG cK (x :: l)) = cK x ++ flatG cK l := by simp [flatG]
  have e2 : (flatG cK ((x :: l).set (n + 1) b)) = cK x ++ flatG cK (l.set n b) := by simp [flatG]
  have h1 : (n + 1) * 512 = (cK x).length + n * 512 := by rw [cK_len]; omega
  rw [e, e2, flatK_set l n b (by simpa using h), h1, List.take_length_add_append, Nat.add_assoc, List.drop_length_add_append]
  simp
theorem step_store_K {ops : Array Oper} {o : Oper} {a : Act} {w : World} {K : Act → World → Prop} {Q : Exit → Act → World → Prop} {E : Prop} (hgd : o.guard = none) (x y : Operand) (hop : o.op = Op.store 121 x y) {B n : Nat} {l : List Bs} {b : Bs} {ty : TypeId}
  (hx : a.eval x = .pointer (some ⟨B, n * 512, none⟩)) (hy : a.eval y = .agg (cK b).toArray) (hb : w.heap[B]? = some (.cells (flatG cK l).toArray ty (0, 0))) (hn : n < l.length)
  (hK : K (a.put o.dst undef) (w.setRow B (flatG cK (l.set n b)).toArray)) : if Region.wanted o (yielded ops a.tmps) = true then Oper.wp Tryz.prog o a w K Q else E := by
 have hw : Region.wanted o (yielded ops a.tmps) = true := by simp [Region.wanted, hgd]
 rw [if_pos hw]
 have hl := flatG_len TK l
 have h1 : ∀ v ∈ cK b, v.oneCell' = true := oneK [b] b (by simp)
 have hr := run_storeCells_at Tryz.prog B (n * 512) ty (cK b) 0 (flatG cK l).toArray w hb (by rw [cK_len, List.size_toArray, hl]; omega) h1
 have hst : (Instr.storeAt 121 (.pointer (some ⟨B, n * 512, none⟩)) (.agg (cK b).toArray)).run Tryz.prog w = .ok () (w.setRow B (flatG cK (l.set n b)).toArray) := by
  have hi := sizeK
  cases hq : Tryz.prog.info? 121 with
  | none => simp [hq] at hi
  | some i =>
   have hs : i.size = 512 := by simpa [hq] using hi
   rw [flatK_set l n b hn]
   simp only [Nat.add_zero, cK_len] at hr
   simp only [Instr.storeAt, Instr.sureAddr, Sem.run_bind, Sem.run_pure, Result.andThen_ok]
   simp [storeVar, sizeOf, typeInfo, hq, Value.cells, hs, cK_len, hr]
 unfold Oper.wp
 simp only [execOp, hop, hx, hy, Sem.run_bind, hst, Result.andThen_ok]
 exact hK
theorem upd_setRow (w : World) (b : Nat) (cs : Array Value) : Upd [b] w (w.drew.setRow b cs) := by
 refine ⟨rfl, rfl, ?_, fun k hk hn => ?_⟩
 ·show w.heap.size ≤ (w.heap.modify b _).size
  rw [Array.size_modify]
  exact Nat.le_refl _
 ·show (w.heap.modify b _)[k]? = _
  rw [Array.getElem?_modify, if_neg (fun e => hn (by rw [e]; exact List.mem_singleton.2 rfl))]
def midL (D : Dev) (L : List (Nat × Value)) (left : Lit → Bool) : List Bs := (List.range D.n).map fun i => if (getA L i).isSome && !left (.int .i64 i) then (D.blk i).view else (D.blk i).safe
theorem midL_len (D : Dev) (L : List (Nat × Value)) (left : Lit → Bool) : (midL D L left).length = D.n := by simp [midL]
theorem midL_start (D : Dev) (L : List (Nat × Value)) : midL D L (Maps.has (dataI L)) = safeL D := by
 unfold midL safeL
 apply List.map_congr_left
 intro i _
 rw [dataI_eq, has_dataA keyI]
 cases (getA L i).isSome <;> simp
theorem midL_end {w : World} {p : Nat} {D : Dev} {sb mb : Nat} {L : List (Nat × Value)} {ops : Int} (h : DevR w p D sb mb L ops) {left : Lit → Bool} (hl : ∀ kl, left kl = false) : midL D L left = (List.range D.n).map fun i => (D.blk i).view := by
 unfold midL
 apply List.map_congr_left
 intro i _
 rw [hl]
 cases hg : getA L i with
 | none => simp [view_safe (h.rest i hg)]
 | some v => simp
theorem midL_step (D : Dev) {L : List (Nat × Value)} {n : Nat} {v : Value} (hm : getA L n = some v) (left : Lit → Bool) : midL D L (fun z => left z && !z.sameKey (.int .i64 n)) = (midL D L left).set n (D.blk n).view := by
 apply List.ext_getElem (by simp [midL])
 intro i h1 h2
 rw [List.getElem_set]
 simp only [midL, List.getElem_map, List.getElem_range]
 have e : (Lit.int .i64 (i : Int)).sameKey (.int .i64 (n : Int)) = decide (i = n) := keyI.same i n
 rw [e]
 by_cases hi : n = i
 ·subst hi
  simp [hm]
 ·rw [if_neg hi]
  have : decide (i = n) = false := by simp; omega
  rw [this]
  simp
theorem next_I {L : List (Nat × Value)} {x : Int} {v : Value} (hat : ∀ zd, (dataI L).atKey (.int .i64 x) zd = .held v) : ∃ n : Nat, x = n ∧ (n, v) ∈ L := by
 have h := hat (.map [])
 unfold dataI DataW.atKey at h
 dsimp only at h
 split at h
 ·rename_i p hf
  have hm := List.mem_of_find?_eq_some hf
  have hk := List.find?_some hf
  obtain ⟨q, hq, rfl⟩ := List.mem_map.1 hm
  dsimp only at h hk
  cases h
  refine ⟨q.1, ?_, hq⟩
  have : decide (IntKind.i64 = IntKind.i64 ∧ (q.1 : Int) = x) = true := hk
  simp only [decide_eq_true_eq] at this
  exact this.2.symm
 ·cases h
theorem DevR.flushed {w w' : World} {p : Nat} {D : Dev} {sb mb : Nat} {L : List (Nat × Value)} {ops : Int} (h : DevR w p D sb mb L ops) (hu : Upd [sb, mb] w w')
  (hs : w'.heap[sb]? = some (.cells (flatG cK ((List.range D.n).map fun i => (D.blk i).view)).toArray 121 (0, 0))) (hm : w'.ownsMap (H := Value) Tryz.prog 3 opq mb 0 (.map [])) :
  DevR w' p { D with blk := exec1 D.blk .flush } sb mb [] ops := by
 have hnd := h.nodup
 simp only [footD, List.nodup_cons, List.mem_cons, not_or] at hnd
 obtain ⟨⟨a1, a2, -⟩, ⟨a4, -⟩, -⟩ := hnd
 refine ⟨(hu.block p (lt_of_blk h.box) (by simp; exact ⟨a1, a2⟩)).trans h.box, hs, hm, List.Pairwise.nil, by simp, fun i _ => rfl, ?_, h.n1, h.n2, h.f1, h.f2, h.sized.exec1 trivial, fun i => Nat.zero_le _⟩
 simp only [footD, List.map_nil, List.nodup_cons, List.mem_cons, List.not_mem_nil, or_false, not_or, not_false_eq_true, List.nodup_nil, and_true]
 exact ⟨⟨a1, a2⟩, a4⟩
set_option maxRecDepth 100000 in
set_option maxHeartbeats 4000000 in
theorem flush_ok (w : World) {p : Nat} {D : Dev} {F : List Nat} (h : DevAt w p D F) (hwr : D.wr ≤ 137438953472) :
  Calls Tryz.prog 105 #[.pointer (some ⟨p, 0, none⟩)] w (WritePost w p D F [.flush]) := by
 obtain ⟨sb, mb, L, ops, h, rfl⟩ := h
 have HO := Lib.hid (operate_ok w h 0 (by have := h.n1; omega))
 have HD := Lib.hid h
 have hn2 := h.n2
 have hpF : p ∈ footD p sb mb L := by simp [footD]
 clear h
 go_enter Tryz.func105, Tryz.ntmps105
 go_wp2_with fail
 refine HO.out.mono ?_
 rintro r w1 ⟨e, fuse, down, ops', rfl, T⟩
 have HT := Lib.hid T
 have HR := Lib.hid (HD.out.ticked T)
 by_cases he : e = 0
 ·subst he
  have c1 := cell_blk T.box 1
  simp only [List.getElem?_toArray, List.getElem?_cons_zero, List.getElem?_cons_succ] at c1
  have hmap := HR.out.map
  have hfoot := HR.out.nodup
  simp only [footD, List.nodup_cons, List.mem_cons, not_or] at hfoot
  have hlen : ∀ i, (D.blk i).pend.length ≤ 137438953472 := fun i => Nat.le_trans (HD.out.cnt i) hwr
  have hsb := lt_of_blk HR.out.safe
  have hmb := World.ownsMap.lt HR.out.map
  have hpl := lt_of_blk HR.out.box
  have Hlen := Lib.hid hlen
  clear T hlen
  go_wp2_with (first
   | (at_range; refine wpList_range_own _ rfl _ 117 rfl 3 116 lawI Tryz.underlying117 _ mb _ _ rfl hmap ?_; intro w0 hrg0 hg0 hs0)
   | fail)
  go_frame
  go_loopw [4] (fun _ wr => ∃ (left : Lit → Bool) (cnt : Nat), wr.ranges (H := Value) Tryz.prog 3 opq mb w1.heap.size L.length (dataI L) left cnt ∧ Hid (wr.heap[sb]? = some (.cells (flatG cK (midL D L left)).toArray 121 (0, 0))) ∧ Hid (Upd [sb] w1 wr))
   (fun _ wr => wr.rangeLeft mb w1.heap.size)
  case atStart =>
   refine ⟨_, _, hrg0, Lib.hid ?_, Lib.hid ⟨hg0.os, hg0.output, hg0.size, fun k hk _ => hg0.block k hk (by simp)⟩⟩
   rw [midL_start, hg0.block sb hsb (by simp)]
   exact HR.out.safe
  case round =>
   obtain ⟨left, cnt, hrg, HS, HU⟩ := hrel
   have c1 : wr.cell? ⟨p, 1, none⟩ = some (.map (some mb)) := (World.cell?_of_block (HU.out.block p hpl (by simp; exact hfoot.1.1))).trans c1
   go_wp2_with (first
    | (at_next; refine wpList_next_ranges _ rfl _ rfl 3 lawI opq (Value.int .i64) (fun v : Value => v) (fun key kl hk => by obtain ⟨x, hx, -⟩ := keyOf_int_inv Tryz.underlying3 hk; exact ⟨x, hx⟩) (fun v y hv => ⟨v, rfl⟩) mb w1.heap.size L.length _ _ _ rfl hrg ?_ ?_)
    | fail)
   ·intro hc0 hl0
    have hown := hrg.owns
    clear hrg
    go_wp2_with (first
     | (refine wpList_clear_own (o := ⟨none, _, _, _, _, _⟩) rfl _ 117 rfl Tryz.underlying117 rfl hown ?_; intro w3 hm3 hu3)
     | fail)
    go_ret
    have hu := HU.out.mono (G := [sb, mb]) (fun k hk _ => by simp at hk ⊢; exact .inl hk)
    have hu4 : Upd [sb, mb] w1 w3 := hu.trans (hu3.mono fun k hk _ => by simp at hk ⊢; exact .inr hk)
    have hs4 := HS.out
    have hme : midL D L left = (List.range D.n).map fun i => (D.blk i).view := midL_end HR.out hl0
    rw [hme] at hs4
    have hd := HR.out.flushed hu4 ((hu3.block sb (lt_of_blk hs4) (by simp; exact hfoot.2.1.1)).trans hs4) hm3
    have hTe := HT.out.eff
    refine ⟨0, { n := D.n, blk := exec1 D.blk .flush, fuse := fuse, down := down, wr := D.wr }, _, rfl, ⟨rfl, by simp, .inl ⟨rfl, hTe.up.1, hTe.up.2.1, hTe.up.2.2.1, rfl⟩⟩, ⟨sb, mb, [], ops', hd, rfl⟩, ?_, ?_⟩
    ·refine (HT.out.upd.mono (fun k hk _ => by obtain rfl := List.mem_singleton.1 hk; exact hpF)).trans (hu4.mono fun k hk _ => ?_)
     simp only [List.mem_cons, List.not_mem_nil, or_false] at hk
     rcases hk with rfl | rfl <;> simp [footD]
    ·intro k hk
     simp only [footD, List.map_nil, List.mem_cons, List.not_mem_nil, or_false] at hk ⊢
     rcases hk with rfl | rfl | rfl <;> simp
   ·intro x v kl y1 y2 w2 cnt2 hkey hlk hv hat hrg1 hlt hg1 hs1 hen
    obtain ⟨x', hx', rfl, -⟩ := keyOf_int_inv Tryz.underlying3 hkey
    cases hx'
    simp only [opq, Option.some.injEq, Prod.mk.injEq] at hv
    obtain ⟨rfl, rfl⟩ := hv
    obtain ⟨k, rfl, hm⟩ := next_I hat
    have hgk := getA_of_mem ordI HR.out.srt hm
    obtain ⟨hown, hne, hkn⟩ := HR.out.row (k, v) hm
    dsimp only at hown hne hkn
    obtain ⟨g, c, rfl, hrg2⟩ := hown.lastK hne
    have hU2 : Upd [sb] w1 w2 := Upd.grown HU.out hg1 (fun k hk => by cases hk; exact Nat.le_refl _)
    have hgb := hown.block g rfl
    have hgsb : g ≠ sb := fun e => hfoot.2.1.2 (List.mem_map.2 ⟨(k, _), hm, by simp [blkOfV, Value.ownBlock, e]⟩)
    have c0' := cell_blk HR.out.box 0
    simp only [List.getElem?_toArray, List.getElem?_cons_zero] at c0'
    have c0 : w2.cell? ⟨p, 0, none⟩ = some (.slice (some ⟨sb, 0, none⟩) D.n D.n) := (World.cell?_of_block (hU2.block p hpl (by simp; exact hfoot.1.1))).trans c0'
    have hrg3 : w2.rangeAt g (((D.blk k).pend.length - 1) * 512) (cK ((D.blk k).pend.getLast hne)) := rangeAt_keep hrg2 (hU2.block g hgb.2 (by simp; exact hgsb))
    have hpos : 0 < (D.blk k).pend.length := List.length_pos_iff.2 hne
    have hcap := Hlen.out k
    have hvw : (D.blk k).view = (D.blk k).pend.getLast hne := view_pend hne
    have hS2 : w2.heap[sb]? = some (.cells (flatG cK (midL D L left)).toArray 121 (0, 0)) := (hg1.block sb (lt_of_blk HS.out) (by simp; omega)).trans HS.out
    have hm0 : wr.rangeLeft mb w1.heap.size = cnt := hrg.left_eq
    generalize (D.blk k).pend.getLast hne = lst at *
    generalize (D.blk k).pend.length = m at *
    have hm1 : (m : Int) - 1 = ((m - 1 : Nat) : Int) := by omega
    generalize hm1' : m - 1 = m1 at *
    have hw1 : IntKind.i64.wrap (m1 : Int) = (m1 : Int) := IntWalk.i64_in _ (by omega)
    have l1 : (m1 : Int) < (m : Int) := by omega
    have l2 : (k : Int) < (D.n : Int) := by omega
    clear hown hrg2 hrg hkey hlk hat hg1 hs1
    have hu105 := Tryz.underlying121
    have hi105 : (Tryz.prog.info? 121).map (·.size) = some (cK lst).length := by rw [cK_len]; exact sizeK
    have hcK : 0 < (cK lst).length := by rw [cK_len]; omega
    have hu3 : Upd [sb] w2 (w2.drew.setRow sb (flatG cK ((midL D L left).set k lst)).toArray) := upd_setRow _ _ _
    go_wp2_with fail
    refine wp_region_noPanic ?_
    refine wp_region_held_drew (S := fun w' => w'.cell? ⟨p, 0, none⟩ = some (.slice (some ⟨sb, 0, none⟩) D.n D.n) ∧ w'.rangeAt g (m1 * 512) (cK lst)) (by kernel_rfl) (heldW (Upd.refl [] w2).drew (by simp) (by simp) hcK ⟨c0, hrg3⟩) (fun hHeld => ?_)
    refine wpAnyH_take (i := 0) (oi := ⟨some 21, _, _, _, _, _⟩) (v := .pointer (some ⟨p, 0, none⟩)) rfl (by kernel_rfl) (by kernel_rfl) (by kernel_rfl) (fun _ _ _ h => h) (Or.inl ⟨by rfl, by (intro W hSW; obtain ⟨hS1, hS2⟩ := hSW; go_simp)⟩) hHeld ?_
    simp only [Act.put, List.setIfInBounds_toArray, List.set_cons_zero, List.set_cons_succ]
    refine wpAnyH_take (i := 1) (oi := ⟨some 22, _, _, _, _, _⟩) (v := .pointer (some ⟨p, 0, none⟩)) rfl (by kernel_rfl) (by kernel_rfl) (by kernel_rfl) (fun _ _ _ h => h) (Or.inl ⟨by rfl, by (intro W hSW; obtain ⟨hS1, hS2⟩ := hSW; go_simp)⟩) hHeld ?_
    simp only [Act.put, List.setIfInBounds_toArray, List.set_cons_zero, List.set_cons_succ]
    refine wpAnyH_take (i := 2) (oi := ⟨some 23, _, _, _, _, _⟩) (v := .pointer (some ⟨p, 0, none⟩)) rfl (by kernel_rfl) (by kernel_rfl) (by kernel_rfl) (fun _ _ _ h => h) (Or.inl ⟨by rfl, by (intro W hSW; obtain ⟨hS1, hS2⟩ := hSW; go_simp)⟩) hHeld ?_
    simp only [Act.put, List.setIfInBounds_toArray, List.set_cons_zero, List.set_cons_succ]
    refine wpAnyH_take (i := 3) (oi := ⟨some 24, _, _, _, _, _⟩) (v := .slice (some ⟨sb, 0, none⟩) D.n D.n) rfl (by kernel_rfl) (by kernel_rfl) (by kernel_rfl) (fun _ _ _ h => h) (Or.inl ⟨by rfl, by (intro W hSW; obtain ⟨hS1, hS2⟩ := hSW; go_simp)⟩) hHeld ?_
    simp only [Act.put, List.setIfInBounds_toArray, List.set_cons_zero, List.set_cons_succ]
    refine wpAnyH_take (i := 4) (oi := ⟨some 25, _, _, _, _, _⟩) (v := .int .i64 k) rfl (by kernel_rfl) (by kernel_rfl) (by kernel_rfl) (fun _ _ _ h => h) (Or.inl ⟨by rfl, by (intro W hSW; obtain ⟨hS1, hS2⟩ := hSW; go_simp)⟩) hHeld ?_
    simp only [Act.put, List.setIfInBounds_toArray, List.set_cons_zero, List.set_cons_succ]
    refine wpAnyH_take (i := 5) (oi := ⟨some 26, _, _, _, _, _⟩) (v := .slice (some ⟨g, 0, none⟩) m c) rfl (by kernel_rfl) (by kernel_rfl) (by kernel_rfl) (fun _ _ _ h => h) (Or.inl ⟨by rfl, by (intro W hSW; obtain ⟨hS1, hS2⟩ := hSW; go_simp)⟩) hHeld ?_
    simp only [Act.put, List.setIfInBounds_toArray, List.set_cons_zero, List.set_cons_succ]
    refine wpAnyH_take (i := 6) (oi := ⟨some 27, _, _, _, _, _⟩) (v := .slice (some ⟨g, 0, none⟩) m c) rfl (by kernel_rfl) (by kernel_rfl) (by kernel_rfl) (fun _ _ _ h => h) (Or.inl ⟨by rfl, by (intro W hSW; obtain ⟨hS1, hS2⟩ := hSW; go_simp)⟩) hHeld ?_
    simp only [Act.put, List.setIfInBounds_toArray, List.set_cons_zero, List.set_cons_succ]
    refine wpAnyH_take (i := 7) (oi := ⟨some 28, _, _, _, _, _⟩) (v := .int .i64 m) rfl (by kernel_rfl) (by kernel_rfl) (by kernel_rfl) (fun _ _ _ h => h) (Or.inl ⟨by rfl, by (intro W hSW; obtain ⟨hS1, hS2⟩ := hSW; go_simp)⟩) hHeld ?_
    simp only [Act.put, List.setIfInBounds_toArray, List.set_cons_zero, List.set_cons_succ]
    refine wpAnyH_take (i := 8) (oi := ⟨some 29, _, _, _, _, _⟩) (v := .int .i64 m1) rfl (by kernel_rfl) (by kernel_rfl) (by kernel_rfl) (fun _ _ _ h => h) (Or.inl ⟨by rfl, by (intro W hSW; obtain ⟨hS1, hS2⟩ := hSW; go_simp)⟩) hHeld ?_
    simp only [Act.put, List.setIfInBounds_toArray, List.set_cons_zero, List.set_cons_succ]
    refine wpAnyH_take (i := 9) (oi := ⟨some 30, _, _, _, _, _⟩) (v := .pointer (some ⟨g, m1 * 512, none⟩)) rfl (by kernel_rfl) (by kernel_rfl) (by kernel_rfl) (fun _ _ _ h => h) (Or.inl ⟨by rfl, by (intro W hSW; obtain ⟨hS1, hS2⟩ := hSW; go_simp)⟩) hHeld ?_
    simp only [Act.put, List.setIfInBounds_toArray, List.set_cons_zero, List.set_cons_succ]
    refine' wpAnyH_take (i := 10) (oi := ⟨some 31, _, _, _, _, _⟩) (v := _) rfl (by kernel_rfl) (by kernel_rfl) (by kernel_rfl) (fun _ _ _ h => h) (yieldsIf_load_mid (by rfl) _ _ rfl g (m1 * 512) rfl (cK lst) _ ?hS ?hu ?hd ?hi) hHeld ?rest
    case hS => exact fun W hW => hW.2
    case hu => exact hu105
    case hd => rfl
    case hi => exact hi105
    simp only [Act.put, List.setIfInBounds_toArray, List.set_cons_zero, List.set_cons_succ]
    refine wpAnyH_take (i := 11) (oi := ⟨some 32, _, _, _, _, _⟩) (v := .pointer (some ⟨sb, k * 512, none⟩)) rfl (by kernel_rfl) (by kernel_rfl) (by kernel_rfl) (fun _ _ _ h => h) (Or.inl ⟨by rfl, by (intro W hSW; obtain ⟨hS1, hS2⟩ := hSW; go_simp)⟩) hHeld ?_
    simp only [Act.put, List.setIfInBounds_toArray, List.set_cons_zero, List.set_cons_succ]
    refine wpAnyH_ready (rs := [12]) (by kernel_rfl) (by simp) ?_
    refine AllReadyH.cons (o := ⟨none, _, _, _, _, _⟩) rfl (fun K hK => ?_) AllReadyH.nil
    refine step_store_K (by rfl) _ _ (by rfl) (B := sb) (n := k) (l := midL D L left) (b := lst) (by rfl) (by rfl) hS2 (by rw [midL_len]; exact hkn) ?_
    refine hK.out _ _ (heldW hu3 (by simp; exact hfoot.1.1) (by simp; exact hgsb) hcK ⟨c0, hrg3⟩) (fun _ => ?_)
    clear hK K
    refine wpAnyH_done (by kernel_rfl) ?_ _
    refine NoPanic.normal ?_
    simp only [Act.put]
    go_wp2_with fail
    have hg3 : w2.grownBy (w2.drew.setRow sb (flatG cK ((midL D L left).set k lst)).toArray) (some sb) := ⟨hu3.os, rfl, hu3.output, hu3.size, fun i hi hne => hu3.block i hi (by simp; intro e; exact hne (by rw [e]))⟩
    have hrg4 := hrg1.kept hg3 (by simp; exact fun e => hfoot.2.1.1 e.symm) (by simp; omega)
    refine ⟨⟨_, cnt2, hrg4, Lib.hid ?_, Lib.hid (hU2.trans hu3)⟩, ?_⟩
    ·rw [midL_step D hgk, hvw]
     exact setRow_heap _ _ _ _ _ _ hS2
    ·rw [hm0, hrg4.left_eq]
     exact hlt
 ·have he' : ¬ (e : Int) = 0 := by omega
  go_wp2_with fail
  go_ret
  exact ⟨e, _, _, rfl, HT.out.eff.stop [.flush] he, ⟨sb, mb, L, ops', HR.out, rfl⟩, HT.out.upd.mono (fun k hk _ => by obtain rfl := List.mem_singleton.1 hk; exact hpF), fun k hk => .inl hk⟩
end Go.Proofs.YtgpefiacbipfpaaGreatDoor

namespace Go.Proofs.YtgpefiacbipfpaaGreatDoor
open Go.RowKit Go.Maps
def Dev.new (n : Nat) : Dev := ⟨n, fun _ => ⟨zeroB, []⟩, -1, false, 0⟩
theorem flatK_zero (n : Nat) : flatG cK (List.replicate n zeroB) = List.replicate (n * 512) (.int .u8 0) := by
 induction n with
 | zero => simp [flatG]
 | succ n ih =>
  rw [List.replicate_succ]
  show cK zeroB ++ flatG cK (List.replicate n zeroB) = _
  rw [ih, cK_zero, List.replicate_append_replicate]
  congr 1
  omega
theorem madeK (n : Nat) : madeCells nK (n * 512) = (flatG cK (List.replicate n zeroB)).toArray := by
 rw [flatK_zero]
 apply Array.ext
 ·rw [size_madeCells]; simp
 ·intro i h1 h2
  simp only [madeCells, Array.getElem_map, Array.getElem_range, List.getElem_toArray, List.getElem_replicate]
  have h : i % nK.size < nK.size := Nat.mod_lt _ (by rw [size_nK]; omega)
  rw [getElem!_pos nK (i % nK.size) h]
  exact Array.getElem_replicate ..
theorem wpList_make_K {w : World} {ops : Array Oper} {rest : List Oper} {o : Oper} {a : Act} {Q : Exit → Act → World → Prop} (hg : o.guard = none) (x y : Operand) (hop : o.op = Op.makeSlice 116 x y) {n : Nat} (hn : n ≤ 512)
  (hx : a.eval x = .int .i64 n) (hy : a.eval y = .int .i64 n)
  (h : wpList Tryz.prog ops Q rest (a.put o.dst (.slice (some ⟨w.heap.size, 0, none⟩) n n)) (w.alloc (.cells (flatG cK (List.replicate n zeroB)).toArray 121))) : wpList Tryz.prog ops Q (o :: rest) a w := by
 refine wpList_plain hg fun K' hK' => ?_
 obtain ⟨i, h0, h1, h2, h3⟩ := info_parts infoK
 have hrun := run_make (P := Tryz.prog) w 116 121 i _ Tryz.underlying116 h0 h1 .i64 .i64 (n : Int) (n : Int) (by omega) (Int.le_refl _) (by rw [h3]; omega) (by omega)
 have e : madeCells (Value.agg nK).cells (Int.toNat (n : Int) * 512) = (flatG cK (List.replicate n zeroB)).toArray := by
  rw [Int.toNat_natCast]
  exact madeK n
 rw [h2] at hrun
 have e' : madeCells (Value.agg (Array.replicate 512 (.int .u8 0))).cells (Int.toNat (n : Int) * 512) = (flatG cK (List.replicate n zeroB)).toArray := e
 rw [e', Int.toNat_natCast] at hrun
 unfold Oper.wp
 simp only [execOp, hop, hx, hy, Sem.run_bind, hrun, Result.andThen_ok]
 exact hK' _ _ h
def NewPost (w : World) (n : Nat) (r : Ending) (w' : World) : Prop := ∃ (p : Nat) (F : List Nat), r = .returned (.tuple #[.pointer (some ⟨p, 0, none⟩), .int .i64 0]) ∧ DevAt w' p (Dev.new n) F ∧ Upd [] w w' ∧ ∀ k ∈ F, w.heap.size ≤ k
set_option maxRecDepth 100000 in
set_option maxHeartbeats 2000000 in
theorem new_ok (w : World) (n : Nat) (h1 : 64 ≤ n) (h2 : n ≤ 512) : Calls Tryz.prog 31 #[.int .i64 n] w (NewPost w n) := by
 have l1 : ¬ (n : Int) < 64 := by omega
 have l2 : ¬ (512 : Int) < (n : Int) := by omega
 have hmm := @run_makeMap Tryz.prog
 go_enter Tryz.func31, Tryz.ntmps31
 go_wp2_with (first
  | (refine wpList_make_K rfl _ _ rfl h2 rfl rfl ?_)
  | fail)
 go_ret2
 refine ⟨_, _, rfl, ⟨w.heap.size, w.heap.size + 1, [], 0, ?_, rfl⟩, (((Upd.refl [] w).alloc _).alloc _).alloc _, ?_⟩
 ·have e1 : (safeL (Dev.new n)) = List.replicate n zeroB := List.eq_replicate_iff.2 ⟨safeL_len _, fun b hb => by obtain ⟨i, -, rfl⟩ := List.mem_map.1 hb; rfl⟩
  refine ⟨?_, ?_, ?_, List.Pairwise.nil, by simp, fun i _ => rfl, ?_, h1, h2, by simp [Dev.new], by simp [Dev.new], ?_, fun i => Nat.zero_le _⟩
  ·rw [heap_alloc, if_pos (by simp)]; rfl
  ·rw [e1, heap_alloc, if_neg (by simp; omega), heap_alloc, if_neg (by simp), heap_alloc, if_pos rfl]
  ·have h := World.ownsMap_made (H := Value) (w.alloc (.cells (flatG cK (List.replicate n zeroB)).toArray 121)) Tryz.prog 3 opq
   have e2 : (w.alloc (.cells (flatG cK (List.replicate n zeroB)).toArray 121)).heap.size = w.heap.size + 1 := by simp
   rw [e2] at h
   exact owns_upd h ((Upd.refl [] _).alloc _) (by simp)
  ·simp [footD]; omega
  ·intro i b hb
   simp only [Dev.new, Cell.poss, List.mem_cons, List.not_mem_nil, or_false] at hb
   subst hb
   exact zeroB_len
 ·intro k hk
  simp only [footD, List.map_nil, List.mem_cons, List.not_mem_nil, or_false] at hk
  rcases hk with rfl | rfl | rfl <;> omega
end Go.Proofs.YtgpefiacbipfpaaGreatDoor

namespace Go.Proofs.YtgpefiacbipfpaaGreatDoor
open Go.RowKit Go.Maps
def cZ (x : Int) : List Value := [.int .i64 x]
abbrev OwZ (w : World) (base : Nat) (v : Value) (l : List Int) : Prop := OwnG cZ 3 1 w base v l
abbrev RdZ (w : World) (v : Value) (l : List Int) : Prop := RdG cZ 1 w v l
theorem flatZ (l : List Int) : flatG cZ l = l.map fun x => Value.int .i64 x := by
 induction l with
 | nil => rfl
 | cons x l ih => rw [List.map_cons, ← ih]; rfl
theorem flatZ_at (l : List Int) (i : Nat) (hi : i < l.length) : (flatG cZ l)[i]? = some (.int .i64 l[i]) := by
 rw [flatZ, List.getElem?_map, List.getElem?_eq_getElem hi]
 rfl
theorem OwnG.cellZ {w : World} {base : Nat} {v : Value} {l : List Int} (h : OwZ w base v l) : ∃ a c, v = .slice a l.length c ∧ ∀ i (hi : i < l.length), ∃ g, a = some ⟨g, 0, none⟩ ∧ base ≤ g ∧ g < w.heap.size ∧ w.cell? ⟨g, i, none⟩ = some (.int .i64 l[i]) := by
 obtain ⟨h0, h2⟩ := h
 rcases h2 with ⟨rfl, hn⟩ | ⟨g, cap, cur, rfl, hg, hh, r1, r2, r3, r4⟩
 ·exact ⟨none, 0, by rw [hn], fun i hi => by omega⟩
 ·refine ⟨_, _, rfl, fun i hi => ⟨g, rfl, hg, lt_of_blk hh, ?_⟩⟩
  rw [cell_blk hh]
  have := flatZ_at l i hi
  rw [← r4, List.getElem?_take] at this
  split at this
  ·simpa using this
  ·cases this
theorem RdG.cellZ {w : World} {v : Value} {l : List Int} (h : RdZ w v l) : ∃ a c, v = .slice a l.length c ∧ ∀ i (hi : i < l.length), ∃ b o, a = some ⟨b, o, none⟩ ∧ w.cell? ⟨b, o + i, none⟩ = some (.int .i64 l[i]) := by
 obtain ⟨⟨a, c, rfl, h1, h2, h3⟩, -⟩ := h
 refine ⟨a, c, rfl, fun i hi => ?_⟩
 obtain ⟨b, o, rfl, hc⟩ := h3 i hi
 refine ⟨b, o, rfl, ?_⟩
 have := hc 0 (.int .i64 l[i]) rfl
 simpa using this
theorem OwnG.rowK {w : World} {base : Nat} {v : Value} {l : List Bs} (h : OwnG cK 121 512 w base v l) (hl : l ≠ []) : ∃ g c, v = .slice (some ⟨g, 0, none⟩) l.length c ∧ ∀ i (hi : i < l.length), w.rangeAt g (i * 512) (cK l[i]) := by
 have hpos := List.length_pos_iff.2 hl
 obtain ⟨h0, h2⟩ := h
 rcases h2 with ⟨rfl, hn⟩ | ⟨g, cap, cur, rfl, hg, hh, r1, r2, r3, r4⟩
 ·omega
 ·exact ⟨g, cap, rfl, fun i hi => rangeK (X := cur.toList) (l := l) (m := l.length * 512) (by simpa using hh) r4 i hi⟩
theorem DevR.len {w : World} {p : Nat} {D : Dev} {sb mb : Nat} {L : List (Nat × Value)} {ops : Int} (h : DevR w p D sb mb L ops) : L.length ≤ D.n := by
 have h1 : (L.map (·.1)).Nodup := by
  have := h.srt
  unfold Srt at this
  rw [List.nodup_iff_pairwise_ne, List.pairwise_map]
  exact this.imp fun h => ordI.ne h
 have h2 := nodup_le h1 (n := D.n) fun x hx => by
  obtain ⟨y, hy, rfl⟩ := List.mem_map.1 hx
  exact (h.row y hy).2.2
 rwa [List.length_map] at h2
def PendPost (w : World) (l : List Int) (r : Ending) (w' : World) : Prop := ∃ v, r = .returned v ∧ OwZ w' w.heap.size v l ∧ Upd [] w w'
def keysL (L : List (Nat × Value)) : List Int := L.map fun x => (x.1 : Int)
def Dev.after (D : Dev) (S : List Bs) : Dev := ⟨D.n, fun i => ⟨S[i]?.getD (D.blk i).safe, []⟩, -1, false, 0⟩
theorem after_crashed {D : Dev} {S : List Bs} (hS : ∀ j (hj : j < S.length), S[j] ∈ (D.blk j).poss) : Crashed D (D.after S) := by
 refine ⟨rfl, rfl, rfl, fun i => rfl, fun i => ?_⟩
 show S[i]?.getD (D.blk i).safe ∈ _
 rcases Nat.lt_or_ge i S.length with h | h
 ·rw [List.getElem?_eq_getElem h]; exact hS i h
 ·rw [List.getElem?_eq_none h]; simp [Cell.poss]
theorem DevR.crashed {w w' : World} {p : Nat} {D : Dev} {sb mb : Nat} {L : List (Nat × Value)} {ops : Int} (h : DevR w p D sb mb L ops) {S : List Bs} (hl : S.length = D.n) (hS : ∀ j (hj : j < S.length), S[j] ∈ (D.blk j).poss)
  (hb : w'.heap[p]? = some (boxD sb D.n mb (-1) false ops)) (hs : w'.heap[sb]? = some (.cells (flatG cK S).toArray 121 (0, 0))) (hm : w'.ownsMap (H := Value) Tryz.prog 3 opq mb 0 (.map [])) :
  DevR w' p (D.after S) sb mb [] ops := by
 have hnd := h.nodup
 simp only [footD, List.nodup_cons, List.mem_cons, not_or] at hnd
 obtain ⟨⟨a1, a2, -⟩, ⟨a4, -⟩, -⟩ := hnd
 have hsl : safeL (D.after S) = S := by
  apply List.ext_getElem (by rw [safeL_len, hl]; rfl)
  intro i h1 h2
  rw [safeL_at]
  show S[i]?.getD (D.blk i).safe = _
  rw [List.getElem?_eq_getElem h2]
  rfl
 refine ⟨hb, by rw [hsl]; exact hs, hm, List.Pairwise.nil, by simp, fun i _ => rfl, ?_, h.n1, h.n2, Int.le_refl _, by simp [Dev.after], (after_crashed hS).sized h.sized, fun i => Nat.zero_le _⟩
 simp only [footD, List.map_nil, List.nodup_cons, List.mem_cons, List.not_mem_nil, or_false, not_or, not_false_eq_true, List.nodup_nil, and_true]
 exact ⟨⟨a1, a2⟩, a4⟩
def CrashPost (w : World) (p : Nat) (D : Dev) (F : List Nat) (r : Ending) (w' : World) : Prop := ∃ (D' : Dev) (F' : List Nat), r = .returned (.tuple #[]) ∧ Crashed D D' ∧ D'.wr = 0 ∧ DevAt w' p D' F' ∧ Upd F w w' ∧ ∀ k ∈ F', k ∈ F
set_option maxRecDepth 100000 in
set_option maxHeartbeats 4000000 in
theorem crash_of (HPD : ∀ (w : World) (p : Nat) (D : Dev) (sb mb : Nat) (L : List (Nat × Value)) (ops : Int), DevR w p D sb mb L ops → Calls Tryz.prog 64 #[.pointer (some ⟨p, 0, none⟩)] w (PendPost w (keysL L)))
  (w : World) {p : Nat} {D : Dev} {F : List Nat} (h : DevAt w p D F) (hwr : D.wr ≤ 137438953472) {pv : Value} {picks : List Int} (hp : RdZ w pv picks) (hpk : ∀ x ∈ picks, -9223372036854775808 ≤ x ∧ x ≤ 9223372036854775807) (hpF : picks ≠ [] → ∀ b, pv.ownBlock = some b → b ∉ F) :
  Calls Tryz.prog 22 #[.pointer (some ⟨p, 0, none⟩), pv] w (CrashPost w p D F) := by
 obtain ⟨sb, mb, L, ops, h, rfl⟩ := h
 have HP := Lib.hid (HPD w p D sb mb L ops h)
 have HD := Lib.hid h
 have hn2 := h.n2
 have hLn := h.len
 obtain ⟨ap, cp, rfl, hcp⟩ := hp.cellZ
 have HCP := Lib.hid hcp
 have HPK := Lib.hid hpk
 clear h HPD hp hcp hpk
 go_enter Tryz.func22, Tryz.ntmps22
 go_wp2_with fail
 refine HP.out.mono ?_
 rintro r w1 ⟨v, rfl, hv, hu1⟩
 have HR := Lib.hid (HD.out.upd hu1 (by simp))
 have HU1 := Lib.hid hu1
 obtain ⟨av, cv, rfl, hcv⟩ := hv.cellZ
 have hkl : (keysL L).length = L.length := by simp [keysL]
 have HCV := Lib.hid hcv
 rewrite [hkl]
 clear hu1 hv hcv
 go_wp2_with fail
 go_loopg [14] L.length (fun k v wr => ∃ (i : Nat) (S : List Bs), v = .int .i64 i ∧ i ≤ L.length ∧ k = L.length - i ∧ Hid (S.length = D.n ∧ wr.heap[sb]? = some (.cells (flatG cK S).toArray 121 (0, 0)) ∧ ∀ j (hj : j < S.length), S[j] ∈ (D.blk j).poss) ∧ Hid (Upd [sb] w1 wr))
 case atStart =>
  exact ⟨0, safeL D, rfl, by omega, rfl, Lib.hid ⟨safeL_len D, HR.out.safe, fun j hj => by rw [safeL_at]; simp [Cell.poss]⟩, Lib.hid (Upd.refl _ _)⟩
 case round =>
  obtain ⟨i, S, rfl, hi, rfl, HS, HU⟩ := hrel
  have hfoot := HR.out.nodup
  simp only [footD, List.nodup_cons, List.mem_cons, not_or] at hfoot
  have hsb := lt_of_blk HR.out.safe
  have c0' := cell_blk HR.out.box 0
  have c1' := cell_blk HR.out.box 1
  simp only [List.getElem?_toArray, List.getElem?_cons_zero, List.getElem?_cons_succ] at c0' c1'
  have c0 : wr.cell? ⟨p, 0, none⟩ = some (.slice (some ⟨sb, 0, none⟩) D.n D.n) := (World.cell?_of_block (HU.out.block p (lt_of_blk HR.out.box) (by simp; exact hfoot.1.1))).trans c0'
  have c1 : wr.cell? ⟨p, 1, none⟩ = some (.map (some mb)) := (World.cell?_of_block (HU.out.block p (lt_of_blk HR.out.box) (by simp; exact hfoot.1.1))).trans c1'
  by_cases hil : i < L.length
  ·have hlt : (i : Int) < (L.length : Int) := by omega
   obtain ⟨gv, rfl, hgv1, hgv2, hcell⟩ := HCV.out i (by rw [hkl]; exact hil)
   have hkey : (keysL L)[i]'(by rw [hkl]; exact hil) = (L[i].1 : Int) := by simp [keysL]
   rw [hkey] at hcell
   have hmem : L[i] ∈ L := List.getElem_mem hil
   have hgk := getA_of_mem ordI HR.out.srt hmem
   obtain ⟨hown, hne, hkn⟩ := HR.out.row _ hmem
   generalize hx : L[i] = x at *
   obtain ⟨n, u⟩ := x
   dsimp only at hown hne hkn hgk hcell
   obtain ⟨g, c, rfl, hrows⟩ := hown.rowK hne
   have hsb0 := lt_of_blk HD.out.safe
   have hgb := (hown.block g rfl).2
   have hgsb : g ≠ sb := fun e => hfoot.2.1.2 (List.mem_map.2 ⟨(n, _), hmem, by simp [blkOfV, Value.ownBlock, e]⟩)
   have cv1 : wr.cell? ⟨gv, i, none⟩ = some (.int .i64 n) := (World.cell?_of_block (HU.out.block gv hgv2 (by simp; omega))).trans hcell
   have HL := Lib.hid (MapI.look (owns_upd HR.out.map HU.out (by simp; exact fun e => hfoot.2.1.1 e.symm)) Tryz.underlying117 (z := .slice none 0 0) (by kernel_rfl) n (by omega))
   rewrite [hgk] at HL
   have hcap : (D.blk n).pend.length ≤ 137438953472 := Nat.le_trans (HD.out.cnt n) hwr
   have hpos : 0 < (D.blk n).pend.length := List.length_pos_iff.2 hne
   have HROW : Hid (∀ i, i < (D.blk n).pend.length → ∃ lst, lst ∈ (D.blk n).pend ∧ wr.rangeAt g (i * 512) (cK lst)) := Lib.hid fun i hi => ⟨_, List.getElem_mem hi, rangeAt_keep (hrows i hi) (HU.out.block g hgb (by simp; exact hgsb))⟩
   have hu105 := Tryz.underlying121
   have l2 : (n : Int) < (D.n : Int) := by omega
   clear hrows hown hne
   generalize hpe : (D.blk n).pend = pe at *
   generalize hme : pe.length = m at *
   have hwm : IntKind.i64.wrap ((m : Int) + 1) = (m : Int) + 1 := IntWalk.i64_in _ (by omega)
   have HC : (¬ (i : Int) < (picks.length : Int)) ∨ (∃ (b o y : Nat) (x : Int), (i : Int) < (picks.length : Int) ∧ ap = some ⟨b, o, none⟩ ∧ wr.cell? ⟨b, o + i, none⟩ = some (.int .i64 x) ∧ y < 9223372036854775808 ∧ ((0 ≤ x ∧ x = (y : Int)) ∨ (x < 0 ∧ IntKind.i64.wrap (x + 1) = x + 1 ∧ IntKind.i64.wrap (-(x + 1)) = (y : Int)))) := by
    by_cases hj : i < picks.length
    ·obtain ⟨b, o, rfl, hc⟩ := HCP.out i hj
     have hbF := hpF (List.ne_nil_of_length_pos (by omega)) b rfl
     have hblt := World.block_lt_of_cell? _ _ hc
     have hc2 : wr.cell? ⟨b, o + i, none⟩ = some (.int .i64 picks[i]) := ((World.cell?_of_block (HU.out.block b (Nat.lt_of_lt_of_le hblt HU1.out.size) (by simp; intro e; exact hbF (by rw [e]; simp [footD])))).trans (World.cell?_of_block (HU1.out.block b hblt (by simp)))).trans hc
     have hr := HPK.out _ (List.getElem_mem hj)
     rcases Int.lt_or_le picks[i] 0 with h | h
     ·exact .inr ⟨b, o, (-(picks[i] + 1)).toNat, _, by omega, rfl, hc2, by omega, .inr ⟨h, IntWalk.i64_in _ (by omega), by rw [IntWalk.i64_in _ (by omega)]; omega⟩⟩
     ·exact .inr ⟨b, o, picks[i].toNat, _, by omega, rfl, hc2, by omega, .inl ⟨h, by omega⟩⟩
    ·exact .inl (by omega)
   rcases HC with h | ⟨b, o, y, x, h1, rfl, hcx, hy, ⟨h2, rfl⟩ | ⟨h2, h3, h4⟩⟩
   ·go_wp2_with (first
     | (at_lookup; refine wpList_lookup_run rfl _ _ 117 rfl rfl rfl HL.out ?_)
     | fail)
    go_roundg (L.length - (i + 1))
    case rel => exact ⟨i + 1, S, by go_num, by omega, rfl, HS, HU⟩
    case measure => omega
   all_goals
    obtain ⟨r, hr⟩ : ∃ r : Nat, r = y % (m + 1) := ⟨_, rfl⟩
    have hrm : r < m + 1 := by rw [hr]; exact Nat.mod_lt _ (by omega)
    have hr1 : (y : Int) % ((m : Int) + 1) = (r : Int) := by rw [hr]; rfl
    have hr2 : (y : Int).tmod ((m : Int) + 1) = (r : Int) := by rw [IntWalk.rem_in _ _ (by omega)]; exact hr1
    clear hr
    rcases Nat.eq_zero_or_pos r with hr0 | hr0
    ·subst hr0
     go_wp2_with (first
      | (at_lookup; refine wpList_lookup_run rfl _ _ 117 rfl rfl rfl HL.out ?_)
      | fail)
     go_roundg (L.length - (i + 1))
     case rel => exact ⟨i + 1, S, by go_num, by omega, rfl, HS, HU⟩
     case measure => omega
    obtain ⟨r1, rfl⟩ : ∃ r1, r = r1 + 1 := ⟨r - 1, by omega⟩
    obtain ⟨lst, hlm, hrg3⟩ := HROW.out r1 (by omega)
    have hi105 : (Tryz.prog.info? 121).map (·.size) = some (cK lst).length := by rw [cK_len]; exact sizeK
    have hcK : 0 < (cK lst).length := by rw [cK_len]; omega
    have hu3 : Upd [sb] wr (wr.drew.setRow sb (flatG cK (S.set n lst)).toArray) := upd_setRow _ _ _
    have hw2 : IntKind.i64.wrap (r1 : Int) = (r1 : Int) := IntWalk.i64_in _ (by omega)
    have l4 : (r1 : Int) < (m : Int) := by omega
    go_wp2_with (first
     | (at_lookup; refine wpList_lookup_run rfl _ _ 117 rfl rfl rfl HL.out ?_)
     | fail)
    refine wp_region_noPanic ?_
    refine wp_region_held_drew (S := fun w' => w'.cell? ⟨p, 0, none⟩ = some (.slice (some ⟨sb, 0, none⟩) D.n D.n) ∧ w'.rangeAt g (r1 * 512) (cK lst)) (by kernel_rfl) (heldW (Upd.refl [] wr).drew (by simp) (by simp) hcK ⟨c0, hrg3⟩) (fun hHeld => ?_)
    refine wpAnyH_take (i := 0) (oi := ⟨some 45, _, _, _, _, _⟩) (v := .pointer (some ⟨p, 0, none⟩)) rfl (by kernel_rfl) (by kernel_rfl) (by kernel_rfl) (fun _ _ _ h => h) (Or.inl ⟨by rfl, by (intro W hSW; obtain ⟨hS1, hS2⟩ := hSW; go_simp)⟩) hHeld ?_
    simp only [Act.put, List.setIfInBounds_toArray, List.set_cons_zero, List.set_cons_succ]
    refine wpAnyH_take (i := 1) (oi := ⟨some 46, _, _, _, _, _⟩) (v := .pointer (some ⟨p, 0, none⟩)) rfl (by kernel_rfl) (by kernel_rfl) (by kernel_rfl) (fun _ _ _ h => h) (Or.inl ⟨by rfl, by (intro W hSW; obtain ⟨hS1, hS2⟩ := hSW; go_simp)⟩) hHeld ?_
    simp only [Act.put, List.setIfInBounds_toArray, List.set_cons_zero, List.set_cons_succ]
    refine wpAnyH_take (i := 2) (oi := ⟨some 47, _, _, _, _, _⟩) (v := .pointer (some ⟨p, 0, none⟩)) rfl (by kernel_rfl) (by kernel_rfl) (by kernel_rfl) (fun _ _ _ h => h) (Or.inl ⟨by rfl, by (intro W hSW; obtain ⟨hS1, hS2⟩ := hSW; go_simp)⟩) hHeld ?_
    simp only [Act.put, List.setIfInBounds_toArray, List.set_cons_zero, List.set_cons_succ]
    refine wpAnyH_take (i := 3) (oi := ⟨some 48, _, _, _, _, _⟩) (v := .slice (some ⟨sb, 0, none⟩) D.n D.n) rfl (by kernel_rfl) (by kernel_rfl) (by kernel_rfl) (fun _ _ _ h => h) (Or.inl ⟨by rfl, by (intro W hSW; obtain ⟨hS1, hS2⟩ := hSW; go_simp)⟩) hHeld ?_
    simp only [Act.put, List.setIfInBounds_toArray, List.set_cons_zero, List.set_cons_succ]
    refine wpAnyH_take (i := 4) (oi := ⟨some 49, _, _, _, _, _⟩) (v := .int .i64 n) rfl (by kernel_rfl) (by kernel_rfl) (by kernel_rfl) (fun _ _ _ h => h) (Or.inl ⟨by rfl, by (intro W hSW; obtain ⟨hS1, hS2⟩ := hSW; go_simp)⟩) hHeld ?_
    simp only [Act.put, List.setIfInBounds_toArray, List.set_cons_zero, List.set_cons_succ]
    refine wpAnyH_take (i := 5) (oi := ⟨some 50, _, _, _, _, _⟩) (v := .slice (some ⟨g, 0, none⟩) m c) rfl (by kernel_rfl) (by kernel_rfl) (by kernel_rfl) (fun _ _ _ h => h) (Or.inl ⟨by rfl, by (intro W hSW; obtain ⟨hS1, hS2⟩ := hSW; go_simp)⟩) hHeld ?_
    simp only [Act.put, List.setIfInBounds_toArray, List.set_cons_zero, List.set_cons_succ]
    refine wpAnyH_take (i := 6) (oi := ⟨some 51, _, _, _, _, _⟩) (v := .int .i64 ((r1 + 1 : Nat) : Int)) rfl (by kernel_rfl) (by kernel_rfl) (by kernel_rfl) (fun _ _ _ h => h) (Or.inl ⟨by rfl, by (intro W hSW; obtain ⟨hS1, hS2⟩ := hSW; go_simp)⟩) hHeld ?_
    simp only [Act.put, List.setIfInBounds_toArray, List.set_cons_zero, List.set_cons_succ]
    refine wpAnyH_take (i := 7) (oi := ⟨some 52, _, _, _, _, _⟩) (v := .int .i64 r1) rfl (by kernel_rfl) (by kernel_rfl) (by kernel_rfl) (fun _ _ _ h => h) (Or.inl ⟨by rfl, by (intro W hSW; obtain ⟨hS1, hS2⟩ := hSW; go_simp)⟩) hHeld ?_
    simp only [Act.put, List.setIfInBounds_toArray, List.set_cons_zero, List.set_cons_succ]
    refine wpAnyH_take (i := 8) (oi := ⟨some 53, _, _, _, _, _⟩) (v := .pointer (some ⟨g, r1 * 512, none⟩)) rfl (by kernel_rfl) (by kernel_rfl) (by kernel_rfl) (fun _ _ _ h => h) (Or.inl ⟨by rfl, by (intro W hSW; obtain ⟨hS1, hS2⟩ := hSW; go_simp)⟩) hHeld ?_
    simp only [Act.put, List.setIfInBounds_toArray, List.set_cons_zero, List.set_cons_succ]
    refine' wpAnyH_take (i := 9) (oi := ⟨some 54, _, _, _, _, _⟩) (v := _) rfl (by kernel_rfl) (by kernel_rfl) (by kernel_rfl) (fun _ _ _ h => h) (yieldsIf_load_mid (by rfl) _ _ rfl g (r1 * 512) rfl (cK lst) _ (fun W hW => hW.2) hu105 rfl hi105) hHeld ?_
    simp only [Act.put, List.setIfInBounds_toArray, List.set_cons_zero, List.set_cons_succ]
    refine wpAnyH_take (i := 10) (oi := ⟨some 55, _, _, _, _, _⟩) (v := .pointer (some ⟨sb, n * 512, none⟩)) rfl (by kernel_rfl) (by kernel_rfl) (by kernel_rfl) (fun _ _ _ h => h) (Or.inl ⟨by rfl, by (intro W hSW; obtain ⟨hS1, hS2⟩ := hSW; go_simp)⟩) hHeld ?_
    simp only [Act.put, List.setIfInBounds_toArray, List.set_cons_zero, List.set_cons_succ]
    refine wpAnyH_ready (rs := [11]) (by kernel_rfl) (by simp) ?_
    refine AllReadyH.cons (o := ⟨none, _, _, _, _, _⟩) rfl (fun K hK => ?_) AllReadyH.nil
    refine step_store_K (by rfl) _ _ (by rfl) (B := sb) (n := n) (l := S) (b := lst) (by rfl) (by rfl) HS.out.2.1 (by rw [HS.out.1]; exact hkn) ?_
    refine hK.out _ _ (heldW hu3 (by simp; exact hfoot.1.1) (by simp; exact hgsb) hcK ⟨c0, hrg3⟩) (fun _ => ?_)
    clear hK K
    refine wpAnyH_done (by kernel_rfl) ?_ _
    refine NoPanic.normal ?_
    simp only [Act.put]
    go_wp2_with fail
    go_roundg (L.length - (i + 1))
    case rel =>
     refine ⟨i + 1, S.set n lst, by go_num, by omega, rfl, Lib.hid ⟨by rw [List.length_set]; exact HS.out.1, setRow_heap _ _ _ _ _ _ HS.out.2.1, fun j hj => ?_⟩, Lib.hid (HU.out.trans hu3)⟩
     rw [List.getElem_set]
     split
     ·rename_i e; subst e; exact by rw [Cell.poss, hpe]; exact List.mem_cons_of_mem _ hlm
     ·exact HS.out.2.2 j (by simpa using hj)
    case measure => omega
  ·have hlt : ¬ (i : Int) < (L.length : Int) := by omega
   have hown := owns_upd HR.out.map HU.out (by simp; exact fun e => hfoot.2.1.1 e.symm)
   go_wp2_with (first
    | (refine wpList_clear_own (o := ⟨none, _, _, _, _, _⟩) rfl _ 117 rfl Tryz.underlying117 rfl hown ?_; intro w3 hm3 hu3; have b3 : w3.heap[p]? = some (boxD sb D.n mb D.fuse D.down ops) := (hu3.block p (Nat.lt_of_lt_of_le (lt_of_blk HR.out.box) HU.out.size) (by simp; exact hfoot.1.2.1)).trans ((HU.out.block p (lt_of_blk HR.out.box) (by simp; exact hfoot.1.1)).trans HR.out.box); have d2 := cell_blk b3 2; have d3 := cell_blk b3 3; have f2 := frozen_blk b3 2; have f3 := frozen_blk b3 3; simp only [List.getElem?_toArray, List.getElem?_cons_zero, List.getElem?_cons_succ] at d2 d3; have B3 := Lib.hid b3; clear b3; have M3 := Lib.hid hm3; have U3 := Lib.hid hu3; clear hm3 hu3)
    | fail)
   go_end0
   have hU4 : Upd [p] w3 ((w3.setCell ⟨p, 2, none⟩ (.int .i64 (-1))).setCell ⟨p, 3, none⟩ (.bool false)) := ((Upd.refl _ _).setCell (by simp) _ _).setCell (by simp) _ _
   have hb4 := (box_put ((box_put B3.out).2.1 (-1))).1 false
   have hs3 := (U3.out.block sb (lt_of_blk HS.out.2.1) (by simp; exact hfoot.2.1.1)).trans HS.out.2.1
   have hs4 := (hU4.block sb (lt_of_blk hs3) (by simp; exact fun e => hfoot.1.1 e.symm)).trans hs3
   have hm4 := owns_upd M3.out hU4 (by simp; exact fun e => hfoot.1.2.1 e.symm)
   refine ⟨D.after S, _, rfl, after_crashed HS.out.2.2, rfl, ⟨sb, mb, [], ops, HD.out.crashed HS.out.1 HS.out.2.2 hb4 hs4 hm4, rfl⟩, ?_, ?_⟩
   ·have q1 : Upd (footD p sb mb L) w w1 := HU1.out.mono (by simp)
    have q2 : Upd (footD p sb mb L) w1 wr := HU.out.mono fun k hk _ => by obtain rfl := List.mem_singleton.1 hk; simp [footD]
    have q3 : Upd (footD p sb mb L) wr w3 := U3.out.mono fun k hk _ => by obtain rfl := List.mem_singleton.1 hk; simp [footD]
    have q4 := hU4.mono (G := footD p sb mb L) fun k hk _ => by obtain rfl := List.mem_singleton.1 hk; simp [footD]
    exact ((q1.trans q2).trans q3).trans q4
   ·intro k hk
    simp only [footD, List.map_nil, List.mem_cons, List.not_mem_nil, or_false] at hk ⊢
    rcases hk with rfl | rfl | rfl <;> simp
end Go.Proofs.YtgpefiacbipfpaaGreatDoor

namespace Go.Proofs.YtgpefiacbipfpaaGreatDoor
open Go.RowKit Go.Maps
theorem zeros8 (k : Nat) : (Builtin.zeroCells (Value.int .u8 0).cells k).toList = flatG c8 (List.replicate k 0) := by
 rw [flat8, List.map_replicate]
 apply List.ext_getElem
 ·simp [Builtin.zeroCells]
  show k * 1 = k
  omega
 ·intro i h1 h2
  simp [Builtin.zeroCells, Value.cells]
  rw [Nat.mod_one]
  rfl
theorem append_zeros8 {w : World} {base : Nat} {v : Value} {l : Bs} (hown : Ow w base v l) (h0 : l ≠ []) (k : Nat) (hk : l.length + k ≤ 1000000) (hbase : base ≤ w.heap.size) (ty : TypeId) :
  ∃ v' w', (Builtin.append_ #[23, 3] ty #[v, .int .i64 k]).run Tryz.prog w = .ok v' w' ∧ Ow w' base v' (l ++ List.replicate k 0) ∧ w.grownBy w' v.ownBlock ∧ (v'.ownBlock = v.ownBlock ∨ ∀ g, v'.ownBlock = some g → w.heap.size ≤ g) := by
 obtain ⟨i0, z, hi0, hz0, hz1, hz2, hz3⟩ := T8.info
 obtain ⟨i1, h1, h2, h3, h4⟩ := info_parts (show (Tryz.prog.info? 5).map (fun i => (i.zero, i.size, i.bytes)) = some (some (.int .u8 0), 1, 1) by kernel_rfl)
 rw [h1] at hi0
 cases hi0
 rw [h2] at hz0
 cases hz0
 have hpos := List.length_pos_iff.2 h0
 have hlen : (flatG c8 l).length = l.length := by rw [flatG_len T8]; omega
 have hzl : (flatG c8 (List.replicate k 0)).length = k := by rw [flatG_len T8]; simp
 have hw : IntKind.i64.wrap (k : Int) = k := by rw [IntKind.wrap_i64]; omega
 have hneg : ¬ ((k : Int) < 0) := by omega
 have htn := Tryz.underlying3
 rcases hown.2 with ⟨rfl, hn⟩ | ⟨g, cap, cur, rfl, hbg, hg, hnc, hcm, hcs, htake⟩
 ·omega
 ·by_cases hroom : l.length + k ≤ cap
  ·have hfit : l.length + k ≤ cur.size := by rw [hcs]; omega
   have hst := run_storeCells_at Tryz.prog g l.length 5 (flatG c8 (List.replicate k 0)) 0 cur w hg (by rw [hzl]; omega) (flatG_one (one8 _))
   simp only [Nat.add_zero] at hst
   have h48 : ¬ (281474976710656 < (k : Int)) := by omega
   have hr : (Builtin.append_ #[23, 3] ty #[.slice (some ⟨g, 0, none⟩) l.length cap, .int .i64 k]).run Tryz.prog w = .ok (.slice (some ⟨g, 0, none⟩) (l.length + k) cap) (w.setRow g (cur.toList.take l.length ++ flatG c8 (List.replicate k 0) ++ cur.toList.drop (l.length + (flatG c8 (List.replicate k 0)).length)).toArray) := by
    rcases Nat.eq_zero_or_pos k with hk0 | hk0
    ·subst hk0
     simp only [List.replicate_zero, flatG, List.flatMap_nil] at hst ⊢
     simp [Builtin.append_, run_underlying T8.und, run_underlying htn, sizeOf, typeInfo, h1, h3, h4, asInt, asIntOf, hw, Nat.add_zero] at *
     simp [hnc, Addr.add_lit, hst]
    ·have hk1 : ¬ (k = 0) := by omega
     simp [Builtin.append_, run_underlying T8.und, run_underlying htn, sizeOf, typeInfo, zeroValue, h1, h2, h3, h4, asInt, asIntOf, hw, hneg, h48, hk1, hroom, Addr.add_lit, zeros8, hst]
   refine ⟨_, _, hr, ⟨by rw [flatG_len T8], .inr ⟨g, cap, _, by simp, hbg, setRow_heap w g cur _ _ _ hg, by simpa using hroom, hcm, ?_, ?_⟩⟩, ⟨rfl, rfl, rfl, by simp, fun j _ hj => setRow_other w g j _ (fun e => hj (by simp [Value.ownBlock, e]))⟩, .inl rfl⟩
   ·simp only [List.size_toArray, List.length_append, List.length_take, List.length_drop, Array.length_toList, hzl, hcs]
    omega
   ·have e : cur.toList.take l.length = flatG c8 l := by have := htake; rwa [Nat.mul_one] at this
    rw [flatG_app, e]
    have : (l ++ List.replicate k 0).length * 1 = (flatG c8 l ++ flatG c8 (List.replicate k 0)).length := by simp [hlen, hzl]
    rw [this]
    exact List.take_left
  ·have hr := Go.Lib.run_append_grow_zeros (P := Tryz.prog) w 23 3 ty 5 i0 (.int .u8 0) .i64 .i64 T8.und htn h1 h2 (some ⟨g, 0, none⟩) l.length cap (flatG c8 l) ?_ k (by omega) (by omega) (by omega) (by omega) (by rw [h4]; omega) (growslice_fits (by omega) (by rw [h4]; omega))
   ·have hge := grownCap_ge w (l.length + k) cap 5
    have hcm2 : grownCap w (l.length + k) cap 5 ≤ maxLen := grownCap_le_maxLen w (l.length + k) cap 5 (by unfold maxLen; omega)
    refine ⟨_, _, hr, ⟨by rw [flatG_len T8], .inr ⟨w.heap.size, _, _, by simp, hbase, heap_alloc_new w.drew _, by simpa using hge, hcm2, ?_, ?_⟩⟩, ⟨rfl, rfl, rfl, by simp, fun j hj _ => by rw [heap_alloc, if_neg (show ¬ j = w.drew.heap.size from Nat.ne_of_lt hj)]; rfl⟩, .inr fun g' hg' => by cases hg'; exact Nat.le_refl _⟩
    ·simp only [Array.size_append, List.size_toArray, size_zeroCells, hlen]
     simp [Value.cells]
     omega
    ·simp only [Array.toList_append, List.append_assoc, zeros8]
     rw [flatG_app, ← List.append_assoc]
     have : (l ++ List.replicate k 0).length * 1 = (flatG c8 l ++ flatG c8 (List.replicate k 0)).length := by simp [hlen, hzl]
     rw [this]
     exact List.take_left
   ·have hc := hown.cells (g := g) rfl
    exact run_firstCells_some (P := Tryz.prog) w.drew i0.size l.length ⟨g, 0, none⟩ l.length cap (flatG c8 l) (by rw [hlen, h3]; omega) hc
theorem wpList_append_zeros {w : World} {ops : Array Oper} {rest : List Oper} {o : Oper} {a : Act} {Q : Exit → Act → World → Prop} (hgd : o.guard = none) (s x : Operand)
  (ho : o.op = .call { callee := .builtin .append, args := #[s, x], argTypes := #[23, 3] }) {base : Nat} {v : Value} {l : Bs} (hs : a.eval s = v) (hown : Ow w base v l) (h0 : l ≠ []) {k : Nat}
  (hx : a.eval x = .int .i64 k) (hk : l.length + k ≤ 1000000) (hbase : base ≤ w.heap.size)
  (h : ∀ v' w', Ow w' base v' (l ++ List.replicate k 0) → w.grownBy w' v.ownBlock → (v'.ownBlock = v.ownBlock ∨ ∀ g, v'.ownBlock = some g → w.heap.size ≤ g) → wpList Tryz.prog ops Q rest (a.put o.dst v') w') : wpList Tryz.prog ops Q (o :: rest) a w := by
 obtain ⟨v', w', hrun, h2, h3, h4⟩ := append_zeros8 hown h0 k hk hbase o.type
 exact Go.Lib.wpList_append_run w hgd s x _ _ ho _ _ hs hx v' w' hrun (h v' w' h2 h3 h4)
end Go.Proofs.YtgpefiacbipfpaaGreatDoor
