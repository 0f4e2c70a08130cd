/- The reference cache: Put where it is full. -/
import Derived.Test.YtgndkmdmpiiedaaRef3
namespace Go.Proofs.Ytgndkmdmpiiedaa.Ref
open Go.RowKit

theorem store4 {w w' : World} {g : Nat} {a0 a1 a2 a3 b0 b1 b2 b3 : Value} {t : TypeId} (h : w.heap[g]? = some (.cells #[a0, a1, a2, a3] t (0, 0)))
    (hw : w'.Alike ((((w.setCell ⟨g, 0, none⟩ b0).setCell ⟨g, 1, none⟩ b1).setCell ⟨g, 2, none⟩ b2).setCell ⟨g, 3, none⟩ b3)) :
    w'.heap[g]? = some (.cells #[b0, b1, b2, b3] t (0, 0)) ∧ Upd [g] w w' := by
  refine ⟨?_, ?_⟩
  · rw [hw.1]; simp [heap_setCell, h, Obj.put]
  · exact (((((Upd.refl _ _).setCell (by simp) _ _).setCell (by simp) _ _).setCell (by simp) _ _).setCell (by simp) _ _).alike hw

set_option maxRecDepth 100000 in
set_option maxHeartbeats 2000000 in
theorem put_full (w : World) {base r : Nat} {M : Int} {lv : Value} {l : List IT} (h : RRep w base r M lv l) (hl : l.length ≤ 1024) (k : Int) (hn : ∀ y ∈ l, y.k ≠ k) (hM : (l.length : Int) = M) (hp : ∀ y ∈ l, 0 < y.p) (v : Int) (d : Bool) :
    Calls Try.prog 44 #[.pointer (some ⟨r, 0, none⟩), .int .i64 k, .int .i64 v, .bool d] w (PutPost w base r M lv l 0 0 false false 70) := by
  have HN := Lib.hid hn
  clear hn
  go_enter Try.func44, Try.ntmps44
  go_wp2_with fail
  refine (find_miss w h hl k HN.out).mono ?_
  rintro e w1 ⟨rfl, rfl⟩
  have hA := h.alloc zeroItem
  have hkey : ∀ j (hj : j < l.length), ∃ g cap, lv = .slice (some ⟨g, 0, none⟩) l.length cap ∧ ∃ q : Nat, (w.alloc zeroItem).cell? ⟨g, j * 4 + 3, none⟩ = some (.int .i64 q) ∧ 0 < q := fun j hj => by
    obtain ⟨g, cap, cur, hv, hb, -, -, -, -, hc⟩ := hA.row hj
    exact ⟨g, cap, hv, _, (row_cell hb hc hj).2.2.2, hp _ (List.getElem_mem hj)⟩
  obtain ⟨a, cap, rfl⟩ := own_slice h.own
  obtain ⟨r0, r1, fr⟩ := hA.cellsR
  have hz : ((l.length : Int) == M) = true := by simpa using hM
  have hu0 : Upd [] w (w.alloc zeroItem) := (Upd.refl _ _).alloc _
  have HU0 := Lib.hid hu0
  have HK := Lib.hid hkey
  have HA := Lib.hid hA
  clear hM h hA hu0 hkey hp
  go_wp2_with fail
  generalize w.alloc zeroItem = W0 at *
  go_region
  go_wp2_with fail
  go_loopg [16] l.length (fun q i wr => wr = W0.drew ∧ ∃ j : Nat, i = .int .i64 j ∧ j ≤ l.length ∧ q = l.length - j)
  case atStart => exact ⟨rfl, 0, rfl, by omega, rfl⟩
  case round =>
    obtain ⟨rfl, j, rfl, hj, rfl⟩ := hrel
    by_cases hjl : j < l.length
    · obtain ⟨g, cap', hv, q, hq, hqp⟩ := HK.out j hjl
      simp only [Value.slice.injEq, true_and] at hv
      obtain ⟨rfl, rfl⟩ := hv
      have hqb : decide (0 < (q : Int)) = true := by simpa using hqp
      go_wp2_with fail
      go_roundg (l.length - (j + 1))
      case measure => omega
      case rel => exact ⟨rfl, j + 1, by go_num, by omega, rfl⟩
    · obtain rfl : j = l.length := by omega
      have hee : ((l.length : Int) == l.length) = true := by simp
      go_wp2_with fail
      go_returns
      exact ⟨rfl, _, HA.out.alike (alike_drew _), (HU0.out.mono (by simp)).drew, fun k hk => .inl hk⟩

set_option maxRecDepth 100000 in
set_option maxHeartbeats 2000000 in
theorem put_goes (w : World) {base r : Nat} {M : Int} {lv : Value} {l1 l2 : List IT} {x : IT} (h : RRep w base r M lv (l1 ++ x :: l2)) (hl : (l1 ++ x :: l2).length ≤ 1024) (k : Int) (hn : ∀ y ∈ l1 ++ x :: l2, y.k ≠ k) (hM : ((l1 ++ x :: l2).length : Int) = M)
    (hp : ∀ y ∈ l1, 0 < y.p) (hx : x.p = 0) (v : Int) (d : Bool) :
    Calls Try.prog 44 #[.pointer (some ⟨r, 0, none⟩), .int .i64 k, .int .i64 v, .bool d] w (PutPost w base r M lv (l1 ++ l2 ++ [{ k := k, v := v, d := d, p := 0 }]) x.k x.v true x.d 0) := by
  obtain ⟨xk, xv, xd, xp⟩ := x
  simp only [] at hx ⊢
  subst hx
  have HN := Lib.hid hn
  clear hn
  go_enter Try.func44, Try.ntmps44
  go_wp2_with fail
  refine (find_miss w h hl k HN.out).mono ?_
  rintro e w1 ⟨rfl, rfl⟩
  have hA := h.alloc zeroItem
  obtain ⟨g, cap, cur, rfl, hb, hcap, hcapm, -, -, hc⟩ := hA.row (j := 0) (by simp; try omega)
  have hkey : ∀ j (hj : j < l1.length), ∃ q : Nat, (w.alloc zeroItem).cell? ⟨g, j * 4 + 3, none⟩ = some (.int .i64 q) ∧ 0 < q := fun j hj => by
    have hj2 : j < (l1 ++ (⟨xk, xv, xd, 0⟩ : IT) :: l2).length := by simp; omega
    refine ⟨_, (row_cell hb hc hj2).2.2.2, ?_⟩
    rw [List.getElem_append_left hj]; exact hp _ (List.getElem_mem hj)
  have hi : l1.length < (l1 ++ (⟨xk, xv, xd, 0⟩ : IT) :: l2).length := by simp
  obtain ⟨x0, x1, x2, x3⟩ := row_cell hb hc hi
  simp at x0 x1 x2 x3
  obtain ⟨r0, r1, fr⟩ := hA.cellsR
  have hlt : (l1.length : Int) < ((l1 ++ (⟨xk, xv, xd, 0⟩ : IT) :: l2).length : Nat) := by omega
  have hz : (((l1 ++ (⟨xk, xv, xd, 0⟩ : IT) :: l2).length : Int) == M) = true := by simpa using hM
  have hz2 : ((l1.length : Int) == ((l1 ++ (⟨xk, xv, xd, 0⟩ : IT) :: l2).length : Nat)) = false := by simp; omega
  have hu0 : Upd [] w (w.alloc zeroItem) := (Upd.refl _ _).alloc _
  have hrlt := lt_of_blk h.blk
  have hglt := lt_of_blk (show w.heap[g]? = some (.cells cur 116 (0, 0)) by
    rw [heap_alloc] at hb
    by_cases hgw : g = w.heap.size
    · have := (h.own.lt g rfl).2; omega
    · rwa [if_neg hgw] at hb)
  have hrne : r ≠ w.heap.size := by omega
  have hrne' := Ne.symm hrne
  have hgne : g ≠ w.heap.size := by omega
  have hgne' := Ne.symm hgne
  have hsz : (w.alloc zeroItem).heap.size = w.heap.size + 1 := by simp
  have hg : (w.alloc zeroItem).heap[w.heap.size]? = some zeroItem := by rw [heap_alloc, if_pos rfl]
  have z0 : (w.alloc zeroItem).cell? ⟨w.heap.size, 0, none⟩ = some (.int .i64 0) := cell_blk hg 0
  have z1 : (w.alloc zeroItem).cell? ⟨w.heap.size, 1, none⟩ = some (.int .i64 0) := cell_blk hg 1
  have z2 : (w.alloc zeroItem).cell? ⟨w.heap.size, 2, none⟩ = some (.bool false) := cell_blk hg 2
  have z3 : (w.alloc zeroItem).cell? ⟨w.heap.size, 3, none⟩ = some (.int .i64 0) := cell_blk hg 3
  have fz := frozen_blk hg
  have HU0 := Lib.hid hu0
  have HK := Lib.hid hkey
  have HA := Lib.hid hA
  have HSZ := Lib.hid hsz
  have HG := Lib.hid hg
  clear hM h hA hu0 hkey hp hsz hg hb hc
  generalize hnn : (l1 ++ (⟨xk, xv, xd, 0⟩ : IT) :: l2).length = n at *
  have HNN := Lib.hid hnn
  clear hnn
  go_wp2_with fail
  generalize w.alloc zeroItem = W0 at *
  go_region
  go_wp2_with fail
  go_loopg [16] l1.length (fun q i wr => wr = W0.drew ∧ ∃ j : Nat, i = .int .i64 j ∧ j ≤ l1.length ∧ q = l1.length - j)
  case atStart => exact ⟨rfl, 0, rfl, by omega, rfl⟩
  case round =>
    obtain ⟨rfl, j, rfl, hj, rfl⟩ := hrel
    by_cases hjl : j < l1.length
    · obtain ⟨q, hq, hqp⟩ := HK.out j hjl
      have hqb : decide (0 < (q : Int)) = true := by simpa using hqp
      have hj2 : j < n := by omega
      clear z0 z1 z2 z3 fz x0 x1 x2 x3
      go_wp2_with fail
      go_roundg (l1.length - (j + 1))
      case measure => omega
      case rel => exact ⟨rfl, j + 1, by go_num, by omega, rfl⟩
    · obtain rfl : j = l1.length := by omega
      go_wp2_with fail
      generalize hW1 : World.drew (World.setCell _ _ _) = W1
      obtain ⟨hg1, hU1⟩ := store4 (w' := W1) HG.out (by rw [← hW1]; exact alike_drew _)
      have hR1 : RRep W1 base r M (.slice (some ⟨g, 0, none⟩) n cap) (l1 ++ ⟨xk, xv, xd, 0⟩ :: l2) := HA.out.keep hU1 (fun q hq => by
        simp [Value.ownBlock] at hq ⊢
        rcases hq with rfl | rfl
        · exact hrne
        · exact hgne)
      have hw1s : W0.heap.size ≤ W1.heap.size := hU1.size
      clear hW1 x0 x1 x2 x3 z0 z1 z2 z3 fz r0 r1 fr hjl
      refine (without_ok W1 hR1 (by rw [HNN.out]; exact hl)).mono ?_
      rintro e w3 ⟨v1, rfl, hown1, hU3⟩
      obtain ⟨a1, c1, rfl⟩ := own_slice hown1
      generalize hn2 : (l1 ++ l2).length = n2 at *
      have hsz0 := HSZ.out
      have hR3 := hR1.keep hU3 (by simp)
      obtain ⟨-, r3, fr3⟩ := hR3.cellsR
      have hg3 : w3.heap[w.heap.size]? = some (.cells #[.int .i64 xk, .int .i64 xv, .bool xd, .int .i64 0] 116 (0, 0)) := by
        rw [hU3.block _ (by have := HSZ.out; omega) (by simp)]; exact hg1
      have hnr : (Value.slice a1 n2 c1).ownBlock ≠ some r := fun q => by have := (hown1.lt r q).1; omega
      have hbw : base ≤ W1.heap.size := by have := hR1.base_le; omega
      have HR4 := Lib.hid (rrep_store (l' := l1 ++ l2) hR3 (by rw [hn2]; exact hown1) hbw hnr)
      have HO1 : Hid (∀ q, (Value.slice a1 n2 c1).ownBlock = some q → W1.heap.size ≤ q ∧ q < w3.heap.size) := Lib.hid fun q hq => hown1.lt q hq
      have HG3 := Lib.hid hg3
      have HU : Hid (Upd (rfoot r (.slice (some ⟨g, 0, none⟩) n cap)) w (w3.setCell ⟨r, 1, none⟩ (.slice a1 n2 c1))) := Lib.hid (by
        have e1 : Upd [w.heap.size] w W1 := (HU0.out.mono (by simp)).trans hU1
        have e2 : Upd [w.heap.size] w w3 := e1.trans (hU3.mono (by simp))
        exact (e2.mono (fun q hq hlt => by simp at hq; omega)).setCell (by simp) _ _)
      have hsz3 : W1.heap.size ≤ w3.heap.size := hU3.size
      have hl2 : n2 ≤ 1024 := by have := HNN.out; simp at this hn2; omega
      have HN2 := Lib.hid hn2
      clear hown1 hU3 hR3 hg3 hU1 hg1 hR1 hsz0 hn2
      go_upto_region 18 with (fail)
      generalize hW4 : World.setCell _ _ _ = W4
      have HA4 : Hid (RRep W4 base r M (.slice a1 n2 c1) (l1 ++ l2)) := Lib.hid (by rw [← hW4]; exact HR4.out)
      have HG4 : Hid (W4.heap[w.heap.size]? = some (.cells #[.int .i64 xk, .int .i64 xv, .bool xd, .int .i64 0] 116 (0, 0))) := Lib.hid (by rw [← hW4, heap_setCell, if_neg hrne']; exact HG3.out)
      have HU4 : Hid (Upd (rfoot r (.slice (some ⟨g, 0, none⟩) n cap)) w W4) := Lib.hid (by rw [← hW4]; exact HU.out)
      have hs4 : w3.heap.size ≤ W4.heap.size := by rw [← hW4]; simp
      have hs5 : w.heap.size < W4.heap.size := by have := HSZ.out; omega
      have hob4 : some w.heap.size ≠ (Value.slice a1 n2 c1).ownBlock := fun q => by have := (HO1.out _ q.symm).1; have := HSZ.out; omega
      have hr4 : r < W4.heap.size := by omega
      have hbw4 : base ≤ W4.heap.size := by omega
      have r4 := HA4.out.cellsR.2.1
      have fr4 := HA4.out.cellsR.2.2
      have HO4 : Hid (∀ q, (Value.slice a1 n2 c1).ownBlock = some q → w.heap.size ≤ q) := Lib.hid fun q hq => by have := (HO1.out q hq).1; have := HSZ.out; omega
      clear hW4 HR4 HG3 HU r3 fr3 hnr HA HG HU0
      have hne4 : r ≠ W4.heap.size := by omega
      go_wp2_with (at_builtin; refine wpList_append_item rfl _ _ rfl (x := { k := k, v := v, d := d, p := 0 }) W4.heap.size rfl rfl (HA4.out.own.alloc _) (by rw [heap_alloc, if_pos rfl]; rfl) (by rw [HN2.out]; exact hl2) ?hb ?_)
      case hb => simp; omega
      intro g2 c2 w5 hown2 hgrow2 hat
      have hg5 : w5.heap[w.heap.size]? = some (.cells #[.int .i64 xk, .int .i64 xv, .bool xd, .int .i64 0] 116 (0, 0)) := by
        rw [hgrow2.block _ (by simp; omega) hob4, heap_alloc, if_neg (by omega)]; exact HG4.out
      have hu5 : Upd (Value.slice a1 n2 c1).ownBlock.toList W4 w5 := by
        have e1 : Upd [] W4 (W4.alloc (.cells #[.int .i64 k, .int .i64 v, .bool d, .int .i64 0] 116)) := (Upd.refl _ _).alloc _
        exact (e1.mono (by simp)).trans (upd_of_grown hgrow2)
      have r5 : w5.heap[r]? = some (.cells #[.int .i64 M, .slice a1 n2 c1] 94 (0, 0)) := by
        rw [hu5.block r hr4 (by simpa using HA4.out.apart)]; exact HA4.out.blk
      have y1 : w5.cell? ⟨r, 1, none⟩ = some (.slice a1 n2 c1) := cell_blk r5 1
      have yf := frozen_blk r5
      have z0 : w5.cell? ⟨w.heap.size, 0, none⟩ = some (.int .i64 xk) := cell_blk hg5 0
      have z1 : w5.cell? ⟨w.heap.size, 1, none⟩ = some (.int .i64 xv) := cell_blk hg5 1
      have z2 : w5.cell? ⟨w.heap.size, 2, none⟩ = some (.bool xd) := cell_blk hg5 2
      have hge : ∀ q, (Value.slice (some ⟨g2, 0, none⟩) (l1.length + (l2.length + 1)) c2).ownBlock = some q → (Value.slice a1 n2 c1).ownBlock = some q ∨ W4.heap.size ≤ q := by
        intro q hq
        simp only [Value.ownBlock, Option.some.injEq] at hq
        subst hq
        rcases hat with h | h
        · exact .inl h
        · right; omega
      have HP : Hid (∀ w6 : World, w6.Alike (w5.setCell ⟨r, 1, none⟩ (.slice (some ⟨g2, 0, none⟩) (l1.length + (l2.length + 1)) c2)) → _) := Lib.hid fun w6 h6 => rrep_push (l' := l1 ++ (l2 ++ [({ k := k, v := v, d := d, p := 0 } : IT)])) HA4.out hu5 (by simpa using hown2) (Nat.le_refl _) hge h6
      clear hown2 hgrow2 hg5 hu5 r5 hge r4 fr4
      go_upto_region 19 with (fail)
      go_region
      go_wp2_with fail
      go_returns
      obtain ⟨hR, hU, hF⟩ := HP.out _ (alike_drew _)
      have hU' := Upd.next HU4.out hU (fun q hq hlt => by
        simp only [rfoot, List.mem_cons, Option.mem_toList] at hq ⊢
        rcases hq with rfl | hq
        · left; rfl
        · have := HO4.out q hq; omega)
      have hF' : ∀ q ∈ rfoot r (Value.slice (some ⟨g2, 0, none⟩) (l1.length + (l2.length + 1)) c2), q ∈ rfoot r (Value.slice (some ⟨g, 0, none⟩) n cap) ∨ w.heap.size ≤ q := fun q hq => by
        rcases hF q hq with h | h
        · simp only [rfoot, List.mem_cons, Option.mem_toList] at h ⊢
          rcases h with h | h
          · left; left; exact h
          · right; exact HO4.out q h
        · right; omega
      first
        | exact ⟨rfl, _, hR, hU', hF'⟩
        | exact ⟨rfl, _, by simpa using hR, hU', hF'⟩
end Go.Proofs.Ytgndkmdmpiiedaa.Ref
