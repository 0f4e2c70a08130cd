/- The document: Same, SameEvent. -/
import Derived.Test.YtdokpfgdddfdfaaDoorCv
namespace Go.Proofs.YtdokpfgdddfdfaaDoor
open Go.RowKit

theorem equalIn_field (d : Nat) (x y : Fd) (w : World) : (Op.equalIn (d + 1 + 1) 30 (aggF x) (aggF y)).run Tryd.prog w = .ok (decide (x.nm = y.nm ∧ x.tx = y.tx ∧ x.n = y.n ∧ x.s = y.s)) w := by
  have u3 := Tryd.underlying3
  have u4 := Tryd.underlying4
  have u9 := Tryd.underlying9
  have a3 := Tryd.isAgg3
  have z3 := Tryd.sizeOf3
  have a4 := Tryd.isAgg4
  have z4 := Tryd.sizeOf4
  have a9 := Tryd.isAgg9
  have z9 := Tryd.sizeOf9
  have hS : Tryd.prog.underlying 30 = some (.struct (Tryd.prog.fieldsOf 30)) := by kernel_rfl
  have hp : Tryd.prog.stoodInHeld 30 = false := by kernel_rfl
  rw [run_equalIn_struct w (d + 1) 30 _ _ hS hp]
  simp only [Program.fieldsOf, Tryd.underlying30]
  go_simp
  have e1 := eqB x.nm y.nm
  have e2 := eqB x.s y.s
  by_cases h1 : x.nm = y.nm <;> by_cases h2 : x.tx = y.tx <;> by_cases h3 : x.n = y.n <;> by_cases h4 : x.s = y.s <;> simp_all

theorem neq_field (x y : Fd) (w : World) : (binOp .neq 30 (aggF x) (aggF y)).run Tryd.prog w = .ok (.bool (!decide (x.nm = y.nm ∧ x.tx = y.tx ∧ x.n = y.n ∧ x.s = y.s))) w := by
  have h : (Op.equal 30 (aggF x) (aggF y)).run Tryd.prog w = .ok (decide (x.nm = y.nm ∧ x.tx = y.tx ∧ x.n = y.n ∧ x.s = y.s)) w := equalIn_field 9998 x y w
  simp only [binOp, Sem.run_bind, h, Result.andThen_ok, Sem.run_pure]

theorem Fd.eq_iff {x y : Fd} : (x.nm = y.nm ∧ x.tx = y.tx ∧ x.n = y.n ∧ x.s = y.s) ↔ x = y := by
  constructor
  · intro h
    cases x; cases y
    simp_all
  · rintro rfl; exact ⟨rfl, rfl, rfl, rfl⟩

set_option maxRecDepth 100000 in
set_option maxHeartbeats 1600000 in
theorem same_ok (va vb : Value) (a b : List Fd) (w : World) (ha : RecAt w va a) (hb : RecAt w vb b) :
    Calls Tryd.prog 22 #[va, vb] w fun e w' => ∃ r : Bool, e = .returned (.bool r) ∧ (r = true ↔ a = b) ∧ Upd [] w w' := by
  obtain ⟨aa, acap, rfl, a1, a2, a3⟩ := ha
  obtain ⟨ba, bcap, rfl, b1, b2, b3⟩ := hb
  have HA := Lib.hid a3
  have HB := Lib.hid b3
  clear a3 b3
  unfold maxLen at a2 b2
  by_cases hl : a.length = b.length
  · have hbl : (b.length : Int) = (a.length : Int) := by omega
    have HL := Lib.hid hl
    rw [← hl]
    have hnn : ((a.length : Int) != (a.length : Int)) = false := by simp
    clear hl hbl
    go_enter Tryd.func22, Tryd.ntmps22
    go_wp2_with fail
    go_loopg [5] a.length (fun n i wr => ∃ j : Nat, i = .int .i64 j ∧ j ≤ a.length ∧ n = a.length - j ∧ Hid (∀ i (h1 : i < j) (h2 : i < a.length) (h3 : i < b.length), a[i] = b[i]) ∧ Hid (wr.Alike w))
    case atStart => exact ⟨0, rfl, by omega, rfl, Lib.hid (fun i hi => by omega), Lib.hid (alike_refl _)⟩
    case round =>
      obtain ⟨j, rfl, hj, rfl, hE, hW⟩ := hrel
      by_cases hjl : j < a.length
      · have hlt : (j : Int) < (a.length : Int) := by omega
        have hjb : j < b.length := by rw [← HL.out]; exact hjl
        obtain ⟨ab, ao, rfl, ax⟩ := HA.out j hjl
        obtain ⟨bb, bo, rfl, bx⟩ := HB.out j hjb
        obtain ⟨c0, c1, c2, c3⟩ := ax.upd (F := []) ((Upd.refl [] w).alike hW.out) (by simp)
        obtain ⟨d0, d1, d2, d3⟩ := bx.upd (F := []) ((Upd.refl [] w).alike hW.out) (by simp)
        clear ax bx
        by_cases hxy : a[j] = b[j]
        · have hE2 : Hid (∀ i (h1 : i < j + 1) (h2 : i < a.length) (h3 : i < b.length), a[i] = b[i]) := Lib.hid (fun i h1 h2 h3 => by
            rcases Nat.lt_or_ge i j with h | h
            · exact hE.out i h h2 h3
            · have : i = j := by omega
              subst this; exact hxy)
          have hop : ∀ W, (binOp .neq 30 (aggF a[j]) (aggF b[j])).run Tryd.prog W = .ok (.bool false) W := fun W => by
            rw [neq_field, decide_eq_true (Fd.eq_iff.2 hxy)]; rfl
          clear hxy
          generalize a[j] = x at *
          generalize b[j] = y at *
          go_upto_region 6 with (fail)
          go_quiet (fail)
          go_wp2_with fail
          go_roundg (a.length - (j + 1))
          case measure => omega
          case rel => exact ⟨j + 1, by go_num, by omega, rfl, hE2, Lib.hid hW.out⟩
        · have hR : Hid (¬ a = b) := Lib.hid (fun h => hxy (by subst h; rfl))
          have hop : ∀ W, (binOp .neq 30 (aggF a[j]) (aggF b[j])).run Tryd.prog W = .ok (.bool true) W := fun W => by
            rw [neq_field, decide_eq_false (fun h => hxy (Fd.eq_iff.1 h))]; rfl
          clear hxy
          generalize a[j] = x at *
          generalize b[j] = y at *
          go_upto_region 6 with (fail)
          go_quiet (fail)
          go_wp2_with fail
          go_ret
          exact ⟨false, rfl, by simp [hR.out], (Upd.refl [] w).alike hW.out⟩
      · have hlt : ¬ (j : Int) < (a.length : Int) := by omega
        have hR : Hid (a = b) := Lib.hid (List.ext_getElem HL.out (fun i h1 h2 => hE.out i (by omega) h1 h2))
        go_wp2_with fail
        go_ret
        first | exact ⟨true, rfl, by simp [hR.out], (Upd.refl [] w).alike hW.out⟩ | exact Or.inr ⟨rfl, hR.out, (Upd.refl [] w).alike hW.out⟩
  · have hR : Hid (¬ a = b) := Lib.hid (fun h => hl (by rw [h]))
    have hnn : ((a.length : Int) != (b.length : Int)) = true := bne_iff_ne.2 (by omega)
    have hnn2 : ¬ (a.length : Int) = (b.length : Int) := by omega
    go_enter Tryd.func22, Tryd.ntmps22
    go_wp2_with fail
    go_ret
    exact ⟨false, rfl, by simp [hR.out], Upd.refl _ _⟩

set_option maxRecDepth 100000 in
set_option maxHeartbeats 1000000 in
theorem sameEvent_ok (ta tb : ByteArray) (na nb : Int) (va vb : Value) (a b : List Fd) (w : World) (ha : RecAt w va a) (hb : RecAt w vb b) :
    Calls Tryd.prog 10 #[aggE ta na va, aggE tb nb vb] w fun e w' => ∃ r : Bool, e = .returned (.bool r) ∧ (r = true ↔ ta = tb ∧ na = nb ∧ a = b) ∧ Upd [] w w' := by
  have u0 : Upd [] w ((w.alloc (boxE ta na va)).alloc (boxE tb nb vb)) := ((Upd.refl [] w).alloc _).alloc _
  have b0 : ((w.alloc (boxE ta na va)).alloc (boxE tb nb vb)).heap[w.heap.size]? = some (boxE ta na va) := by rw [heap_alloc, if_neg (by simp), heap_alloc, if_pos rfl]
  have b1 : ((w.alloc (boxE ta na va)).alloc (boxE tb nb vb)).heap[w.heap.size + 1]? = some (boxE tb nb vb) := by rw [heap_alloc, if_pos (by simp)]
  have HS := Lib.hid (same_ok va vb a b _ (ha.keep u0) (hb.keep u0))
  have H0 := Lib.hid (And.intro u0 (And.intro b0 b1))
  obtain ⟨aa, acap, rfl, -, -⟩ := ha.isSlice
  obtain ⟨ba, bcap, rfl, -, -⟩ := hb.isSlice
  clear u0 b0 b1 ha hb
  go_enter Tryd.func10, Tryd.ntmps10
  go_wp2_with fail
  refine HS.out.mono ?_
  rintro e w1 ⟨r, rfl, hr, hu⟩
  have c0 := (hu.block w.heap.size (lt_of_blk H0.out.2.1) (by simp)).trans H0.out.2.1
  have c1 := (hu.block (w.heap.size + 1) (lt_of_blk H0.out.2.2) (by simp)).trans H0.out.2.2
  have HU : Hid (Upd [] w w1) := Lib.hid (H0.out.1.trans hu)
  have e0 : w1.cell? ⟨w.heap.size, 0, none⟩ = some (.string ta) := cell_blk c0 0
  have e1 : w1.cell? ⟨w.heap.size, 1, none⟩ = some (.int .i64 na) := cell_blk c0 1
  have f0 : w1.cell? ⟨w.heap.size + 1, 0, none⟩ = some (.string tb) := cell_blk c1 0
  have f1 : w1.cell? ⟨w.heap.size + 1, 1, none⟩ = some (.int .i64 nb) := cell_blk c1 1
  have HR := Lib.hid hr
  clear hr hu c0 c1 HS H0
  cases r with
  | false =>
    go_wp2_with fail
    go_ret
    exact ⟨false, rfl, by have := HR.out; simp at this; simp; intro _ _ h; exact this h, HU.out⟩
  | true =>
    have hab : Hid (a = b) := Lib.hid (HR.out.1 rfl)
    clear HR
    have et := eqB ta tb
    by_cases ht : ta = tb
    · rw [decide_eq_true ht] at et
      have HT := Lib.hid ht
      clear ht
      by_cases hn : na = nb
      · have hnn : (na == nb) = true := by simpa using hn
        have HN := Lib.hid hn
        clear hn
        go_wp2_with fail
        go_ret
        exact ⟨true, rfl, by simp [HT.out, HN.out, hab.out], HU.out⟩
      · have hnn : (na == nb) = false := by simpa using hn
        have HN := Lib.hid hn
        clear hn
        go_wp2_with fail
        go_ret
        exact ⟨false, rfl, by simp [HN.out], HU.out⟩
    · rw [decide_eq_false ht] at et
      have HT := Lib.hid ht
      clear ht
      go_wp2_with fail
      go_ret
      exact ⟨false, rfl, by simp [HT.out], HU.out⟩
end Go.Proofs.YtdokpfgdddfdfaaDoor
