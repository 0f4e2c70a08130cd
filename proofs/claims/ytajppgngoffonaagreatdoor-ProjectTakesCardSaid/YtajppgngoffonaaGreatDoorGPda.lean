/- The document: rows with so much more. -/
import Derived.Test.YtajppgngoffonaaGreatDoorGPr
import Derived.Test.YtajppgngoffonaaGreatDoorGSh
namespace Go.Proofs.YtajppgngoffonaaGreatDoor
open Go.RowKit

theorem addR_new {L : List Rw} {k : ByteArray} {n : Int} (h1 : k.size ≤ 200) (h2 : withinB n = true) (h3 : getR L k = none) (h4 : L.length < 200) : addR L k n = L.take (posR L k) ++ ⟨k, n⟩ :: L.drop (posR L k) := by
  unfold addR
  rw [if_neg (by rw [h2]; simp; omega), h3]
  dsimp only
  rw [if_neg (by omega), putR_new n h3]

set_option maxRecDepth 100000 in
set_option maxHeartbeats 2000000 in
theorem refAdded_ok (base : Nat) (v : Value) (L : List Rw) (k : ByteArray) (n : Int) (w : World) (h : RwIn w base v L) (hL : RGood L) (hb : base ≤ w.heap.size) :
    Calls Tryz.prog 27 #[v, .string k, .int .i64 n] w fun e w' => ∃ v', e = .returned v' ∧ RwIn w' base v' (addR L k n) ∧ Upd [] w w' := by
  have HF := Lib.hid (fun (m : Int) (W : World) => fits_ok m W)
  have HRow := Lib.hid (fun (W : World) (u : Upd [] w W) => refRow_ok v L k W (h.keep u).1 hL.srt)
  have HIn := Lib.hid (fun (W : World) (u : Upd [] w W) => h.keep u)
  obtain ⟨⟨a, cap, rfl, h1, h2, h3⟩, hbl⟩ := h
  clear h3
  unfold maxLen at h2
  have hfew := hL.few
  by_cases hk : 200 < k.size
  · have hA : Hid (addR L k n = L) := Lib.hid (by unfold addR; rw [if_pos (Or.inl hk)])
    have hk' : (200 : Int) < (k.size : Int) := by omega
    go_enter Tryz.func27, Tryz.ntmps27
    go_wp2_with fail
    go_ret
    exact ⟨_, rfl, by rw [hA.out]; exact HIn.out w (Upd.refl _ _), Upd.refl _ _⟩
  · have hk' : ¬ (200 : Int) < (k.size : Int) := by omega
    cases hw1 : withinB n with
    | false =>
      have hA : Hid (addR L k n = L) := Lib.hid (by unfold addR; rw [if_pos (Or.inr hw1)])
      go_enter Tryz.func27, Tryz.ntmps27
      go_wp2_with fail
      refine (HF.out _ _).mono ?_
      rintro e w1 ⟨rfl, hw_⟩
      subst hw_
      rewrite [hw1]
      go_wp2_with fail
      go_ret
      exact ⟨_, rfl, by rw [hA.out]; exact HIn.out _ (Upd.refl _ _), Upd.refl _ _⟩
    | true =>
      have hin := (withinB_iff n).1 hw1
      have h0 : ¬ (200 < k.size ∨ withinB n = false) := fun q => by
        rcases q with q | q
        · exact hk q
        · rw [hw1] at q; cases q
      have hG := getR_pos hL.srt k
      cases hg : getR L k with
      | some m =>
        rw [hg] at hG
        have hp : posR L k < L.length := by
          rcases Nat.lt_or_ge (posR L k) L.length with h | h
          · exact h
          · rw [dif_neg (by omega)] at hG; cases hG
        rw [dif_pos hp] at hG
        have hkm : (L[posR L k]).key = k ∧ L[posR L k].n = m := by
          split at hG
          · rename_i hk; exact ⟨hk, (Option.some.inj hG).symm⟩
          · cases hG
        have hmin := (withinB_iff m).1 (hL.fit _ (getR_mem hg)).2
        have hwr : IntKind.i64.wrap (m + n) = m + n := IntWalk.i64_in _ (by omega)
        have hput : putR L k (m + n) = L.set (posR L k) ⟨k, m + n⟩ := putR_old hL.srt _ hp hkm.1
        have hlt : ((posR L k : Nat) : Int) < (L.length : Int) := by omega
        have HKM := Lib.hid hkm
        clear hG hkm
        cases hw2 : withinB (m + n) with
        | false =>
          have hA : Hid (addR L k n = L) := Lib.hid (by unfold addR; rw [if_neg h0, hg]; dsimp only; rw [hw2]; rfl)
          rw [hg] at HRow
          generalize hpp : posR L k = p at *
          go_enter Tryz.func27, Tryz.ntmps27
          go_wp2_with fail
          refine (HF.out _ _).mono ?_
          rintro e w1 ⟨rfl, hw_⟩
          subst hw_
          rewrite [hw1]
          go_wp2_with fail
          refine (HRow.out _ (Upd.refl _ _)).mono ?_
          rintro e w2 ⟨rfl, hu2⟩
          obtain ⟨a', cap', hv', -, -, h3⟩ := (HIn.out w2 hu2).1
          simp only [Value.slice.injEq] at hv'
          obtain ⟨rfl, -, rfl⟩ := hv'
          obtain ⟨b, off, rfl, hc⟩ := h3 p hp
          have d1 : w2.cell? ⟨b, off + p * 2 + 1, none⟩ = some (.int .i64 m) := by rw [← HKM.out.2]; exact hc 1 _ rfl
          have HU2 := Lib.hid hu2
          clear hc h3 hu2
          go_wp2_with fail
          refine (HF.out _ _).mono ?_
          rintro e w3 ⟨rfl, hw_⟩
          subst hw_
          rewrite [hw2]
          go_wp2_with fail
          go_ret
          exact ⟨_, rfl, by rw [hA.out]; exact HIn.out _ HU2.out, HU2.out⟩
        | true =>
          have hA : Hid (addR L k n = L.set (posR L k) ⟨k, m + n⟩) := Lib.hid (by unfold addR; rw [if_neg h0, hg]; dsimp only; rw [hw2, if_pos rfl, hput])
          rw [hg] at HRow
          generalize hpp : posR L k = p at *
          go_enter Tryz.func27, Tryz.ntmps27
          go_wp2_with fail
          refine (HF.out _ _).mono ?_
          rintro e w1 ⟨rfl, hw_⟩
          subst hw_
          rewrite [hw1]
          go_wp2_with fail
          refine (HRow.out _ (Upd.refl _ _)).mono ?_
          rintro e w2 ⟨rfl, hu2⟩
          obtain ⟨a', cap', hv', -, -, h3⟩ := (HIn.out w2 hu2).1
          simp only [Value.slice.injEq] at hv'
          obtain ⟨rfl, -, rfl⟩ := hv'
          obtain ⟨b, off, rfl, hc⟩ := h3 p hp
          have d1 : w2.cell? ⟨b, off + p * 2 + 1, none⟩ = some (.int .i64 m) := by rw [← HKM.out.2]; exact hc 1 _ rfl
          have HU2 := Lib.hid hu2
          clear hc h3 hu2
          go_wp2_with fail
          refine (HF.out _ _).mono ?_
          rintro e w3 ⟨rfl, hw_⟩
          subst hw_
          rewrite [hw2]
          go_wp2_with (at_builtin; refine wpList_append_G rowT rfl _ _ rfl (l := []) rfl (OwnG.empty rowT (heap_top _ _) (Nat.le_refl _)) rfl (SlAt.srcG rowT (fun _ _ _ hx => hx) (HIn.out _ (HU2.out.alloc _)).1) (one_R _) ?c1 ?c2 ?c3 ?_)
          case c1 => simp; omega
          case c2 => simp; omega
          case c3 => simp
          intro v4 w4 hown0 hgrow _
          have hown : OwnG cellsR 41 2 w4 w3.heap.size v4 L := by simpa using hown0
          have hU4 : Upd [] w3 w4 := ((Upd.refl [] w3).alloc _).grown hgrow (fun k hk => by simp [Value.ownBlock] at hk; omega)
          replace d1 := cell_keep hU4 d1
          obtain ⟨va, vc, rfl⟩ := hown.slice
          obtain ⟨-, -, -, hat⟩ := hown.at rowT
          obtain ⟨g, rfl, hg0, fz, hcp⟩ := hat p hp
          have f1 : w4.cell? ⟨g, p * 2 + 1, none⟩ = some (.int .i64 L[p].n) := hcp 1 _ rfl
          have hw3 : w1.heap.size ≤ w3.heap.size := HU2.out.size
          have hpost : RwIn (w4.setCell ⟨g, p * 2 + 1, none⟩ (.int .i64 (m + n))) base (.slice (some ⟨g, 0, none⟩) L.length vc) (L.set p ⟨k, m + n⟩) ∧ Upd [] w1 (w4.setCell ⟨g, p * 2 + 1, none⟩ (.int .i64 (m + n))) := by
            refine ⟨⟨?_, fun g' hg' => by
              have e : g = g' := by simpa [Value.ownBlock] using hg'
              omega⟩, (HU2.out.trans hU4).setCellNew (by omega) _ _⟩
            obtain ⟨a1, c1, e1, q1, q2, q3⟩ := hown.sl rowT
            simp only [Value.slice.injEq] at e1
            obtain ⟨rfl, -, rfl⟩ := e1
            refine ⟨_, _, by rw [List.length_set], by rw [List.length_set]; exact q1, q2, fun i hi => ⟨g, 0, rfl, fun j u hu => ?_⟩⟩
            rw [List.length_set] at hi
            obtain ⟨b', off', e', hci⟩ := q3 i hi
            cases e'
            rw [Nat.zero_add] at hci ⊢
            by_cases hip : i = p
            · subst hip
              rw [List.getElem_set_self] at hu
              match j, hu with
              | 0, hu =>
                cases hu
                have := hci 0 _ rfl
                rw [HKM.out.1] at this
                rw [World.cell?_setCell_other _ _ _ _ (by simp)]
                exact this
              | 1, hu =>
                cases hu
                exact World.cell?_setCell_same _ _ _ f1
              | j + 2, hu => simp [cellsR] at hu
            · rw [List.getElem_set_ne (by omega)] at hu
              have hj : j < 2 := by
                rcases Nat.lt_or_ge j 2 with h | h
                · exact h
                · rw [List.getElem?_eq_none (by simpa using h)] at hu; cases hu
              rw [World.cell?_setCell_other _ _ _ _ (by intro e; simp only [Addr.mk.injEq, true_and, and_true] at e; omega)]
              exact hci j u hu
          have HP := Lib.hid hpost
          have hgl : g < w4.heap.size := World.block_lt_of_cell? _ _ f1
          clear hpost hown hown0 hgrow hU4 hat hcp
          go_wp2_with fail
          go_ret
          exact ⟨_, rfl, by rw [hA.out]; exact HP.out.1, HP.out.2⟩
      | none =>
        have h3' : ¬ (getR L k).isSome = true := by rw [hg]; simp
        have hpl := posR_le L k
        rw [hg] at HRow
        by_cases h200 : 200 ≤ L.length
        · have hA : Hid (addR L k n = L) := Lib.hid (by unfold addR; rw [if_neg h0, hg]; dsimp only; rw [if_pos h200])
          have h200' : (200 : Int) ≤ (L.length : Int) := by omega
          generalize hpp : posR L k = p at *
          go_enter Tryz.func27, Tryz.ntmps27
          go_wp2_with fail
          refine (HF.out _ _).mono ?_
          rintro e w1 ⟨rfl, hw_⟩
          subst hw_
          rewrite [hw1]
          go_wp2_with fail
          refine (HRow.out _ (Upd.refl _ _)).mono ?_
          rintro e w2 ⟨rfl, hu2⟩
          have HU2 := Lib.hid hu2
          clear hu2
          go_wp2_with fail
          go_ret
          exact ⟨_, rfl, by rw [hA.out]; exact HIn.out _ HU2.out, HU2.out⟩
        · have hA : Hid (addR L k n = L.take (posR L k) ++ ⟨k, n⟩ :: L.drop (posR L k)) := Lib.hid (addR_new (by omega) hw1 hg (by omega))
          have h200' : ¬ (200 : Int) ≤ (L.length : Int) := by omega
          have hspl : L = L.take (posR L k) ++ L.drop (posR L k) := (List.take_append_drop _ L).symm
          obtain ⟨A1, q1, hs1, hS1⟩ := rw_hi (HIn.out w (Upd.refl _ _)).1 (L.take (posR L k)) (L.drop (posR L k)) hspl
          obtain ⟨A2, q2, hs2, hS2⟩ := rw_lo (HIn.out w (Upd.refl _ _)).1 (L.take (posR L k)) (L.drop (posR L k)) hspl
          have hlen : posR L k = (L.take (posR L k)).length := by simp; omega
          have hlen2 : (L.take (posR L k)).length + (L.drop (posR L k)).length ≤ 200 := by simp; omega
          have HS1 := Lib.hid hS1
          have HS2 := Lib.hid hS2
          clear hspl hS1 hS2 hG h3'
          generalize posR L k = p at *
          generalize L.take p = l1 at *
          generalize L.drop p = l2 at *
          subst hlen
          go_enter Tryz.func27, Tryz.ntmps27
          go_wp2_with fail
          refine (HF.out _ _).mono ?_
          rintro e w1 ⟨rfl, hw_⟩
          subst hw_
          rewrite [hw1]
          go_wp2_with fail
          refine (HRow.out _ (Upd.refl _ _)).mono ?_
          rintro e wq ⟨rfl, hu2⟩
          have HUq := Lib.hid hu2
          have hsz0 : w1.heap.size ≤ wq.heap.size := hu2.size
          clear hu2
          go_wp2_with fail
          have HGT : Hid (∀ W : World, (W.alloc (.cells #[.string k, .int .i64 n] 41)).heap[W.heap.size]? = some (.cells #[.string k, .int .i64 n] 41 (0, 0))) := Lib.hid fun W => by rw [heap_alloc, if_pos rfl]
          have HNE : Hid (∀ W : World, (W.alloc (.cells #[] 41)).heap[W.heap.size]? = some (.cells #[] 41 (0, 0))) := Lib.hid fun W => by rw [heap_alloc, if_pos rfl]
          have HE2 : Hid (∀ W : World, ((W.alloc (.cells #[] 41)).alloc (.cells #[.string k, .int .i64 n] 41)).heap[W.heap.size]? = some (.cells #[] 41 (0, 0))) := Lib.hid fun W => by rw [heap_alloc, if_neg (by simp), heap_alloc, if_pos rfl]
          have HX2 : Hid (∀ W : World, ((W.alloc (.cells #[] 41)).alloc (.cells #[.string k, .int .i64 n] 41)).heap[W.heap.size + 1]? = some (.cells #[.string k, .int .i64 n] 41 (0, 0))) := Lib.hid fun W => by rw [heap_alloc, if_pos (by simp)]
          have HE3 : Hid (∀ W : World, ((W.alloc (.cells #[.string k, .int .i64 n] 41)).alloc (.cells #[] 41)).heap[W.heap.size + 1]? = some (.cells #[] 41 (0, 0))) := Lib.hid fun W => by rw [heap_alloc, if_pos (by simp)]
          have HX3 : Hid (∀ W : World, ((W.alloc (.cells #[.string k, .int .i64 n] 41)).alloc (.cells #[] 41)).heap[W.heap.size]? = some (.cells #[.string k, .int .i64 n] 41 (0, 0))) := Lib.hid fun W => by rw [heap_alloc, if_neg (by simp), heap_alloc, if_pos rfl]
          go_region_held3 (fun _ => True)
            (first | go_keep | trivial)
            (first
              | (refine step_append_R (by rfl) _ _ (by rfl) (base := wq.heap.size) (v := .slice (some ⟨wq.heap.size, 0, none⟩) 0 0) (l := []) (A := A1) (c := q1) (r := l1) (by rfl) (by exact OwnG.empty rowT (by exact HNE.out wq) (by omega)) (by rfl) (by exact HS1.out _ (HIn.out _ (by repeat' first | exact HUq.out | apply Upd.alloc | apply Upd.drew)).1) ?_ ?_ ?_; (simp; omega); (simp <;> omega); intro v1 w1' hown1 hgrow; have u1 : Upd [] w1 w1' := Upd.grown (by repeat' first | exact HUq.out | apply Upd.alloc | apply Upd.drew) hgrow (fun k hk => by simp [Value.ownBlock] at hk; omega))
              | (refine step_append_R (by rfl) _ _ (by rfl) (base := wq.heap.size) (v := .slice (some ⟨wq.heap.size, 0, none⟩) 0 0) (l := []) (A := A1) (c := q1) (r := l1) (by rfl) (by exact OwnG.empty rowT (by exact HE2.out wq) (by omega)) (by rfl) (by exact HS1.out _ (HIn.out _ (by repeat' first | exact HUq.out | apply Upd.alloc | apply Upd.drew)).1) ?_ ?_ ?_; (simp; omega); (simp <;> omega); intro v1 w1' hown1 hgrow; have u1 : Upd [] w1 w1' := Upd.grown (by repeat' first | exact HUq.out | apply Upd.alloc | apply Upd.drew) hgrow (fun k hk => by simp [Value.ownBlock] at hk; omega); have hbx : w1'.heap[wq.heap.size + 1]? = some (.cells #[.string k, .int .i64 n] 41 (0, 0)) := (by rw [hgrow.block _ (by simp <;> omega) (by simp [Value.ownBlock] <;> omega)]; exact HX2.out wq))
              | (refine step_append_R (by rfl) _ _ (by rfl) (base := wq.heap.size) (v := .slice (some ⟨wq.heap.size + 1, 0, none⟩) 0 0) (l := []) (A := A1) (c := q1) (r := l1) (by rfl) (by exact OwnG.empty rowT (by exact HE3.out wq) (by omega)) (by rfl) (by exact HS1.out _ (HIn.out _ (by repeat' first | exact HUq.out | apply Upd.alloc | apply Upd.drew)).1) ?_ ?_ ?_; (simp; omega); (simp <;> omega); intro v1 w1' hown1 hgrow; have u1 : Upd [] w1 w1' := Upd.grown (by repeat' first | exact HUq.out | apply Upd.alloc | apply Upd.drew) hgrow (fun k hk => by simp [Value.ownBlock] at hk; omega); have hbx : w1'.heap[wq.heap.size]? = some (.cells #[.string k, .int .i64 n] 41 (0, 0)) := (by rw [hgrow.block _ (by simp <;> omega) (by simp [Value.ownBlock] <;> omega)]; exact HX3.out wq))
              | (refine step_append_R (by rfl) _ _ (by rfl) (base := wq.heap.size) (v := v1) (l := [] ++ l1) (A := some ⟨w1'.heap.size, 0, none⟩) (c := 1) (r := [⟨k, n⟩]) (by rfl) (by exact hown1.upd ((Upd.refl [] _).alloc _) (by simp)) (by rfl) (by exact srcR_box (HGT.out w1')) ?_ ?_ ?_; (simp; omega); (have := hgrow.size; simp at this ⊢; omega); intro v2 w2' hown2 hgrow2; have u2 : Upd [] w1 w2' := Upd.grown (u1.alloc _) hgrow2 (fun k hk => by have := (hown1.block k hk).1; omega))
              | (refine step_append_R (by rfl) _ _ (by rfl) (base := wq.heap.size) (v := v1) (l := [] ++ l1) (A := some ⟨wq.heap.size + 1, 0, none⟩) (c := 1) (r := [⟨k, n⟩]) (by rfl) (by exact hown1) (by rfl) (by exact srcR_box hbx) ?_ ?_ ?_; (simp; omega); (have := hgrow.size; simp at this ⊢; omega); intro v2 w2' hown2 hgrow2; have u2 : Upd [] w1 w2' := Upd.grown u1 hgrow2 (fun k hk => by have := (hown1.block k hk).1; omega))
              | (refine step_append_R (by rfl) _ _ (by rfl) (base := wq.heap.size) (v := v1) (l := [] ++ l1) (A := some ⟨wq.heap.size, 0, none⟩) (c := 1) (r := [⟨k, n⟩]) (by rfl) (by exact hown1) (by rfl) (by exact srcR_box hbx) ?_ ?_ ?_; (simp; omega); (have := hgrow.size; simp at this ⊢; omega); intro v2 w2' hown2 hgrow2; have u2 : Upd [] w1 w2' := Upd.grown u1 hgrow2 (fun k hk => by have := (hown1.block k hk).1; omega))
              | (refine step_append_R (by rfl) _ _ (by rfl) (base := wq.heap.size) (v := v2) (l := [] ++ l1 ++ [⟨k, n⟩]) (A := A2) (c := q2) (r := l2) (by rfl) (by exact hown2) (by rfl) (by exact HS2.out _ (HIn.out _ u2).1) ?_ ?_ ?_; (simp; omega); (have := hgrow.size; have := hgrow2.size; simp at *; omega); intro v3 w3 hown3 hgrow3; have u3 : Upd [] w1 w3 := Upd.grown u2 hgrow3 (fun k hk => by have := (hown2.block k hk).1; omega)))
          all_goals
            have HO : Hid (RwIn w3 base v3 (addR L k n) ∧ Upd [] w1 w3) := Lib.hid ⟨by rw [hA.out]; exact RwIn.of_own (by simpa using hown3) (by omega), u3⟩
            clear hown3 hown2 hown1 hgrow hgrow2 hgrow3 u1 u2 u3 hs1 hs2
            go_wp2_with fail
            go_ret
            exact ⟨_, rfl, HO.out.1, HO.out.2⟩
end Go.Proofs.YtajppgngoffonaaGreatDoor
