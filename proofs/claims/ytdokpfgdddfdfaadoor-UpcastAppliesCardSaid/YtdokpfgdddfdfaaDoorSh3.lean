/- The sheet: Drop. -/
import Derived.Test.YtdokpfgdddfdfaaDoorSh2
namespace Go.Proofs.YtdokpfgdddfdfaaDoor
open Go.RowKit

theorem Own.keep {w w' : World} {base : Nat} {v : Value} {l : List Fd} (h : Own w base v l) (u : Upd [] w w') : Own w' base v l := own_upd h u (by simp)

set_option maxRecDepth 100000 in
set_option maxHeartbeats 800000 in
theorem drop_ok (v : Value) (l : List Fd) (k : ByteArray) (w : World) (h : RecAt w v l) (hl : l.length * 48 ≤ 140737488355328) : Calls Tryd.prog 49 #[v, .string k] w (OwnPost (dropF l k) w) := by
  have HR := Lib.hid (fun (W : World) (u : Upd [] w W) => h.keep u)
  have HC := Lib.hid (clone_ok v l w h hl)
  obtain ⟨a, cap, rfl, -, -⟩ := h.isSlice
  rcases posF_cases l k with ⟨hp, hn, -⟩ | ⟨i, hi, hp, hk, hn, -⟩
  · rw [dropF_miss hn]
    have HP := Lib.hid hp
    clear hp hn h
    go_enter Tryd.func49, Tryd.ntmps49
    go_wp2_with fail
    refine HC.out.mono ?_
    rintro e w1 ⟨v1, rfl, hown, hu⟩
    have HO := Lib.hid hown
    have HU := Lib.hid hu
    clear hown hu HC
    go_wp2_with fail
    refine (at_ok _ l k _ (HR.out _ HU.out)).mono ?_
    rintro e w2 ⟨rfl, hu2⟩
    have HO2 : Hid (Own w2 w.heap.size v1 l ∧ Upd [] w w2) := Lib.hid ⟨Own.keep HO.out hu2, HU.out.trans hu2⟩
    rw [HP.out]
    clear hu2 HO HU
    go_wp2_with fail
    go_ret
    exact ⟨v1, rfl, HO2.out.1, HO2.out.2⟩
  · have hsp : l = l.take i ++ l[i] :: l.drop (i + 1) := by rw [List.getElem_cons_drop]; simp
    have hn' : ∀ y ∈ l.take i, y.nm ≠ k := fun y hy => by
      obtain ⟨j, hj, rfl⟩ := List.mem_iff_getElem.1 hy
      rw [List.getElem_take]
      exact hn j (by rw [List.length_take] at hj; omega)
    have hlen : (l.take i).length = i := by simp; omega
    generalize l.take i = l1 at *
    generalize l[i] = x at *
    generalize l.drop (i + 1) = l2 at *
    subst hsp
    rw [dropF_hit hn' hk]
    subst hlen
    have HP := Lib.hid hp
    have hb : (l1.length : Int) + 1 ≤ 9223372036854775807 := by simp at hl; omega
    clear hp hn hn' h hk
    generalize hN : (l1 ++ x :: l2).length = N at *
    have HN := Lib.hid hN
    clear hN
    go_enter Tryd.func49, Tryd.ntmps49
    go_wp2_with fail
    refine HC.out.mono ?_
    rintro e w1 ⟨v1, rfl, hown, hu⟩
    obtain ⟨g, cap1, X, rfl, hbg, -⟩ := Own.blk (l := l1 ++ x :: l2) hown (by simp; omega)
    rw [HN.out]
    have HO := Lib.hid hown
    have HU := Lib.hid hu
    clear hown hu HC
    go_wp2_with fail
    refine (at_ok _ _ k _ (HR.out _ HU.out)).mono ?_
    rintro e w2 ⟨rfl, hu2⟩
    have hd := delete_ok (l1 := l1) (l2 := l2) (x := x) w2 (Own.keep HO.out hu2)
    rw [HN.out] at hd
    have HO2 : Hid (Upd [] w w2) := Lib.hid (HU.out.trans hu2)
    rw [HP.out]
    clear hu2 HO HU
    have hwr : IntKind.i64.wrap ((l1.length : Int) + 1) = (l1.length : Int) + 1 := IntWalk.i64_in _ (by omega)
    go_wp2_with fail
    refine hd.mono ?_
    rintro e w3 ⟨rfl, hown3, hu3⟩
    have HO3 : Hid (Own w3 w.heap.size (.slice (some ⟨g, 0, none⟩) (l1.length + l2.length) cap1) (l1 ++ l2)) := Lib.hid (by rw [← List.length_append]; exact hown3)
    have HU3 : Hid (Upd [] w w3) := Lib.hid (HO2.out.next hu3 (fun q hq hlt => by simp at hq; omega))
    clear hown3 hu3 hd
    go_wp2_with fail
    go_ret
    exact ⟨_, rfl, HO3.out, HU3.out⟩
end Go.Proofs.YtdokpfgdddfdfaaDoor
