/- awake: the chapter's examples come out as the document says, in any world: true, and no block that was there has turned. -/
import Derived.Test.YtgndkmdmpiiedaaIS3
namespace Go.Proofs.Ytgndkmdmpiiedaa
open Go.RowKit

/-- From a fresh cache's footprint on: nothing old. -/
theorem Upd.fresh {F : List Nat} {w a b : World} (h : Upd [] w a) (g : Upd F a b) (hF : ∀ k ∈ F, w.heap.size ≤ k) : Upd [] w b :=
  h.next g (fun k hk hlt => by have := hF k hk; omega)

set_option maxRecDepth 100000 in
set_option maxHeartbeats 1000000 in
theorem awake_ok (w : World) : Calls Try.prog 7 #[] w fun e w' => e = .returned (.bool true) ∧ Upd [] w w' := by
  go_enter Try.func7, Try.ntmps7
  go_wp2_with fail
  refine (IS.new_ok 2 w (by omega) (by omega)).mono ?_
  rintro e w1 ⟨c, m, rfl, hR, hU, hc, hm⟩
  go_wp2_with fail
  refine (IS.put_new w1 hR 1 (by simp) ⟨#[97]⟩ false (by simp)).mono ?_
  rintro e w2 ⟨a1, rfl, hR2, hU2, ha1⟩
  have hV2 := hU.fresh hU2 (by simp; omega)
  have hq1 := hU.size
  go_wp2_with fail
  refine (IS.put_new w2 hR2 2 (by simp) ⟨#[98]⟩ true (by simp)).mono ?_
  rintro e w3 ⟨a2, rfl, hR3, hU3, ha2⟩
  have hV3 := hV2.fresh hU3 (by simp; omega)
  have hq2 := hV2.size
  go_wp2_with fail
  refine (IS.get_hit (l1 := []) w3 hR3 1 rfl).mono ?_
  rintro e w4 ⟨rfl, hR4, hU4⟩
  have hV4 := hV3.fresh hU4 (by simp; omega)
  have hq3 := hV3.size
  go_wp2_with fail
  refine (IS.put_goes (l1 := []) w4 hR4 3 (by simp) ⟨#[99]⟩ false (by simp) (by simp) rfl).mono ?_
  rintro e w5 ⟨a3, rfl, hR5, hU5, ha3⟩
  have hV5 := hV4.fresh hU5 (by simp; omega)
  clear hR hR2 hR3 hR4 hU hU2 hU3 hU4 hU5 hV2 hV3 hV4
  go_wp2_with fail
  refine (IS.len_ok w5 hR5).mono ?_
  rintro e w6 ⟨rfl, rfl⟩
  go_wp2_with fail
  go_ret
  exact ⟨rfl, hV5⟩
end Go.Proofs.Ytgndkmdmpiiedaa
