/- BcacheNone returns true, whatever its two numbers: without a cache each call answers as the law asks. -/
import Derived.Test.YtgndkmdmpiiedaaAwake
import Derived.Test.YtgndkmdmpiiedaaII3
namespace Go.Proofs.Ytgndkmdmpiiedaa
open Go.RowKit

namespace II
theorem there_nil (w : World) (k : Int) : Calls Try.prog 51 #[.pointer none, .int .i64 k] w fun e w' => e = .returned (.tuple #[.pointer none, .int .i64 1]) ∧ w = w' := by
  go_enter Try.func51, Try.ntmps51
  go_wp2_with fail
  go_ret2
  exact ⟨rfl, rfl⟩
theorem pin_nil (w : World) (k : Int) : Calls Try.prog 23 #[.pointer none, .int .i64 k] w fun e w' => e = .returned (.int .i64 1) ∧ w = w' := by
  go_enter Try.func23, Try.ntmps23
  go_wp2_with fail
  refine (there_nil w k).mono ?_
  rintro e w1 ⟨rfl, rfl⟩
  go_wp2_with fail
  go_ret
  exact ⟨rfl, rfl⟩
theorem unpin_nil (w : World) (k : Int) : Calls Try.prog 24 #[.pointer none, .int .i64 k] w fun e w' => e = .returned (.int .i64 1) ∧ w = w' := by
  go_enter Try.func24, Try.ntmps24
  go_wp2_with fail
  refine (there_nil w k).mono ?_
  rintro e w1 ⟨rfl, rfl⟩
  go_wp2_with fail
  go_ret
  exact ⟨rfl, rfl⟩
theorem clean_nil (w : World) (k : Int) : Calls Try.prog 25 #[.pointer none, .int .i64 k] w fun e w' => e = .returned (.int .i64 1) ∧ w = w' := by
  go_enter Try.func25, Try.ntmps25
  go_wp2_with fail
  refine (there_nil w k).mono ?_
  rintro e w1 ⟨rfl, rfl⟩
  go_wp2_with fail
  go_ret
  exact ⟨rfl, rfl⟩
theorem drop_nil (w : World) (k : Int) : Calls Try.prog 26 #[.pointer none, .int .i64 k] w fun e w' => e = .returned (.int .i64 1) ∧ w = w' := by
  go_enter Try.func26, Try.ntmps26
  go_wp2_with fail
  refine (there_nil w k).mono ?_
  rintro e w1 ⟨rfl, rfl⟩
  go_wp2_with fail
  go_ret
  exact ⟨rfl, rfl⟩
theorem keys_nil (w : World) : Calls Try.prog 28 #[.pointer none] w fun e w' => e = .returned (.slice none 0 0) ∧ w = w' := by
  go_enter Try.func28, Try.ntmps28
  go_wp2
  go_ret
  exact ⟨rfl, rfl⟩
theorem dirty_nil (w : World) : Calls Try.prog 29 #[.pointer none] w fun e w' => e = .returned (.slice none 0 0) ∧ w = w' := by
  go_enter Try.func29, Try.ntmps29
  go_wp2
  go_ret
  exact ⟨rfl, rfl⟩
end II

namespace bcacheNone
set_option maxRecDepth 100000 in
set_option maxHeartbeats 1000000 in
theorem walk (a0 : Int) (a1 : Int) (w : World) :
    Calls Try.prog 6 #[.int .i64 a0, .int .i64 a1] w fun e w' => e = .returned (.bool true) ∧ Upd [] w w' := by
  go_enter Try.func6, Try.ntmps6
  go_wp2_with fail
  refine (awake_ok w).mono ?_
  rintro e w1 ⟨rfl, hU⟩
  go_wp2_with fail
  refine (II.get_nil w1 a0).mono ?_
  rintro e w2 ⟨rfl, rfl⟩
  go_wp2_with fail
  refine (II.put_nil w1 a0 a1 true).mono ?_
  rintro e w2 ⟨rfl, hU2⟩
  have hV := hU.fresh hU2 (by simp)
  clear hU hU2
  go_wp2_with fail
  refine (II.pin_nil w2 a0).mono ?_
  rintro e w3 ⟨rfl, rfl⟩
  go_wp2_with fail
  refine (II.unpin_nil w2 a0).mono ?_
  rintro e w3 ⟨rfl, rfl⟩
  go_wp2_with fail
  refine (II.clean_nil w2 a0).mono ?_
  rintro e w3 ⟨rfl, rfl⟩
  go_wp2_with fail
  refine (II.drop_nil w2 a0).mono ?_
  rintro e w3 ⟨rfl, rfl⟩
  go_wp2_with fail
  refine (II.len_nil w2).mono ?_
  rintro e w3 ⟨rfl, rfl⟩
  go_wp2_with fail
  refine (II.keys_nil w2).mono ?_
  rintro e w3 ⟨rfl, rfl⟩
  go_wp2_with fail
  refine (II.dirty_nil w2).mono ?_
  rintro e w3 ⟨rfl, rfl⟩
  go_wp2_with fail
  go_ret
  exact ⟨rfl, hV⟩
end bcacheNone
end Go.Proofs.Ytgndkmdmpiiedaa
