/- Strings and bytes; rows of bytes that came in; how many blocks are free. What files give back is free again: the walk of FsdirRoom. What is put behind a file is what is read of it: the walk of FsdirBack. -/
import Derived.Deep.DeepCutAuto
import Derived.Deep.CutBlock
import Derived.BigQuiet
import Derived.Test.YteepgehjkcahiaaGreatC36
import Derived.Test.YteepgehjkcahiaaGreatC35
namespace Go.Proofs.YteepgehjkcahiaaGreat
open Go.RowKit Go.Maps
theorem strOf_list (l : Bs) : (strOf l).data.toList = l := by simp [strOf]
theorem strOf_size (l : Bs) : (strOf l).size = l.length := by simp [strOf, ByteArray.size]
theorem strOf_append (a b : Bs) : strOf a ++ strOf b = strOf (a ++ b) := by
 apply ByteArray.ext
 rw [ByteArray.data_append]
 simp [strOf]
theorem strOf_eq {s : ByteArray} {l : Bs} (h : s.data.toList = l) : s = strOf l := by
 apply ByteArray.ext
 simp [strOf, ← h]
end Go.Proofs.YteepgehjkcahiaaGreat

namespace Go.Proofs.YteepgehjkcahiaaGreat
open Go.RowKit Go.Maps
theorem pick_ok (c n : Int) (w : World) (h1 : -9223372036854775808 ≤ c) (h2 : c ≤ 9223372036854775807) (h3 : 1 ≤ n) (h4 : n ≤ 1000000) :
  Calls Tryz.prog 14 #[.int .i64 c, .int .i64 n] w fun e w' => (∃ r : Int, e = .returned (.int .i64 r) ∧ 0 ≤ r ∧ r < n) ∧ w = w' := by
 have HE : Hid (∀ r : Int, 0 ≤ r → 0 ≤ r % n ∧ r % n < n) := Lib.hid (fun r hr => ⟨Int.emod_nonneg _ (by omega), Int.emod_lt_of_pos _ (by omega)⟩)
 have HT : Hid (c < 0 → 0 ≤ -((c + 1).tmod n) ∧ -((c + 1).tmod n) < n) := Lib.hid (fun h => by
  have e : -((c + 1).tmod n) = (-(c + 1)) % n := by rw [← Int.neg_tmod, Int.tmod_eq_emod_of_nonneg (by omega)]
  rw [e]; exact HE.out _ (by omega))
 by_cases h : c < 0
 ·have hz : (n == 0) = false := by simp; omega
  go_enter Tryz.func14, Tryz.ntmps14
  go_wp2
  go_ret
  exact ⟨⟨-((c + 1).tmod n), rfl, HT.out h⟩, rfl⟩
 ·have hz : (n == 0) = false := by simp; omega
  go_enter Tryz.func14, Tryz.ntmps14
  go_wp2
  go_ret
  exact ⟨⟨_, rfl, HE.out _ (by omega)⟩, rfl⟩
end Go.Proofs.YteepgehjkcahiaaGreat

namespace Go.Proofs.YteepgehjkcahiaaGreat
open Go.RowKit Go.Maps
end Go.Proofs.YteepgehjkcahiaaGreat
