/- Opening rows of calls. Rows of texts: SameTexts; a live file system beside rows of the call's own. Bytes: a call's data, some times over. A file system whose device may have a fuse, or went down: each call in one step. -/
import Derived.Test.YtgpefiacbipfpaaGreatDoorC30
namespace Go.Proofs.YtgpefiacbipfpaaGreatDoor
open Go.ChangeShapes Go.WideShapes Go.ChangeAt Go.RowKit Go.Deep
section
variable {H : Type} {enc : TypeId × Value → H} {w : World} {base : Nat} {spare : Nat → Bool} {held : Bool}
end
end Go.Proofs.YtgpefiacbipfpaaGreatDoor

namespace Go.Proofs.YtgpefiacbipfpaaGreatDoor
open Go.RowKit Go.Maps
theorem strOf_beq (a b : Bs) : ((strOf a).toList == (strOf b).toList) = decide (a = b) := by
 rw [Bool.eq_iff_iff]
 simp only [beq_iff_eq, decide_eq_true_eq]
 constructor
 ·intro h
  have h2 : (strOf a).data.toList = (strOf b).data.toList := by
   have := h
   simpa [ByteArray.toList_eq] using this
  simpa [strOf_list] using h2
 ·rintro rfl; rfl
section
variable {w0 w w' : World} {v p room : Nat} {fs last : Files} {c : Nat} {G : List Nat}
theorem Lv.guardF (h : Lv w0 w v p room fs last c G) {F : List Nat} (u : Upd F w w') (hF : ∀ i ∈ F, i ∈ G ∧ w0.heap.size ≤ i) {G' : List Nat} (hg : ∀ b ∈ G', w.heap.size ≤ b ∧ b < w'.heap.size) : Lv w0 w' v p room fs last c (G' ++ G) := by
 obtain ⟨D, k, s, X, h1, h2, h3, h4⟩ := h.st
 refine ⟨⟨D, k, s, X, ⟨h1.at_.keep u (fun i hi q => h4 i (hF i q).1 hi), h1.fuse, h1.upd.next u (fun i hi hlt => by have := (hF i hi).2; omega), h1.low⟩, h2, h3, fun i hi q => ?_⟩, fun i hi => ?_⟩
 ·rcases List.mem_append.1 hi with e | e
  ·have := h1.at_.lt i q
   have := (hg i e).1
   omega
  ·exact h4 i e q
 ·rcases List.mem_append.1 hi with e | e
  ·exact (hg i e).2
  ·exact Nat.lt_of_lt_of_le (h.lt i e) u.size
theorem blks_sum {room : Nat} {fs : Files} (h : FilesOk room fs) : (allBlks fs).length = (fs.map fun p => blocksN p.2.data.length).sum := by
 have h1 : ∀ p ∈ fs, p.2.blks.length = blocksN p.2.data.length := fun p hp => (h.ok p hp).blks_len
 clear h
 induction fs with
 | nil => rfl
 | cons x l ih =>
  have e := ih fun p hp => h1 p (List.mem_cons_of_mem _ hp)
  have e2 := h1 x (List.mem_cons_self ..)
  simp only [allBlks, List.flatMap_cons, List.length_append, List.map_cons, List.sum_cons] at e ⊢
  rw [e2]
  omega
theorem blks_le {room : Nat} {fs : Files} (h : FilesOk room fs) {k : Nat} (hk : ∀ p ∈ fs, p.2.data.length ≤ 512 * k) : (allBlks fs).length ≤ k * fs.length := by
 rw [blks_sum h]
 clear h
 induction fs with
 | nil => simp
 | cons x l ih =>
  have e := ih fun p hp => hk p (List.mem_cons_of_mem _ hp)
  have e2 := hk x (List.mem_cons_self ..)
  rw [List.map_cons, List.sum_cons, List.length_cons, Nat.mul_succ]
  have : blocksN x.2.data.length ≤ k := by unfold blocksN; omega
  omega
end
end Go.Proofs.YtgpefiacbipfpaaGreatDoor

namespace Go.Proofs.YtgpefiacbipfpaaGreatDoor
open Go.RowKit Go.Maps
section
variable {w0 W : World} {v p room : Nat} {fs last : Files} {c : Nat} {G : List Nat}
end
end Go.Proofs.YtgpefiacbipfpaaGreatDoor

namespace Go.Proofs.YtgpefiacbipfpaaGreatDoor
open Go.RowKit Go.Maps
section
variable {w0 w w' : World} {v p room : Nat} {fs last : Files} {c : Nat} {G : List Nat} {P : Files → Prop}
end
end Go.Proofs.YtgpefiacbipfpaaGreatDoor
