/- The log's Put. A file's node in memory: New, Size, blocks, Runs. A node's Need. A node's Copy. -/
import Derived.Deep.RegionHeld3
import Derived.Test.YtgpefiacbipfpaaGreatDoorC09
namespace Go.Proofs.YtgpefiacbipfpaaGreatDoor
open Go.RowKit Go.Maps
def JDoPost (w : World) (j p n k : Nat) (D : Dev) (F : List Nat) (t : List DOp) (r : Ending) (w' : World) : Prop :=
 ∃ (e : Nat) (D' : Dev) (F' : List Nat), r = .returned (.int .i64 e) ∧ Eff t D e D' ∧ DevAt w' p D' F' ∧ LogR w' j p n k (decide (e = 2)) ∧ Upd (j :: F) w w' ∧ ∀ i ∈ F', i ∈ F ∨ w.heap.size ≤ i
set_option maxRecDepth 100000 in
set_option maxHeartbeats 4000000 in
theorem jput_ok (w : World) {j p n k : Nat} (h : LogR w j p n k false) {D : Dev} {F : List Nat} (hd : DevAt w p D F) (hdn : D.down = false) (hnD : n + 20 = D.n) (hwr : D.wr ≤ 137438953000) (hjF : j ∉ F) (x : Nat) (hx : x < n)
  {b off c : Nat} {d : Bs} (hv : Rd w (.slice (some ⟨b, off, none⟩) 512 c) d) (hd5 : d.length = 512) (hbF : b ∉ F) (hbj : b ≠ j) :
  Calls Tryz.prog 94 #[.pointer (some ⟨j, 0, none⟩), .int .i64 x, .slice (some ⟨b, off, none⟩) 512 c] w (JDoPost w j p n k D F [.write (20 + x) d]) := by
 have hbn := hd.bounds
 have HU := Lib.hid (use_ok w h hd (by omega) (x : Int) (some ⟨b, off, none⟩) 512 c true)
 have hE : useE (false || D.down) (x : Int) n (true && decide (512 ≠ 512)) = 0 := by rw [hdn]; simp [useE]; omega
 rw [hE, hdn] at HU
 have HD := Lib.hid hd
 have HV := Lib.hid hv
 have hpl := lt_of_blk h
 clear h hE hv
 clear hd
 go_enter Tryz.func94, Tryz.ntmps94
 go_wp2_with fail
 refine HU.out.mono ?_
 rintro r w1 ⟨rfl, hl, hu⟩
 have hl' : LogR w1 j p n k false := hl
 have c0 := cell_blk hl' 0
 simp only [List.getElem?_toArray, List.getElem?_cons_zero] at c0
 have H1 := Lib.hid (And.intro hl' hu)
 have HD1 := Lib.hid (HD.out.upd hu (fun k hk q => hjF (by obtain rfl := List.mem_singleton.1 q; exact hk)))
 have HW := Lib.hid (write_ok w1 HD1.out (20 + x) (by omega) (by omega) (HV.out.upd hu (fun g hg q => by cases hg; exact hbj (List.mem_singleton.1 q))) hd5 hbF)
 have e20 : ((20 + x : Nat) : Int) = 20 + (x : Int) := by omega
 rewrite [e20] at HW
 have hs1 := hu.size
 clear hl hu HU e20 hl'
 go_wp2_with fail
 refine HW.out.mono ?_
 rintro r w2 ⟨e, D2, F2, rfl, hE2, hD2, hU2, hF2⟩
 have HE := Lib.hid (ended_ok w2 (H1.out.1.upd hU2 hjF) e)
 rw [Bool.false_or] at HE
 have hjF2 : j ∉ F2 := fun q => by
  rcases hF2 j q with q | q
  ·exact hjF q
  ·omega
 have H2 := Lib.hid (And.intro hE2 (And.intro hD2 (And.intro hU2 hF2)))
 clear hE2 hD2 hU2 hF2 HW
 go_wp2_with fail
 refine HE.out.mono ?_
 rintro r w3 ⟨rfl, hl3, hu3⟩
 have H3 := Lib.hid (And.intro hl3 hu3)
 clear hl3 hu3 HE
 go_wp2_with fail
 go_ret
 refine ⟨e, D2, F2, rfl, H2.out.1, H2.out.2.1.upd H3.out.2 (fun k hk q => hjF2 (by obtain rfl := List.mem_singleton.1 q; exact hk)), H3.out.1, ?_, fun i hi => ?_⟩
 ·have q1 := H1.out.2.mono (G := j :: F) (by simp)
  have q2 := H2.out.2.2.1.mono (G := j :: F) (fun k hk _ => List.mem_cons_of_mem _ hk)
  have q3 := H3.out.2.mono (G := j :: F) (by simp)
  exact (q1.trans q2).trans q3
 ·exact (H2.out.2.2.2 i hi).imp id fun q => Nat.le_trans hs1 q
end Go.Proofs.YtgpefiacbipfpaaGreatDoor

namespace Go.Proofs.YtgpefiacbipfpaaGreatDoor
open Go.RowKit Go.Maps
abbrev boxN (size : Nat) (rv : Value) : Obj := .cells #[.int .i64 size, rv] 143 (0, 0)
def NodeR (w : World) (base q size : Nat) (rv : Value) (runs : List Run) : Prop := w.heap[q]? = some (boxN size rv) ∧ OwnG cR 148 2 w base rv runs
set_option maxRecDepth 100000 in
theorem inew_ok (w : World) : Calls Tryz.prog 39 #[] w fun e w' => e = .returned (.pointer (some ⟨w.heap.size, 0, none⟩)) ∧ NodeR w' w.heap.size w.heap.size 0 (.slice none 0 0) [] ∧ Upd [] w w' ∧ w'.heap.size = w.heap.size + 1 := by
 go_enter Tryz.func39, Tryz.ntmps39
 go_wp2_with fail
 go_ret
 exact ⟨rfl, ⟨heap_top _ _, OwnG.nil _ _⟩, (Upd.refl [] w).alloc _, by simp⟩
set_option maxRecDepth 100000 in
theorem isize_ok (w : World) {base q size : Nat} {rv : Value} {runs : List Run} (h : NodeR w base q size rv runs) : Calls Tryz.prog 43 #[.pointer (some ⟨q, 0, none⟩)] w fun e w' => e = .returned (.int .i64 size) ∧ w' = w := by
 have c0 := cell_blk h.1 0
 simp only [List.getElem?_toArray, List.getElem?_cons_zero] at c0
 clear h
 go_enter Tryz.func43, Tryz.ntmps43
 go_wp2_with fail
 go_ret
 exact ⟨rfl, rfl⟩
set_option maxRecDepth 100000 in
theorem isize_nil (w : World) : Calls Tryz.prog 43 #[.pointer none] w fun e w' => e = .returned (.int .i64 0) ∧ w' = w := by
 go_enter Tryz.func43, Tryz.ntmps43
 go_wp2_with fail
 go_ret
 exact ⟨rfl, rfl⟩
set_option maxRecDepth 100000 in
theorem iblocks_ok (w : World) (n : Nat) (hn : n ≤ 1000000) : Calls Tryz.prog 86 #[.int .i64 n] w fun e w' => e = .returned (.int .i64 ((n + 511) / 512 : Nat)) ∧ w' = w := by
 go_enter Tryz.func86, Tryz.ntmps86
 go_wp2_with fail
 go_ret
 refine ⟨?_, rfl⟩
 have e : ((n : Int) + 512 - 1) / 512 = (((n + 511) / 512 : Nat) : Int) := by omega
 show Ending.returned (.int .i64 (((n : Int) + 512 - 1) / 512)) = _
 rw [e]
set_option maxRecDepth 100000 in
theorem iruns_ok (w : World) {base q size : Nat} {rv : Value} {runs : List Run} (h : NodeR w base q size rv runs) (hl : runs.length ≤ 1000000) : Calls Tryz.prog 89 #[.pointer (some ⟨q, 0, none⟩)] w fun e w' => ∃ v', e = .returned v' ∧ OwnG cR 148 2 w' w.heap.size v' runs ∧ Upd [] w w' := by
 have c1 := cell_blk h.1 1
 simp only [List.getElem?_toArray, List.getElem?_cons_zero, List.getElem?_cons_succ] at c1
 have HC := Lib.hid (cloneR_ok w (OwnG.rd TR h.2) (by omega))
 clear h
 go_enter Tryz.func89, Tryz.ntmps89
 go_wp2_with fail
 refine HC.out.mono ?_
 rintro e w1 ⟨v', rfl, ho, hu⟩
 have H1 := Lib.hid (And.intro ho hu)
 clear ho hu
 go_wp2_with fail
 go_ret
 exact ⟨v', rfl, H1.out.1, H1.out.2⟩
end Go.Proofs.YtgpefiacbipfpaaGreatDoor

namespace Go.Proofs.YtgpefiacbipfpaaGreatDoor
open Go.RowKit Go.Maps
def blksOf (n : Nat) : Nat := (n + 511) / 512
set_option maxRecDepth 100000 in
set_option maxHeartbeats 2000000 in
theorem need_ok (w : World) {base q size : Nat} {rv : Value} {runs : List Run} (h : NodeR w base q size rv runs) (hs : size ≤ 32768) (n : Nat) (hn : n ≤ 140737488355328) :
  Calls Tryz.prog 41 #[.pointer (some ⟨q, 0, none⟩), .int .i64 n] w fun e w' => e = .returned (.tuple #[.int .i64 (if 32768 < size + n then 0 else blksOf (size + n) - blksOf size : Nat), .int .i64 (if 32768 < size + n then 60 else 0 : Nat)]) ∧ w'.Alike w := by
 have c0 := cell_blk h.1 0
 simp only [List.getElem?_toArray, List.getElem?_cons_zero] at c0
 clear h
 by_cases hlt : 32768 < size + n
 ·have h1 : (32768 : Int) - (size : Int) < (n : Int) := by omega
  rw [if_pos hlt, if_pos hlt]
  go_enter Tryz.func41, Tryz.ntmps41
  go_wp2_with fail
  go_ret2
  exact ⟨rfl, rfl, rfl, rfl⟩
 ·have h1 : ¬ (32768 : Int) - (size : Int) < (n : Int) := by omega
  rw [if_neg hlt, if_neg hlt]
  have hb : ∀ W, Calls Tryz.prog 86 #[.int .i64 size] W fun e w' => e = .returned (.int .i64 (blksOf size : Nat)) ∧ w' = W := fun W => iblocks_ok W size (by omega)
  have hb2 : ∀ W, Calls Tryz.prog 86 #[.int .i64 ((size : Int) + n)] W fun e w' => e = .returned (.int .i64 (blksOf (size + n) : Nat)) ∧ w' = W := fun W => by
   have := iblocks_ok W (size + n) (by omega)
   rwa [Int.natCast_add] at this
  have HB := Lib.hid hb
  have HB2 := Lib.hid hb2
  have hsub : blksOf size ≤ blksOf (size + n) := by unfold blksOf; omega
  have hbd : blksOf (size + n) ≤ 64 := by unfold blksOf; omega
  have hw1 : IntKind.i64.wrap ((size : Int) + n) = (size : Int) + n := IntWalk.i64_in _ (by omega)
  have e3 : (blksOf (size + n) : Int) - (blksOf size : Int) = ((blksOf (size + n) - blksOf size : Nat) : Int) := by omega
  have hw2 : IntKind.i64.wrap ((blksOf (size + n) : Int) - (blksOf size : Int)) = ((blksOf (size + n) - blksOf size : Nat) : Int) := by rw [IntWalk.i64_in _ (by omega)]; exact e3
  have E3 := Lib.hid e3
  clear hb hb2 e3
  generalize blksOf (size + n) = b2 at *
  generalize blksOf size = b1 at *
  go_enter Tryz.func41, Tryz.ntmps41
  go_wp2_with fail
  go_region_held3 (fun w' => w'.cell? ⟨q, 0, none⟩ = some (.int .i64 size))
   (first
    | (with_reducible exact c0)
    | (with_reducible exact held1 (Upd.refl [] w).drew c0))
   (first
    | (go_at_call 86; (with_reducible refine (HB.out _).mono ?_); rintro e w5 ⟨rfl, rfl⟩)
    | (go_at_call 86; (with_reducible refine (HB2.out _).mono ?_); rintro e w5 ⟨rfl, rfl⟩))
  go_wp2_with fail
  go_ret2
  exact ⟨rfl, by first | exact alike_drew _ | exact alike_refl _⟩
end Go.Proofs.YtgpefiacbipfpaaGreatDoor

namespace Go.Proofs.YtgpefiacbipfpaaGreatDoor
open Go.RowKit Go.Maps
set_option maxRecDepth 100000 in
set_option maxHeartbeats 2000000 in
theorem icopy_ok (w : World) {base q size : Nat} {rv : Value} {runs : List Run} (h : NodeR w base q size rv runs) (hl : runs.length ≤ 1000000) :
  Calls Tryz.prog 113 #[.pointer (some ⟨q, 0, none⟩)] w fun e w' => ∃ q' rv', e = .returned (.pointer (some ⟨q', 0, none⟩)) ∧ NodeR w' w.heap.size q' size rv' runs ∧ w.heap.size ≤ q' ∧ Upd [] w w' := by
 have c0 := cell_blk h.1 0
 have c1 := cell_blk h.1 1
 simp only [List.getElem?_toArray, List.getElem?_cons_zero, List.getElem?_cons_succ] at c0 c1
 have hrd := OwnG.rd TR h.2
 obtain ⟨a, c, m, hm, rfl⟩ := h.2.sliceM
 have HC := Lib.hid fun (W : World) (u : Upd [] w W) => cloneR_ok W (hrd.keep TR u) (by omega)
 clear h hrd hm
 go_enter Tryz.func113, Tryz.ntmps113
 go_wp2_with fail
 go_region_held3 (fun w' => w'.cell? ⟨q, 0, none⟩ = some (.int .i64 size) ∧ w'.cell? ⟨q, 1, none⟩ = some (.slice a m c))
  (first
   | (with_reducible exact held2 (Upd.refl [] w).drew ⟨c0, c1⟩)
   | (with_reducible exact held2 hv6 ⟨c0, c1⟩)
   | (with_reducible exact held2 (hv6.alloc _) ⟨c0, c1⟩))
  (first
   | (go_at_call 139; (with_reducible refine (HC.out _ ?_).mono ?_); (exact (Upd.refl [] w).drew); rintro e w6 ⟨v6, rfl, ho6, hu6⟩; obtain ⟨a6, c6, m6, hm6, rfl⟩ := ho6.sliceM; have hv6 : Upd [] w w6 := (Upd.refl [] w).drew.trans hu6; have HO6 := Lib.hid ho6; clear hm6))
 go_wp2_with fail
 go_ret
 exact ⟨w6.heap.size, _, rfl, ⟨heap_top _ _, HO6.out.upd ((Upd.refl [] w6).alloc _) (by simp)⟩, hv6.size, hv6.alloc _⟩
end Go.Proofs.YtgpefiacbipfpaaGreatDoor
