/- The log's Read. -/
import Derived.Deep.RegionHeld3
import Derived.Test.YtgpefiacbipfpaaGreatDoorC09
set_option maxRecDepth 100000
set_option maxHeartbeats 4000000
namespace Go.Proofs.YtgpefiacbipfpaaGreatDoor
open Go.RowKit Go.Maps
theorem Mu (w : World) {j p n k : Nat} {dead : Bool} (h : bZ w j p n k dead) {D : aI} {F : List Nat} (hd : bN w p D F) (hn : n ≤ 512) (x : Int) (hx : jD (dead || D.down) x n false ≠ 0) :
  Calls Tryz.prog 84 #[.pointer (some ⟨j, 0, none⟩), .int .i64 x] w fun r w' => r = .returned (.tuple #[.slice none 0 0, .int .i64 (jD (dead || D.down) x n false)]) ∧ bZ w' j p n k (dead || D.down) ∧ aB [j] w w' := by
 have HU := aA (Ac w h hd hn x none 0 0 false)
 rw [Bool.false_and] at HU
 clear h hd
 generalize jD (dead || D.down) x n false = E at *
 have hE : ¬ (E : Int) = 0 := by omega
 go_in
 go_wp2_with fail
 refine HU.out.mono ?_
 rintro r w1 ⟨rfl, hl, hu⟩
 have H1 := aA (aC hl hu)
 clear hl hu HU
 go_wp2_with fail
 go_ret2
 exact ⟨rfl, H1.out.1, H1.out.2⟩
def Mv (w : World) (j p n k : Nat) (D : aI) (F : List Nat) (x : Nat) (r : Ending) (w' : World) : Prop :=
 ∃ (e : Nat) (D' : aI) (v : Value), r = .returned (.tuple #[v, .int .i64 e]) ∧ bV [] D e D' ∧ bN w' p D' F ∧ bZ w' j p n k (decide (e = 2)) ∧ aB [p, j] w w' ∧ (e = 0 → nB w' w.heap.size v (D.blk (20 + x)).view) ∧ (e ≠ 0 → v = .slice none 0 0)
theorem nB.upd {w w' : World} {base : Nat} {v : Value} {b : Bs} (h : nB w base v b) {G : List Nat} (u : aB G w w') (hG : ∀ k ∈ G, k < base) : nB w' base v b := by
 obtain ⟨B, h1, h2, h3⟩ := h
 exact ⟨B, h1, h2, (u.block B (aH h3) (fun q => by have := hG B q; omega)).trans h3⟩
theorem nB.base {w : World} {base base' : Nat} {v : Value} {b : Bs} (h : nB w base v b) (hb : base' ≤ base) : nB w base' v b := by
 obtain ⟨B, h1, h2, h3⟩ := h
 exact ⟨B, h1, bG hb h2, h3⟩
theorem FT (w : World) {j p n k : Nat} (h : bZ w j p n k false) {D : aI} {F : List Nat} (hd : bN w p D F) (hdn : D.down = false) (hnD : n + 20 = D.n) (hwr : D.wr ≤ 137438953000) (hjF : j ∉ F) (x : Nat) (hx : x < n) :
  Calls Tryz.prog 84 #[.pointer (some ⟨j, 0, none⟩), .int .i64 x] w (Mv w j p n k D F x) := by
 have hbn := hd.bounds
 have HU := aA (Ac w h hd (by omega) (x : Int) none 0 0 false)
 have hE : jD (false || D.down) (x : Int) n (false && decide (0 ≠ 512)) = 0 := by rw [hdn]; simp [jD]; omega
 rw [hE, hdn] at HU
 have HJ := aA h
 have HD := aA hd
 have hpl := aH h
 clear h hE
 clear hd
 go_in
 go_wp2_with fail
 refine HU.out.mono ?_
 rintro r w1 ⟨rfl, hl, hu⟩
 have hl' : bZ w1 j p n k false := hl
 have c0 := aD hl' 0
 simp only [bA, bB] at c0
 have H1 := aA (aC hl' hu)
 have HD1 := aA (HD.out.upd hu (fun k hk q => hjF (by obtain rfl := aM.1 q; exact hk)))
 have HRd := aA (xJ w1 HD1.out (20 + x) (by omega) (by omega))
 have e20 : ((20 + x : Nat) : Int) = 20 + (x : Int) := by omega
 rewrite [e20] at HRd
 have hs1 := hu.size
 clear hl hu HU e20 hl'
 go_wp2_with fail
 refine HRd.out.mono ?_
 rintro r w2 ⟨e, D2, v, rfl, hE2, hD2, hU2, hv, hv'⟩
 have hjp : j ≠ p := fun q => hjF (by rw [q]; exact HD.out.p_mem)
 have HE := aA (Ci w2 (H1.out.1.upd hU2 (by simp; exact hjp)) e)
 rw [Bool.false_or] at HE
 have H2 := aA (aC hE2 (aC hD2 (aC hU2 (aC hv hv'))))
 clear hE2 hD2 hU2 hv hv' HRd
 go_wp2_with fail
 refine HE.out.mono ?_
 rintro r w3 ⟨rfl, hl3, hu3⟩
 have H3 := aA (aC hl3 hu3)
 clear hl3 hu3 HE
 go_wp2_with fail
 go_ret2
 refine ⟨e, D2, _, rfl, H2.out.1, H2.out.2.1.upd H3.out.2 (fun k hk q => hjF (by obtain rfl := aM.1 q; exact hk)), H3.out.1, ?_, fun q => ?_, H2.out.2.2.2.2⟩
 ·have q1 := H1.out.2.mono (G := [p, j]) (by simp)
  have q2 := H2.out.2.2.1.mono (G := [p, j]) (by simp)
  have q3 := H3.out.2.mono (G := [p, j]) (by simp)
  exact (q1.trans q2).trans q3
 exact ((H2.out.2.2.2.1 q).upd H3.out.2 (fun k hk => by simp at hk; omega)).base hs1
def Mw (w : World) (j p n k : Nat) (D : aI) (F : List Nat) (t : List cE) (r : Ending) (w' : World) : Prop :=
 ∃ (e : Nat) (D' : aI) (F' : List Nat), r = .returned (.int .i64 e) ∧ bV t D e D' ∧ bN w' p D' F' ∧ bZ w' j p n k (decide (e = 2)) ∧ aB (j :: F) w w' ∧ ∀ i ∈ F', i ∈ F ∨ w.heap.size ≤ i
theorem Mx (w : World) {j p n k : Nat} (h : bZ w j p n k false) {D : aI} {F : List Nat} (hd : bN w p D F) (hdn : D.down = false) (hnD : n + 20 = D.n) (hwr : D.wr ≤ 137438953000) (hjF : j ∉ F) (x : Nat) (hx : x < n)
  {b off c : Nat} {d : Bs} (hv : Rd w (.slice (some ⟨b, off, none⟩) 512 c) d) (hd5 : d.length = 512) (hbF : b ∉ F) (hbj : b ≠ j) :
  Calls Tryz.prog 94 #[.pointer (some ⟨j, 0, none⟩), .int .i64 x, .slice (some ⟨b, off, none⟩) 512 c] w (Mw w j p n k D F [.write (20 + x) d]) := by
 have hbn := hd.bounds
 have HU := aA (Ac w h hd (by omega) (x : Int) (some ⟨b, off, none⟩) 512 c true)
 have hE : jD (false || D.down) (x : Int) n (true && decide (512 ≠ 512)) = 0 := by rw [hdn]; simp [jD]; omega
 rw [hE, hdn] at HU
 have HD := aA hd
 have HV := aA hv
 have hpl := aH h
 clear h hE hv
 clear hd
 go_in
 go_wp2_with fail
 refine HU.out.mono ?_
 rintro r w1 ⟨rfl, hl, hu⟩
 have hl' : bZ w1 j p n k false := hl
 have c0 := aD hl' 0
 simp only [bA, bB] at c0
 have H1 := aA (aC hl' hu)
 have HD1 := aA (HD.out.upd hu (fun k hk q => hjF (by obtain rfl := aM.1 q; exact hk)))
 have HW := aA (vO w1 HD1.out (20 + x) (by omega) (by omega) (HV.out.upd hu (fun g hg q => by cases hg; exact hbj (aM.1 q))) hd5 hbF)
 have e20 : ((20 + x : Nat) : Int) = 20 + (x : Int) := by omega
 rewrite [e20] at HW
 have hs1 := hu.size
 clear hl hu HU e20 hl'
 go_wp2_with fail
 refine HW.out.mono ?_
 rintro r w2 ⟨e, D2, F2, rfl, hE2, hD2, hU2, hF2⟩
 have HE := aA (Ci w2 (H1.out.1.upd hU2 hjF) e)
 rw [Bool.false_or] at HE
 have hjF2 : j ∉ F2 := fun q => by
  rcases hF2 j q with q | q
  ·exact hjF q
  omega
 have H2 := aA (aC hE2 (aC hD2 (aC hU2 hF2)))
 clear hE2 hD2 hU2 hF2 HW
 go_wp2_with fail
 refine HE.out.mono ?_
 rintro r w3 ⟨rfl, hl3, hu3⟩
 have H3 := aA (aC hl3 hu3)
 clear hl3 hu3 HE
 go_wp2_with fail
 go_ret
 refine ⟨e, D2, F2, rfl, H2.out.1, H2.out.2.1.upd H3.out.2 (fun k hk q => hjF2 (by obtain rfl := aM.1 q; exact hk)), H3.out.1, ?_, fun i hi => ?_⟩
 ·have q1 := H1.out.2.mono (G := j :: F) (by simp)
  have q2 := H2.out.2.2.1.mono (G := j :: F) (fun k hk _ => iZ _ hk)
  have q3 := H3.out.2.mono (G := j :: F) (by simp)
  exact (q1.trans q2).trans q3
 exact (H2.out.2.2.2 i hi).imp id fun q => bG hs1 q
abbrev My (size : Nat) (rv : Value) : Obj := .cells #[.int .i64 size, rv] 143 (0, 0)
def iG (w : World) (base q size : Nat) (rv : Value) (runs : List aR) : Prop := w.heap[q]? = some (My size rv) ∧ aK cR 148 2 w base rv runs
theorem FU (w : World) : Calls Tryz.prog 39 #[] w fun e w' => e = .returned (.pointer (some ⟨w.heap.size, 0, none⟩)) ∧ iG w' w.heap.size w.heap.size 0 (.slice none 0 0) [] ∧ aB [] w w' ∧ w'.heap.size = w.heap.size + 1 := by
 go_in
 go_wp2_with fail
 go_ret
 exact ⟨rfl, ⟨aX _ _, aK.nil _ _⟩, (aB.refl [] w).alloc _, by simp⟩
theorem Cj (w : World) {base q size : Nat} {rv : Value} {runs : List aR} (h : iG w base q size rv runs) : Calls Tryz.prog 43 #[.pointer (some ⟨q, 0, none⟩)] w fun e w' => e = .returned (.int .i64 size) ∧ w' = w := by
 have c0 := aD h.1 0
 simp only [bA, bB] at c0
 clear h
 go_in
 go_wp2_with fail
 go_ret
 exact ⟨rfl, rfl⟩
theorem FW (w : World) : Calls Tryz.prog 43 #[.pointer none] w fun e w' => e = .returned (.int .i64 0) ∧ w' = w := by
 go_in
 go_wp2_with fail
 go_ret
 exact ⟨rfl, rfl⟩
theorem FX (w : World) (n : Nat) (hn : n ≤ 1000000) : Calls Tryz.prog 86 #[.int .i64 n] w fun e w' => e = .returned (.int .i64 ((n + 511) / 512 : Nat)) ∧ w' = w := by
 go_in
 go_wp2_with fail
 go_ret
 refine ⟨?_, rfl⟩
 have e : ((n : Int) + 512 - 1) / 512 = (((n + 511) / 512 : Nat) : Int) := by omega
 show Ending.returned (.int .i64 (((n : Int) + 512 - 1) / 512)) = _
 rw [e]
theorem Ad (w : World) {base q size : Nat} {rv : Value} {runs : List aR} (h : iG w base q size rv runs) (hl : runs.length ≤ 1000000) : Calls Tryz.prog 89 #[.pointer (some ⟨q, 0, none⟩)] w fun e w' => ∃ v', e = .returned v' ∧ aK cR 148 2 w' w.heap.size v' runs ∧ aB [] w w' := by
 have c1 := aD h.1 1
 simp only [bA, bB, bS] at c1
 have HC := aA (Fc w (aK.rd TR h.2) (by omega))
 clear h
 go_in
 go_wp2_with fail
 refine HC.out.mono ?_
 rintro e w1 ⟨v', rfl, ho, hu⟩
 have H1 := aA (aC ho hu)
 clear ho hu
 go_wp2_with fail
 go_ret
 exact ⟨v', rfl, H1.out.1, H1.out.2⟩
def gM (n : Nat) : Nat := (n + 511) / 512
theorem FY (w : World) {base q size : Nat} {rv : Value} {runs : List aR} (h : iG w base q size rv runs) (hs : size ≤ 32768) (n : Nat) (hn : n ≤ 140737488355328) :
  Calls Tryz.prog 41 #[.pointer (some ⟨q, 0, none⟩), .int .i64 n] w fun e w' => e = .returned (.tuple #[.int .i64 (if 32768 < size + n then 0 else gM (size + n) - gM size : Nat), .int .i64 (if 32768 < size + n then 60 else 0 : Nat)]) ∧ w'.Alike w := by
 have c0 := aD h.1 0
 simp only [bA, bB] at c0
 clear h
 by_cases hlt : 32768 < size + n
 ·have h1 : (32768 : Int) - (size : Int) < (n : Int) := by omega
  rw [aF hlt, aF hlt]
  go_in
  go_wp2_with fail
  go_ret2
  exact ⟨rfl, rfl, rfl, rfl⟩
 have h1 : ¬ (32768 : Int) - (size : Int) < (n : Int) := by omega
 rw [aE hlt, aE hlt]
 have hb : ∀ W, Calls Tryz.prog 86 #[.int .i64 size] W fun e w' => e = .returned (.int .i64 (gM size : Nat)) ∧ w' = W := fun W => FX W size (by omega)
 have hb2 : ∀ W, Calls Tryz.prog 86 #[.int .i64 ((size : Int) + n)] W fun e w' => e = .returned (.int .i64 (gM (size + n) : Nat)) ∧ w' = W := fun W => by
  have := FX W (size + n) (by omega)
  rwa [tS] at this
 have HB := aA hb
 have HB2 := aA hb2
 have hsub : gM size ≤ gM (size + n) := by unfold gM; omega
 have hbd : gM (size + n) ≤ 64 := by unfold gM; omega
 have hw1 : IntKind.i64.wrap ((size : Int) + n) = (size : Int) + n := fF _ (by omega)
 have e3 : (gM (size + n) : Int) - (gM size : Int) = ((gM (size + n) - gM size : Nat) : Int) := by omega
 have hw2 : IntKind.i64.wrap ((gM (size + n) : Int) - (gM size : Int)) = ((gM (size + n) - gM size : Nat) : Int) := by rw [fF _ (by omega)]; exact e3
 have E3 := aA e3
 clear hb hb2 e3
 generalize gM (size + n) = b2 at *
 generalize gM size = b1 at *
 go_in
 go_wp2_with fail
 go_region_held3 (fun w' => w'.cell? ⟨q, 0, none⟩ = some (.int .i64 size))
  (first
   | (with_reducible exact c0)
   | (with_reducible exact cN (aB.refl [] w).drew c0))
  (first
   | (go_at_call 86; (with_reducible refine (HB.out _).mono ?_); rintro e w5 ⟨rfl, rfl⟩)
   | (go_at_call 86; (with_reducible refine (HB2.out _).mono ?_); rintro e w5 ⟨rfl, rfl⟩))
 go_wp2_with fail
 go_ret2
 exact ⟨rfl, by first | exact sV _ | exact uE _⟩
end Go.Proofs.YtgpefiacbipfpaaGreatDoor
