/- The log's Read. The log's Put. The log's steps: one thing behind the other, up to the first that goes wrong. -/
import Derived.Test.YteepgehjkcahiaaGreatC13
namespace Go.Proofs.YteepgehjkcahiaaGreat
open Go.RowKit Go.Maps
set_option maxRecDepth 100000 in
set_option maxHeartbeats 2000000 in
theorem jread_bad (w : World) {j p n k : Nat} {dead : Bool} (h : LogR w j p n k dead) {D : Dev} {F : List Nat} (hd : DevAt w p D F) (hn : n ≤ 512) (x : Int) (hx : useE (dead || D.down) x n false ≠ 0) :
  Calls Tryz.prog 66 #[.pointer (some ⟨j, 0, none⟩), .int .i64 x] w fun r w' => r = .returned (.tuple #[.slice none 0 0, .int .i64 (useE (dead || D.down) x n false)]) ∧ LogR w' j p n k (dead || D.down) ∧ Upd [j] w w' := by
 have HU := Lib.hid (use_ok w h hd hn x none 0 0 false)
 rw [Bool.false_and] at HU
 clear h hd
 generalize useE (dead || D.down) x n false = E at *
 have hE : ¬ (E : Int) = 0 := by omega
 go_enter Tryz.func66, Tryz.ntmps66
 go_wp2_with fail
 refine HU.out.mono ?_
 rintro r w1 ⟨rfl, hl, hu⟩
 have H1 := Lib.hid (And.intro hl hu)
 clear hl hu HU
 go_wp2_with fail
 go_ret2
 exact ⟨rfl, H1.out.1, H1.out.2⟩
def JReadPost (w : World) (j p n k : Nat) (D : Dev) (F : List Nat) (x : Nat) (r : Ending) (w' : World) : Prop :=
 ∃ (e : Nat) (D' : Dev) (v : Value), r = .returned (.tuple #[v, .int .i64 e]) ∧ Eff [] D e D' ∧ DevAt w' p D' F ∧ LogR w' j p n k (decide (e = 2)) ∧ Upd [p, j] w w' ∧ (e = 0 → NewB w' w.heap.size v (D.blk (20 + x)).view) ∧ (e ≠ 0 → v = .slice none 0 0)
theorem NewB.upd {w w' : World} {base : Nat} {v : Value} {b : Bs} (h : NewB w base v b) {G : List Nat} (u : Upd G w w') (hG : ∀ k ∈ G, k < base) : NewB w' base v b := by
 obtain ⟨B, h1, h2, h3⟩ := h
 exact ⟨B, h1, h2, (u.block B (lt_of_blk h3) (fun q => by have := hG B q; omega)).trans h3⟩
theorem NewB.base {w : World} {base base' : Nat} {v : Value} {b : Bs} (h : NewB w base v b) (hb : base' ≤ base) : NewB w base' v b := by
 obtain ⟨B, h1, h2, h3⟩ := h
 exact ⟨B, h1, Nat.le_trans hb h2, h3⟩
set_option maxRecDepth 100000 in
set_option maxHeartbeats 4000000 in
theorem jread_ok (w : World) {j p n k : Nat} (h : LogR w j p n k false) {D : Dev} {F : List Nat} (hd : DevAt w p D F) (hdn : D.down = false) (hnD : n + 20 = D.n) (hwr : D.wr ≤ 137438953000) (hjF : j ∉ F) (x : Nat) (hx : x < n) :
  Calls Tryz.prog 66 #[.pointer (some ⟨j, 0, none⟩), .int .i64 x] w (JReadPost w j p n k D F x) := by
 have hbn := hd.bounds
 have HU := Lib.hid (use_ok w h hd (by omega) (x : Int) none 0 0 false)
 have hE : useE (false || D.down) (x : Int) n (false && decide (0 ≠ 512)) = 0 := by rw [hdn]; simp [useE]; omega
 rw [hE, hdn] at HU
 have HJ := Lib.hid h
 have HD := Lib.hid hd
 have hpl := lt_of_blk h
 clear h hE
 clear hd
 go_enter Tryz.func66, Tryz.ntmps66
 go_wp2_with fail
 refine HU.out.mono ?_
 rintro r w1 ⟨rfl, hl, hu⟩
 have hl' : LogR w1 j p n k false := hl
 have c0 := cell_blk hl' 0
 simp only [List.getElem?_toArray, List.getElem?_cons_zero] at c0
 have H1 := Lib.hid (And.intro hl' hu)
 have HD1 := Lib.hid (HD.out.upd hu (fun k hk q => hjF (by obtain rfl := List.mem_singleton.1 q; exact hk)))
 have HRd := Lib.hid (read_ok w1 HD1.out (20 + x) (by omega) (by omega))
 have e20 : ((20 + x : Nat) : Int) = 20 + (x : Int) := by omega
 rewrite [e20] at HRd
 have hs1 := hu.size
 clear hl hu HU e20 hl'
 go_wp2_with fail
 refine HRd.out.mono ?_
 rintro r w2 ⟨e, D2, v, rfl, hE2, hD2, hU2, hv, hv'⟩
 have hjp : j ≠ p := fun q => hjF (by rw [q]; exact HD.out.p_mem)
 have HE := Lib.hid (ended_ok w2 (H1.out.1.upd hU2 (by simp; exact hjp)) e)
 rw [Bool.false_or] at HE
 have H2 := Lib.hid (And.intro hE2 (And.intro hD2 (And.intro hU2 (And.intro hv hv'))))
 clear hE2 hD2 hU2 hv hv' HRd
 go_wp2_with fail
 refine HE.out.mono ?_
 rintro r w3 ⟨rfl, hl3, hu3⟩
 have H3 := Lib.hid (And.intro hl3 hu3)
 clear hl3 hu3 HE
 go_wp2_with fail
 go_ret2
 refine ⟨e, D2, _, rfl, H2.out.1, H2.out.2.1.upd H3.out.2 (fun k hk q => hjF (by obtain rfl := List.mem_singleton.1 q; exact hk)), H3.out.1, ?_, fun q => ?_, H2.out.2.2.2.2⟩
 ·have q1 := H1.out.2.mono (G := [p, j]) (by simp)
  have q2 := H2.out.2.2.1.mono (G := [p, j]) (by simp)
  have q3 := H3.out.2.mono (G := [p, j]) (by simp)
  exact (q1.trans q2).trans q3
 ·exact ((H2.out.2.2.2.1 q).upd H3.out.2 (fun k hk => by simp at hk; omega)).base hs1
end Go.Proofs.YteepgehjkcahiaaGreat

namespace Go.Proofs.YteepgehjkcahiaaGreat
open Go.RowKit Go.Maps
def JDoPost (w : World) (j p n k : Nat) (D : Dev) (F : List Nat) (t : List DOp) (r : Ending) (w' : World) : Prop :=
 ∃ (e : Nat) (D' : Dev) (F' : List Nat), r = .returned (.int .i64 e) ∧ Eff t D e D' ∧ DevAt w' p D' F' ∧ LogR w' j p n k (decide (e = 2)) ∧ Upd (j :: F) w w' ∧ ∀ i ∈ F', i ∈ F ∨ w.heap.size ≤ i
set_option maxRecDepth 100000 in
set_option maxHeartbeats 4000000 in
theorem jput_ok (w : World) {j p n k : Nat} (h : LogR w j p n k false) {D : Dev} {F : List Nat} (hd : DevAt w p D F) (hdn : D.down = false) (hnD : n + 20 = D.n) (hwr : D.wr ≤ 137438953000) (hjF : j ∉ F) (x : Nat) (hx : x < n)
  {b off c : Nat} {d : Bs} (hv : Rd w (.slice (some ⟨b, off, none⟩) 512 c) d) (hd5 : d.length = 512) (hbF : b ∉ F) (hbj : b ≠ j) :
  Calls Tryz.prog 87 #[.pointer (some ⟨j, 0, none⟩), .int .i64 x, .slice (some ⟨b, off, none⟩) 512 c] w (JDoPost w j p n k D F [.write (20 + x) d]) := by
 have hbn := hd.bounds
 have HU := Lib.hid (use_ok w h hd (by omega) (x : Int) (some ⟨b, off, none⟩) 512 c true)
 have hE : useE (false || D.down) (x : Int) n (true && decide (512 ≠ 512)) = 0 := by rw [hdn]; simp [useE]; omega
 rw [hE, hdn] at HU
 have HD := Lib.hid hd
 have HV := Lib.hid hv
 have hpl := lt_of_blk h
 clear h hE hv
 clear hd
 go_enter Tryz.func87, Tryz.ntmps87
 go_wp2_with fail
 refine HU.out.mono ?_
 rintro r w1 ⟨rfl, hl, hu⟩
 have hl' : LogR w1 j p n k false := hl
 have c0 := cell_blk hl' 0
 simp only [List.getElem?_toArray, List.getElem?_cons_zero] at c0
 have H1 := Lib.hid (And.intro hl' hu)
 have HD1 := Lib.hid (HD.out.upd hu (fun k hk q => hjF (by obtain rfl := List.mem_singleton.1 q; exact hk)))
 have HW := Lib.hid (write_ok w1 HD1.out (20 + x) (by omega) (by omega) (HV.out.upd hu (fun g hg q => by cases hg; exact hbj (List.mem_singleton.1 q))) hd5 hbF)
 have e20 : ((20 + x : Nat) : Int) = 20 + (x : Int) := by omega
 rewrite [e20] at HW
 have hs1 := hu.size
 clear hl hu HU e20 hl'
 go_wp2_with fail
 refine HW.out.mono ?_
 rintro r w2 ⟨e, D2, F2, rfl, hE2, hD2, hU2, hF2⟩
 have HE := Lib.hid (ended_ok w2 (H1.out.1.upd hU2 hjF) e)
 rw [Bool.false_or] at HE
 have hjF2 : j ∉ F2 := fun q => by
  rcases hF2 j q with q | q
  ·exact hjF q
  ·omega
 have H2 := Lib.hid (And.intro hE2 (And.intro hD2 (And.intro hU2 hF2)))
 clear hE2 hD2 hU2 hF2 HW
 go_wp2_with fail
 refine HE.out.mono ?_
 rintro r w3 ⟨rfl, hl3, hu3⟩
 have H3 := Lib.hid (And.intro hl3 hu3)
 clear hl3 hu3 HE
 go_wp2_with fail
 go_ret
 refine ⟨e, D2, F2, rfl, H2.out.1, H2.out.2.1.upd H3.out.2 (fun k hk q => hjF2 (by obtain rfl := List.mem_singleton.1 q; exact hk)), H3.out.1, ?_, fun i hi => ?_⟩
 ·have q1 := H1.out.2.mono (G := j :: F) (by simp)
  have q2 := H2.out.2.2.1.mono (G := j :: F) (fun k hk _ => List.mem_cons_of_mem _ hk)
  have q3 := H3.out.2.mono (G := j :: F) (by simp)
  exact (q1.trans q2).trans q3
 ·exact (H2.out.2.2.2 i hi).imp id fun q => Nat.le_trans hs1 q
end Go.Proofs.YteepgehjkcahiaaGreat

namespace Go.Proofs.YteepgehjkcahiaaGreat
open Go.RowKit Go.Maps
structure Clo where
 f : Nat
 a : Array Value
 c : Array Value
abbrev Clo.v (x : Clo) : Value := .func (.func x.f) x.a x.c
set_option maxRecDepth 100000 in
set_option maxHeartbeats 2000000 in
theorem steps_ok (w : World) {B : Nat} (cs : List Clo) (hlen : cs.length ≤ 100) (P : Nat → World → Prop) (Q : Nat → World → Prop) (h0 : P 0 w)
  (hcell : ∀ i W, P i W → ∀ (j : Nat) (x : Clo), cs[j]? = some x → W.cell? ⟨B, j, none⟩ = some x.v)
  (hent : ∀ (i : Nat) (x : Clo), cs[i]? = some x → ∀ args W, (callFunc x.f args).run Tryz.prog W = .ok (.enter x.f args) W)
  (hcall : ∀ (i : Nat) (x : Clo), cs[i]? = some x → ∀ W, P i W → Calls Tryz.prog x.f (x.a ++ x.c) W fun e W' => ∃ n : Nat, e = .returned (.int .i64 n) ∧ (n = 0 → P (i + 1) W') ∧ (n ≠ 0 → Q n W')) :
  Calls Tryz.prog 94 #[.slice (some ⟨B, 0, none⟩) cs.length cs.length] w fun e W' => ∃ n : Nat, e = .returned (.int .i64 n) ∧ (n = 0 → P cs.length W') ∧ (n ≠ 0 → Q n W') := by
 have HC := Lib.hid hcell
 have HK := Lib.hid hcall
 have HE := Lib.hid hent
 have H0 := Lib.hid h0
 clear hcell hcall h0 hent
 have HS : Hid (∀ i, i < cs.length → ∃ x, cs[i]? = some x) := Lib.hid fun i h => ⟨_, List.getElem?_eq_getElem h⟩
 generalize cs.length = L at *
 go_enter Tryz.func94, Tryz.ntmps94
 go_wp2_with fail
 go_loopg [8] L (fun k v wr => ∃ i : Nat, v = .int .i64 i ∧ i ≤ L ∧ k = L - i ∧ Hid (P i wr))
 case atStart => exact ⟨0, rfl, by omega, rfl, H0⟩
 case round =>
  obtain ⟨i, rfl, hi, rfl, H1⟩ := hrel
  by_cases hil : i < L
  ·have hlt : (i : Int) < (L : Int) := by omega
   obtain ⟨x, hx⟩ := HS.out i hil
   have hc := HC.out i _ H1.out i x hx
   have HKi := Lib.hid (HK.out i x hx _ H1.out)
   have he := HE.out i x hx
   clear hx
   obtain ⟨f, a, c⟩ := x
   dsimp only [Clo.v] at hc HKi he
   go_wp2_with fail
   refine HKi.out.mono ?_
   rintro r w2 ⟨n, rfl, hn, hn'⟩
   have H2 := Lib.hid (And.intro hn hn')
   clear hn hn' HKi he hc
   by_cases h0 : n = 0
   ·subst h0
    go_wp2_with fail
    go_roundg (L - (i + 1))
    case rel => exact ⟨i + 1, by go_num, by omega, rfl, Lib.hid (H2.out.1 (by trivial))⟩
    case measure => omega
   ·have hne : ¬ (n : Int) = 0 := by omega
    go_wp2_with fail
    go_ret
    exact ⟨n, rfl, fun q => absurd q h0, H2.out.2⟩
  ·have hlt : ¬ (i : Int) < (L : Int) := by omega
   obtain rfl : i = L := by omega
   go_wp2_with fail
   go_ret
   exact ⟨0, rfl, fun _ => H1.out, fun q => absurd rfl q⟩
end Go.Proofs.YteepgehjkcahiaaGreat
