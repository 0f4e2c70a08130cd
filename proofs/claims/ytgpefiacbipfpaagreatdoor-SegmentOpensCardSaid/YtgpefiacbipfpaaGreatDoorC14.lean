/- The contracts of the cache's inner functions (new, unlink, link, find) at one pair of types, over any world that holds the cache's list. -/
import Derived.Deep.QuietTactic
import Derived.BigQuiet
import Derived.Deep.DeepCutAuto
import Derived.Test.YtgpefiacbipfpaaGreatDoorC13
set_option maxRecDepth 100000
set_option maxHeartbeats 2000000
namespace Go.Proofs.YtgpefiacbipfpaaGreatDoor.Bc.C
open Go.RowKit
structure Sl where
 a : Option Addr
 n : Nat
 c : Nat
abbrev bI : lU Int Sl := { ek := fun k => .int .i64 k, ev := fun s => .slice s.a s.n s.c, tc := 197, ti := 208 }
theorem tG : Tryz.prog.underlying 194 = some (.map 3 195) := by kernel_rfl
theorem Nw (w : World) : (zeroValue 195).run Tryz.prog w = .ok (.pointer none) w := by kernel_rfl
theorem keys : Go.Proofs.YtgpefiacbipfpaaGreatDoor.Bc.vT bI Tryz.prog 3 where
 plain := .inl Tryz.underlying3
 same := fun D h a b => by rw [Tryz.underlying3] at h; cases h; simp [Instr.sameNow, Bool.beq_eq_decide_eq]
 bits := fun a => by simp [Instr.sameBits]
def BZ (most : Int) (w : World) (e : Ending) (w' : World) : Prop :=
 ∃ c m, e = .returned (.tuple #[.pointer (some ⟨c, 0, none⟩), .int .i64 0]) ∧ Rep bI w' c m most [] ∧ aB [] w w' ∧ w.heap.size ≤ c ∧ w.heap.size ≤ m
theorem Ca (most : Int) (w : World) (h1 : 1 ≤ most) (h2 : most ≤ 1024) : Calls Tryz.prog 81 #[.int .i64 most] w (BZ most w) := by
 have hmm := @run_makeMap Tryz.prog
 go_in
 go_wp2
 go_ret2
 exact ⟨_, _, rfl, Nr bI w most, ((aB.refl _ _).alloc _).alloc _, by omega, by omega⟩
def Nx (w : World) (c x : Nat) (prev next : Option Nat) (e : Ending) (w' : World) : Prop := e = .returned (.tuple #[]) ∧ w'.Alike (vS w c x prev next)
theorem Ny (w : World) {c m : Nat} {most : Int} {l1 l2 : List (Nd Int Sl)} {x : Nd Int Sl} (h : gN bI w c m most (l1 ++ x :: l2)) :
  Calls Tryz.prog 141 #[.pointer (some ⟨c, 0, none⟩), .pointer (some ⟨x.a, 0, none⟩)] w (Nx w c x.a (lst l1 none) (hd l2 none)) := by
 obtain ⟨-, -, c2, c3, fc⟩ := sD bI h
 obtain ⟨-, h2, h3⟩ := h
 rw [pD] at h2
 obtain ⟨h2, h4, h5⟩ := h2
 obtain ⟨-, -, -, -, x4, x5, fx⟩ := pX bI h4
 obtain ⟨xa, xi⟩ := x
 simp only [] at *
 rcases pO l1 with rfl | ⟨l1, y, rfl⟩
 ·rcases l2 with _ | ⟨z, l2⟩
  ·simp only [lV, lW, nI, jN, tF, List.nil_append] at *
   simp at h3
   have n1 : c ≠ xa := h3.1.2
   have n2 : xa ≠ c := Ne.symm n1
   clear h2 h3 h4 h5
   go_in
   go_wp2
   go_end0
   exact ⟨rfl, rfl, rfl, rfl⟩
  obtain ⟨h5, h6⟩ := h5
  obtain ⟨-, -, -, -, z4, z5, fz⟩ := pX bI h5
  simp only [lV, lW, jN, tF, qV, List.nil_append] at *
  simp at h3
  obtain ⟨⟨-, n1, n2, -⟩, -, ⟨n3, -⟩, -⟩ := h3
  obtain ⟨za, zi⟩ := z
  simp only [] at *
  have n1' := Ne.symm n1; have n2' := Ne.symm n2; have n3' := Ne.symm n3
  clear h2 h4 h5 h6 z5
  go_in
  go_wp2
  go_region
  go_wp2
  all_goals go_end0
  all_goals exact ⟨rfl, rfl, rfl, rfl⟩
 simp only [oM, eJ] at *
 rw [pD] at h2
 obtain ⟨h2, h7, _⟩ := h2
 obtain ⟨-, -, -, -, y4, y5, fy⟩ := pX bI h7
 obtain ⟨ya, yi⟩ := y
 simp only [] at *
 rcases l2 with _ | ⟨z, l2⟩
 ·simp only [lV, lW, nI, jN, qT, pW, tF, qV] at *
  simp [kO] at h3
  obtain ⟨⟨n1, n2, n3, n4⟩, ⟨n5, n6, n7⟩, n8, n9, n10⟩ := h3
  have n3' := Ne.symm n3; have n4' := Ne.symm n4; have n9' := Ne.symm n9
  clear h2 h4 h5 h7 n2 n5 n8 n10 n1 n6 n7 y4 c2
  go_in
  go_wp2
  go_region
  go_wp2
  all_goals go_end0
  all_goals exact ⟨rfl, rfl, rfl, rfl⟩
 obtain ⟨h5, h6⟩ := h5
 obtain ⟨-, -, -, -, z4, z5, fz⟩ := pX bI h5
 obtain ⟨za, zi⟩ := z
 simp only [] at *
 simp only [lV, lW, nI, jN, qT, pW, qV] at *
 simp [kO] at h3
 obtain ⟨⟨n1, n2, n3, n4, n5, n6⟩, ⟨n7, n8, n9, n10, n11⟩, n12, ⟨⟨n13, n14, n15⟩, ⟨n16, n17⟩, n18, n19⟩, n20⟩ := h3
 have n13' := Ne.symm n13; have n14' := Ne.symm n14; have n16' := Ne.symm n16
 clear h2 h4 h5 h6 h7 n1 n2 n6 n7 n8 n9 n10 n11 n12 n15 n17 n18 n19 n20 y4 z5 c2 c3
 go_in
 go_wp2
 go_region
 go_wp2
 go_region
 go_wp2
 all_goals go_end0
 all_goals exact ⟨rfl, rfl, rfl, rfl⟩
theorem Gu (w : World) {c m : Nat} {most : Int} {l1 l2 : List (Nd Int Sl)} {x : Nd Int Sl} (h : gN bI w c m most (l1 ++ x :: l2)) :
  Calls Tryz.prog 141 #[.pointer (some ⟨c, 0, none⟩), .pointer (some ⟨x.a, 0, none⟩)] w fun e w' => e = .returned (.tuple #[]) ∧
   gN bI w' c m most (l1 ++ l2) ∧ w'.heap[x.a]? = some (iV bI x.it none none) ∧ aB (c :: (l1 ++ x :: l2).map (·.a)) w w' :=
 (Ny w h).mono fun _ _ ⟨he, hw⟩ => ⟨he, Nk bI h hw⟩
def Nz (w : World) (c x : Nat) (last : Option Nat) (e : Ending) (w' : World) : Prop := e = .returned (.tuple #[]) ∧ w'.Alike (Ai w c x last)
theorem NA (w : World) {c m : Nat} {most : Int} {l : List (Nd Int Sl)} {x : Nd Int Sl} (h : gN bI w c m most l) (hx : w.heap[x.a]? = some (iV bI x.it none none))
  (hnd : (c :: m :: (l ++ [x]).map (·.a)).Nodup) : Calls Tryz.prog 142 #[.pointer (some ⟨c, 0, none⟩), .pointer (some ⟨x.a, 0, none⟩)] w (Nz w c x.a (lst l none)) := by
 obtain ⟨-, -, c2, c3, fc⟩ := sD bI h
 obtain ⟨-, h2, -⟩ := h
 obtain ⟨-, -, -, -, x4, x5, fx⟩ := pX bI hx
 obtain ⟨xa, xi⟩ := x
 simp only [] at *
 rcases pO l with rfl | ⟨l1, y, rfl⟩
 ·simp only [lV, nI, tF, List.nil_append] at *
  simp at hnd
  have n1 : c ≠ xa := hnd.1.2
  have n2 : xa ≠ c := Ne.symm n1
  clear h2 hnd hx x5
  go_in
  go_wp2
  go_end0
  exact ⟨rfl, rfl, rfl, rfl⟩
 simp only [oM, eJ] at *
 rw [pD] at h2
 obtain ⟨-, h7, _⟩ := h2
 obtain ⟨-, -, -, -, y4, y5, fy⟩ := pX bI h7
 obtain ⟨ya, yi⟩ := y
 simp only [] at *
 simp only [lV, lW, nI, jN, qT, pW, tF, qV] at *
 simp [kO] at hnd
 obtain ⟨⟨n1, n2, n3, n4⟩, ⟨n5, n6, n7⟩, n8, n9, n10⟩ := hnd
 have n3' := Ne.symm n3; have n4' := Ne.symm n4; have n9' := Ne.symm n9
 clear h7 n1 n2 n5 n6 n7 n8 n10 c2 x5 y4 hx
 go_in
 go_wp2
 go_end0
 exact ⟨rfl, rfl, rfl, rfl⟩
theorem Cw (w : World) {c m : Nat} {most : Int} {l : List (Nd Int Sl)} {x : Nd Int Sl} (h : gN bI w c m most l) (hx : w.heap[x.a]? = some (iV bI x.it none none))
  (hnd : (c :: m :: (l ++ [x]).map (·.a)).Nodup) : Calls Tryz.prog 142 #[.pointer (some ⟨c, 0, none⟩), .pointer (some ⟨x.a, 0, none⟩)] w fun e w' => e = .returned (.tuple #[]) ∧
   gN bI w' c m most (l ++ [x]) ∧ aB (c :: (l ++ [x]).map (·.a)) w w' :=
 (NA w h hx hnd).mono fun _ _ ⟨he, hw⟩ => ⟨he, Nl bI h hx hnd hw⟩
theorem vU (w : World) {c m : Nat} {most : Int} {l : List (Nd Int Sl)} (h : Rep bI w c m most l) (k : Int) (hk : ∀ n ∈ l, n.it.k ≠ k) (use : Bool) :
  Calls Tryz.prog 140 #[.pointer (some ⟨c, 0, none⟩), bI.ek k, .bool use] w fun e w' => e = .returned (.pointer none) ∧ w = w' := by
 obtain ⟨-, c1, -, -, fc⟩ := sD bI h.lay
 obtain ⟨es, ck, h1, h2⟩ := h.map
 have hl := Np keys tG (Nw w) h1 h2 hk
 simp only [tF] at hl
 clear h h1 h2 hk
 go_in
 go_wp2
 go_ret
 exact ⟨rfl, rfl⟩
theorem Cu (w : World) {c m : Nat} {most : Int} {l1 l2 : List (Nd Int Sl)} {x : Nd Int Sl} (h : Rep bI w c m most (l1 ++ x :: l2)) (k : Int) (hk : x.it.k = k) :
  Calls Tryz.prog 140 #[.pointer (some ⟨c, 0, none⟩), bI.ek k, .bool false] w fun e w' => e = .returned (.pointer (some ⟨x.a, 0, none⟩)) ∧ w = w' := by
 obtain ⟨-, c1, -, -, fc⟩ := sD bI h.lay
 obtain ⟨es, ck, h1, h2⟩ := h.map
 have hl := Gp keys tG h1 h2 h.keys hk
 simp only [qV] at hl
 clear h h1 h2 hk
 go_in
 go_wp2
 go_ret
 exact ⟨rfl, rfl⟩
def NB (w : World) (c m : Nat) (most : Int) (l1 l2 : List (Nd Int Sl)) (x : Nd Int Sl) (e : Ending) (w' : World) : Prop :=
 e = .returned (.pointer (some ⟨x.a, 0, none⟩)) ∧ Rep bI w' c m most (l1 ++ l2 ++ [x]) ∧ aB (c :: (l1 ++ x :: l2).map (·.a)) w w'
theorem Gv (w : World) {c m : Nat} {most : Int} {l1 l2 : List (Nd Int Sl)} {x : Nd Int Sl} (h : Rep bI w c m most (l1 ++ x :: l2)) (k : Int) (hk : x.it.k = k) :
  Calls Tryz.prog 140 #[.pointer (some ⟨c, 0, none⟩), bI.ek k, .bool true] w (NB w c m most l1 l2 x) := by
 obtain ⟨-, c1, -, -, fc⟩ := sD bI h.lay
 obtain ⟨es, ck, h1, h2⟩ := h.map
 have hl := Gp keys tG h1 h2 h.keys hk
 simp only [qV] at hl
 clear h1 h2 hk
 go_in
 go_wp2_with fail
 refine (Gu w h.lay).mono ?_
 rintro e w1 ⟨rfl, hL, hx, hU⟩
 have HX := aA hx; clear hx
 go_wp2_with fail
 refine (Cw w1 hL HX.out (Nt h.lay.nodup)).mono ?_
 rintro e w2 ⟨rfl, hL2, hU2⟩
 go_wp2_with fail
 go_ret
 exact ⟨rfl, Ns h hU hL2 hU2⟩
end Go.Proofs.YtgpefiacbipfpaaGreatDoor.Bc.C
namespace Go.Proofs.YtgpefiacbipfpaaGreatDoor.Bc.C
open Go.RowKit
abbrev zk : Int := 0
abbrev zv : Sl := ⟨none, 0, 0⟩
def Ak (w : World) (c m : Nat) (most : Int) (l l' : List (Nd Int Sl)) (gk : Int) (gv : Sl) (went gd : Bool) (err : Int) (e : Ending) (w' : World) : Prop :=
 e = .returned (.tuple #[bI.ek gk, bI.ev gv, .bool went, .bool gd, .int .i64 err]) ∧ Rep bI w' c m most l' ∧ aB (foot c m l) w w'
theorem NC (w : World) {c m : Nat} {most : Int} {l1 l2 : List (Nd Int Sl)} {x : Nd Int Sl} (h : Rep bI w c m most (l1 ++ x :: l2)) (k : Int) (hk : x.it.k = k) (v : Sl) (d : Bool) :
  Calls Tryz.prog 93 #[.pointer (some ⟨c, 0, none⟩), bI.ek k, bI.ev v, .bool d] w
   (Ak w c m most (l1 ++ x :: l2) (l1 ++ l2 ++ [⟨x.a, { x.it with v := v, d := x.it.d || d }⟩]) zk zv false false 0) := by
 obtain ⟨xa, xk, xv, xd, xp⟩ := x
 simp only [] at hk ⊢
 have H := aA h
 clear h
 cases xd
 all_goals
  go_in
  go_wp2_with fail
  refine (Gv _ (H.out.alloc _) k hk).mono ?_
  rintro e w1 ⟨rfl, hR, hU⟩
  obtain ⟨-, x1, x2, -, -, -, fx⟩ := pX bI hR.node
  simp only [] at x1 x2 fx hR
  have nF := H.out.new_not
  have hg : w1.heap[w.heap.size]? = some (.cells #[bI.ek zk, bI.ev zv, .bool false, .int .i64 0, .pointer none, .pointer none] 208) := by
   rw [hU.block _ (by simp) (fun q => nF (by simp at q ⊢; grind)), heap_alloc, aF rfl]; try rfl
  have g0 : w1.cell? ⟨w.heap.size, 0, none⟩ = some (bI.ek zk) := aD hg 0
  have g1 : w1.cell? ⟨w.heap.size, 1, none⟩ = some (bI.ev zv) := aD hg 1
  simp only [] at g0 g1
  have nx : xa ≠ w.heap.size := fun q => nF (by simp [q])
  have nx' : w.heap.size ≠ xa := Ne.symm nx
  clear nF hg
  have HU := aA hU
  have HR := aA hR
  clear hU hR
  go_wp2
  go_region
  go_wp2
 ·refine rO (v := .tuple #[bI.ek zk, bI.ev zv, .bool false, .bool false, .int .i64 0]) (by simp [results, Tryz.results93, go_sem]; try rfl) rfl ⟨rfl, HR.out.set12 v _ ⟨rfl, rfl, rfl⟩, ?_⟩
  exact (((((aB.refl _ _).alloc _).trans (HU.out.mono (fun q hq _ => by simp at hq ⊢; grind))).setCell (by simp) _ _).setCell (by simp) _ _).drew
 refine rO (v := .tuple #[bI.ek zk, bI.ev zv, .bool false, .bool false, .int .i64 0]) (by simp [results, Tryz.results93, go_sem]; try rfl) rfl ⟨rfl, HR.out.set12 v _ ⟨rfl, rfl, rfl⟩, ?_⟩
 exact (((((aB.refl _ _).alloc _).trans (HU.out.mono (fun q hq _ => by simp at hq ⊢; grind))).setCell (by simp) _ _).setCell (by simp) _ _).drew
def Gw (w : World) (c m : Nat) (most : Int) (l0 l : List (Nd Int Sl)) (it : It Int Sl) (gk : Int) (gv : Sl) (went gd : Bool) (e : Ending) (w' : World) : Prop :=
 ∃ a, e = .returned (.tuple #[bI.ek gk, bI.ev gv, .bool went, .bool gd, .int .i64 0]) ∧ Rep bI w' c m most (l ++ [⟨a, it⟩]) ∧ aB (foot c m l0) w w' ∧ w.heap.size ≤ a
abbrev mM : Obj := .cells #[bI.ek zk, bI.ev zv, .bool false, .int .i64 0, .pointer none, .pointer none] 208
theorem ND (w : World) {c m : Nat} {most : Int} {l : List (Nd Int Sl)} (h : Rep bI w c m most l) (k : Int) (hk : ∀ n ∈ l, n.it.k ≠ k) (v : Sl) (d : Bool) (hl : (l.length : Int) ≠ most) :
  Calls Tryz.prog 93 #[.pointer (some ⟨c, 0, none⟩), bI.ek k, bI.ev v, .bool d] w
   (Gw w c m most l l { k := k, v := v, d := d, p := 0 } zk zv false false) := by
 have hN := h.new_not
 have h0 := h.alloc mM
 have HK := aA hk
 go_in
 go_wp2_with fail
 refine (vU _ h0 k HK.out true).mono ?_
 rintro e w1 ⟨rfl, hw1⟩
 obtain ⟨es, ck, h1, h2⟩ := h0.map
 obtain ⟨c0, c1, c2, c3, fc⟩ := sD bI h0.lay
 have hg : (w.alloc mM).heap[w.heap.size]? = some mM := by rw [heap_alloc, aF rfl]
 have hs : (w.alloc mM).heap.size = w.heap.size + 1 := by simp
 have u0 : aB (foot c m l) w (w.alloc mM) := (aB.refl _ _).alloc _
 obtain rfl : w.alloc mM = w1 := hw1
 generalize w.alloc mM = w0 at *
 clear hk h
 have hcs : c < w0.heap.size := h0.c_lt
 have hcs' : c ≠ w0.heap.size := by omega
 have hms := h0.m_lt
 have hlen := Gr (P := Tryz.prog) (T := 194) (w := w0.drew) tG h1 3
 have hz : ((es.size : Int) == most) = false := by rw [Gm bI h2]; simpa using hl
 have hst := Gq (P := Tryz.prog) (T := 194) (w := (w0.alloc (iV bI { k := k, v := v, d := d, p := 0 } none none)).drew) keys tG (m := m) (es := es) (clock := ck) (by rw [oY, heap_alloc, aE (by omega)]; exact h1) h2 HK.out (pt (some w0.heap.size))
 have hL := fun W2 hW => Gt (W2 := W2) h0.lay h1 { k := k, v := v, d := d, p := 0 } hW
 have HP := aA (Gn bI h2 ⟨w0.heap.size, { k := k, v := v, d := d, p := 0 }⟩ ck)
 have HL := aA hL
 have HR := aA h0
 have HG := aA hg
 have HM := aA h1
 have HS := aA hs
 have HU := aA u0
 have HN := aA hN
 clear hg h1 hs hl h0 u0 hL hN
 simp only [iV, tF, qV, Cv] at hst
 go_wp2_with fail
 go_region
 go_wp2_with fail
 generalize hW2 : ChangeMaps.setBlock ((w0.alloc _).drew) m _ = W2
 obtain ⟨hL, hx, hmap, hU2, hnd⟩ := HL.out W2 (by rw [← hW2]; exact ⟨rfl, rfl, rfl⟩)
 clear hW2
 have HX := aA hx
 have HB := aA hmap
 clear hx hmap hlen hst c0 c1 c2 c3 fc
 refine (Cw W2 hL HX.out hnd).mono ?_
 rintro e w3 ⟨rfl, hL3, hU3⟩
 have hnw : w.heap.size ∉ c :: (l ++ [(⟨w0.heap.size, { k := k, v := v, d := d, p := 0 }⟩ : Nd Int Sl)]).map (·.a) := by
  have h1 := HN.out; have h2 := HS.out
  simp at h1 ⊢; refine ⟨h1.1, fun x hx => h1.2.2 x hx, by omega⟩
 have hg : w3.heap[w.heap.size]? = some mM := by
  have h1 := HN.out; have h2 := HS.out
  rw [hU3.block _ (by have := hU2.size; omega) hnw, hU2.block _ (by omega) (by simp at h1 ⊢; exact h1.2.1)]; exact HG.out
 have g0 : w3.cell? ⟨w.heap.size, 0, none⟩ = some (bI.ek zk) := aD hg 0
 have g1 : w3.cell? ⟨w.heap.size, 1, none⟩ = some (bI.ev zv) := aD hg 1
 have g2 : w3.cell? ⟨w.heap.size, 2, none⟩ = some (.bool false) := aD hg 2
 have hkk : ((l ++ [(⟨w0.heap.size, { k := k, v := v, d := d, p := 0 }⟩ : Nd Int Sl)]).map (·.it.k)).Nodup := by
  have h1 := HR.out.keys; have h2 := HK.out
  simp only [eZ, dR, kT, kO]
  refine ⟨h1, by simp, ?_⟩
  simp; exact fun x hx => h2 x hx
 have hR := Gs HB.out HP.out hkk hL3 hU3
 have hUU : aB (foot c m l) w w3 := by
  have h2 := HS.out
  refine (HU.out.next hU2 (by simp)).next hU3 (fun q hq hlt => ?_)
  simp at hq ⊢
  rcases hq with hq | hq | hq
  ·exact .inl hq
  ·exact .inr (.inr hq)
  omega
 have HF := aA (aC hR hUU)
 clear hg hnw hkk hR hUU hL3 hU3 hL hnd
 simp only [] at g0 g1 g2
 go_wp2
 go_region
 go_wp2
 all_goals exact rO (v := .tuple #[bI.ek zk, bI.ev zv, .bool false, .bool false, .int .i64 0]) (by simp [results, Tryz.results93, go_sem]; try rfl) rfl ⟨w0.heap.size, rfl, HF.out.1.alike bI ⟨rfl, rfl, rfl⟩, HF.out.2.drew, by have := HS.out; omega⟩
theorem NE (w : World) {c m : Nat} {most : Int} {l1 l2 : List (Nd Int Sl)} {x : Nd Int Sl} (h : Rep bI w c m most (l1 ++ x :: l2)) (k : Int) (hk : ∀ n ∈ l1 ++ x :: l2, n.it.k ≠ k) (v : Sl) (d : Bool)
  (hl : ((l1 ++ x :: l2).length : Int) = most) (hp : ∀ n ∈ l1, 0 < n.it.p) (hx : x.it.p = 0) :
  Calls Tryz.prog 93 #[.pointer (some ⟨c, 0, none⟩), bI.ek k, bI.ev v, .bool d] w (Gw w c m most (l1 ++ x :: l2) (l1 ++ l2) { k := k, v := v, d := d, p := 0 } x.it.k x.it.v true x.it.d) := by
 obtain ⟨xa, xk, xv, xd, xp⟩ := x
 simp only [] at hx ⊢
 subst hx
 have hN := h.new_not
 have h0 := h.alloc mM
 have HK := aA hk
 go_in
 go_wp2_with fail
 refine (vU _ h0 k HK.out true).mono ?_
 rintro e w1 ⟨rfl, hw1⟩
 obtain ⟨es, ck, h1, h2⟩ := h0.map
 obtain ⟨c0, c1, c2, c3, fc⟩ := sD bI h0.lay
 have hg : (w.alloc mM).heap[w.heap.size]? = some mM := by rw [heap_alloc, aF rfl]
 have hs : (w.alloc mM).heap.size = w.heap.size + 1 := by simp
 have u0 : aB (foot c m (l1 ++ ⟨xa, { k := xk, v := xv, d := xd, p := 0 }⟩ :: l2)) w (w.alloc mM) := (aB.refl _ _).alloc _
 obtain rfl : w.alloc mM = w1 := hw1
 generalize w.alloc mM = w0 at *
 clear hk h
 have hlen := Gr (P := Tryz.prog) (T := 194) (w := w0.drew) tG h1 3
 have hz : ((es.size : Int) == most) = true := by rw [Gm bI h2]; simpa using hl
 obtain ⟨x0, x1, x2, x3, x4, x5, fx⟩ := pX bI h0.node
 have g0 : w0.cell? ⟨w.heap.size, 0, none⟩ = some (bI.ek zk) := aD hg 0
 have g1 : w0.cell? ⟨w.heap.size, 1, none⟩ = some (bI.ev zv) := aD hg 1
 have g2 : w0.cell? ⟨w.heap.size, 2, none⟩ = some (.bool false) := aD hg 2
 have g3 : w0.cell? ⟨w.heap.size, 3, none⟩ = some (.int .i64 0) := aD hg 3
 have g4 : w0.cell? ⟨w.heap.size, 4, none⟩ = some (.pointer none) := aD hg 4
 have g5 : w0.cell? ⟨w.heap.size, 5, none⟩ = some (.pointer none) := aD hg 5
 have fg := aZ hg
 have nx : xa ≠ w.heap.size := fun q => hN (by simp [q])
 have nx' : w.heap.size ≠ xa := Ne.symm nx
 simp only [Cv] at g0 g1 x0 x1 x2 x3 x4 x5
 obtain ⟨pp, hpp⟩ : ∃ o, pt (lst l1 none) = .pointer o := ⟨_, rfl⟩
 obtain ⟨pq, hpq⟩ : ∃ o, pt (hd l2 none) = .pointer o := ⟨_, rfl⟩
 rw [hpp] at x4
 rw [hpq] at x5
 clear hpp hpq
 have hst6 := fun W' hW => Nu (w' := W') (b0 := bI.ek xk) (b1 := bI.ev xv) (b2 := .bool xd) (b3 := .int .i64 0) (b4 := .pointer pp) (b5 := .pointer pq) hg hW
 have H6 := aA hst6
 have HR := aA h0
 have HU := aA u0
 have HP := aA hp
 have HN := aA hN
 have HM := aA h1
 have HMR := aA h2
 have HS := aA hs
 clear hg h1 hl h0 u0 hp h2 hst6 hN hs
 go_wp2_with fail
 go_region
 go_wp2_with fail
 go_loopg [16] l1.length (fun n v wr => wr = w0.drew ∧ ∃ a b, l1 = a ++ b ∧ v = pt (hd (b ++ ⟨xa, { k := xk, v := xv, d := xd, p := 0 }⟩ :: l2) none) ∧ n = b.length)
 case atStart => exact ⟨rfl, [], l1, rfl, rfl, rfl⟩
 case round =>
  obtain ⟨rfl, a, b, hab, rfl, rfl⟩ := hrel
  rcases b with _ | ⟨n, b⟩
  ·simp only [List.nil_append, jN, qV]
   clear hab c0 c1 c2 c3 fc hlen hz
   go_wp2_with fail
   generalize hW1 : World.drew (World.setCell _ _ _) = w1
   obtain ⟨hg1, hU1⟩ := H6.out w1 (by rw [← hW1]; exact sV _)
   clear hW1 H6 x0 x1 x2 x3 x4 x5 fx g0 g1 g2 g3 g4 g5 fg
   have hR1 := HR.out.keep hU1 (fun q hq => by simp only [aM]; rintro rfl; exact HN.out hq)
   have hc := Gu w1 hR1.lay
   simp only [] at hc
   refine hc.mono ?_
   clear hc
   rintro e w2 ⟨rfl, hL, hX, hU2⟩
   have hs2 : w.heap.size + 1 ≤ w2.heap.size := by have h1 := HS.out; have h2 := hU1.size; have h3 := hU2.size; omega
   have hms := HR.out.m_lt
   have hm2 : w2.heap[m]? = some (.map es ck) := by
    have h1 := hU1.size
    rw [hU2.block _ (by omega) hR1.lay.m_not, hU1.block _ hms (by simp only [aM]; rintro rfl; exact HN.out (by simp))]
    exact HM.out
   have hg2 : w2.heap[w.heap.size]? = some (.cells #[bI.ek xk, bI.ev xv, .bool xd, .int .i64 0, .pointer pp, .pointer pq] 208) := by
    have h1 := hU1.size; have h2 := HS.out
    rw [hU2.block _ (by omega) (fun q => HN.out (by simp at q ⊢; grind))]; exact hg1
   obtain ⟨es', hdel, hmr⟩ := Nq (w := w2.drew) (P := Tryz.prog) (T := 194) keys tG hm2 HMR.out HR.out.keys (k := xk) rfl 3 0
   obtain ⟨c0, c1, c2, c3, fc⟩ := sD bI hL
   obtain ⟨x0, -, -, -, -, -, fx⟩ := pX bI hX
   have HF1 := aA hR1
   have HF2 := aA hL
   have HF3 := aA hU2
   have HF4 := aA hm2
   have HF5 := aA hg2
   have HF6 := aA hU1
   clear hg1 hR1 hL hX hU2 hm2 hg2 hU1 c0 c2 c3
   simp only [] at x0 hdel
   go_upto_region 17 with (fail)
   go_region
   go_upto_region 18 with (fail)
   generalize hW4 : ChangeMaps.setBlock w2.drew m _ = w4
   obtain ⟨hR4, hU4⟩ := Nv (w2 := w4) HF1.out HF4.out HF2.out hmr (by rw [← hW4]; exact ⟨rfl, rfl, rfl⟩)
   have hu0 : aB (foot c m (l1 ++ ⟨xa, { k := xk, v := xv, d := xd, p := 0 }⟩ :: l2)) w w4 := by
    refine ((HU.out.next HF6.out (fun q hq hlt => ?_)).next HF3.out (fun q hq _ => ?_)).next hU4 (fun q hq _ => ?_)
    ·simp at hq; omega
    ·simp at hq ⊢; grind
    simp at hq ⊢; grind
   have hgm : w.heap.size ≠ m := fun q => HN.out (by simp [q])
   have hg4 : w4.heap[w.heap.size]? = some (.cells #[bI.ek xk, bI.ev xv, .bool xd, .int .i64 0, .pointer pp, .pointer pq] 208) := by
    rw [hU4.block _ (by omega) (by simpa using hgm)]; exact HF5.out
   have hs4 : w.heap.size + 1 ≤ w4.heap.size := by have := hU4.size; omega
   have HK4 : Hid (∀ n ∈ l1 ++ l2, n.it.k ≠ k) := aA (fun n hn => HK.out n (by simp at hn ⊢; grind))
   have hgF : w.heap.size ∉ foot c m (l1 ++ l2) := fun q => HN.out (by simp at q ⊢; grind)
   clear hW4 hdel hmr c1 fc x0 fx HF1 HF2 HF3 HF4 HF5 HF6 hU4 HK HU HN HM HMR HS HR HP nx nx' hs2 hms
   obtain ⟨es4, ck4, h1, h2⟩ := hR4.map
   obtain ⟨c0, c1, c2, c3, fc⟩ := sD bI hR4.lay
   have hcs : c < w4.heap.size := hR4.c_lt
   have hcs' : c ≠ w4.heap.size := by omega
   have hms := hR4.m_lt
   have hst := Gq (P := Tryz.prog) (T := 194) (w := w4.alloc (iV bI { k := k, v := v, d := d, p := 0 } none none)) keys tG (m := m) (es := es4) (clock := ck4) (by rw [heap_alloc, aE (by omega)]; exact h1) h2 HK4.out (pt (some w4.heap.size))
   have hL := fun W2 hW => Gt (W2 := W2) hR4.lay h1 { k := k, v := v, d := d, p := 0 } hW
   have HP := aA (Gn bI h2 ⟨w4.heap.size, { k := k, v := v, d := d, p := 0 }⟩ ck4)
   have HL := aA hL
   have HR := aA hR4
   have HG := aA hg4
   have HM := aA h1
   have HU := aA hu0
   have HN := aA hgF
   clear hg4 h1 hu0 hL hgF hR4 h2
   simp only [iV, tF, qV, Cv] at hst
   go_wp2_with fail
   generalize hW2 : ChangeMaps.setBlock (w4.alloc _) m _ = w5
   obtain ⟨hL, hx, hmap, hU2, hnd⟩ := HL.out w5 (by rw [← hW2]; exact uE _)
   clear hW2
   have HX := aA hx
   have HB := aA hmap
   clear hx hmap hst c0 c1 c2 c3 fc HL
   refine (Cw w5 hL HX.out hnd).mono ?_
   rintro e w3 ⟨rfl, hL3, hU3⟩
   have hnw : w.heap.size ∉ c :: (l1 ++ l2 ++ [(⟨w4.heap.size, { k := k, v := v, d := d, p := 0 }⟩ : Nd Int Sl)]).map (·.a) := by
    intro q
    rw [eZ, ← List.cons_append] at q
    rcases bK.1 q with q | q
    ·exact HN.out (by simp at q ⊢; grind)
    simp at q; omega
   have hg : w3.heap[w.heap.size]? = some (.cells #[bI.ek xk, bI.ev xv, .bool xd, .int .i64 0, .pointer pp, .pointer pq] 208) := by
    rw [hU3.block _ (by have := hU2.size; omega) hnw, hU2.block _ (by omega) (by simpa using hgm)]; exact HG.out
   have g0 : w3.cell? ⟨w.heap.size, 0, none⟩ = some (bI.ek xk) := aD hg 0
   have g1 : w3.cell? ⟨w.heap.size, 1, none⟩ = some (bI.ev xv) := aD hg 1
   have g2 : w3.cell? ⟨w.heap.size, 2, none⟩ = some (.bool xd) := aD hg 2
   have hkk : ((l1 ++ l2 ++ [(⟨w4.heap.size, { k := k, v := v, d := d, p := 0 }⟩ : Nd Int Sl)]).map (·.it.k)).Nodup := by
    have h1 := HR.out.keys; have h2 := HK4.out
    rw [eZ, kO]
    refine ⟨h1, by simp, ?_⟩
    intro q hq r hr
    obtain ⟨n, hn, rfl⟩ := cV.1 hq
    simp at hr; subst hr
    exact h2 n hn
   have hR := Gs HB.out HP.out hkk hL3 hU3
   have hUU : aB (foot c m (l1 ++ ⟨xa, { k := xk, v := xv, d := xd, p := 0 }⟩ :: l2)) w w3 := by
    refine (HU.out.next hU2 (by simp)).next hU3 (fun q hq hlt => ?_)
    rw [eZ, ← List.cons_append] at hq
    rcases bK.1 hq with hq | hq
    ·simp at hq ⊢; grind
    simp at hq; omega
   have HF := aA (aC hR hUU)
   clear hg hnw hkk hR hUU hL3 hU3 hL hnd
   simp only [] at g0 g1 g2
   go_wp2
   go_region
   go_wp2
   all_goals exact rO (v := .tuple #[bI.ek xk, bI.ev xv, .bool true, .bool xd, .int .i64 0]) (by simp [results, Tryz.results93, go_sem]; try rfl) rfl ⟨w4.heap.size, rfl, HF.out.1.alike bI (sV _), HF.out.2.drew, by omega⟩
  have hn := ((by have := HR.out; rw [hab, eJ, List.cons_append] at this; exact this : Rep bI w0 c m most (a ++ n :: (b ++ ⟨xa, { k := xk, v := xv, d := xd, p := 0 }⟩ :: l2)))).node
  have hpn := HP.out n (by rw [hab]; simp)
  obtain ⟨na, nk, nv, nd, np⟩ := n
  obtain ⟨-, -, -, n3, -, n5, -⟩ := pX bI hn
  simp only [jN, qV, List.cons_append] at *
  have hq : decide (0 < (np : Int)) = true := by simpa using hpn
  have hq2 : 0 < np := by simpa using hpn
  have HA := aA hab
  clear hab hn hpn c0 c1 c2 c3 fc g0 g1 g2 g3 g4 g5 fg x0 x1 x2 x3 x4 x5 fx hlen hz
  go_wp2_with fail
  go_roundg b.length
  case measure => simp
  case rel => exact ⟨rfl, a ++ [⟨na, { k := nk, v := nv, d := nd, p := np }⟩], b, by rw [HA.out]; simp, rfl, rfl⟩
end Go.Proofs.YtgpefiacbipfpaaGreatDoor.Bc.C
namespace Go.Proofs.YtgpefiacbipfpaaGreatDoor.Bc.C
open Go.RowKit
theorem NF (w : World) {c m : Nat} {most : Int} {l : List (Nd Int Sl)} (h : Rep bI w c m most l) (k : Int) (hk : ∀ n ∈ l, n.it.k ≠ k) :
  Calls Tryz.prog 91 #[.pointer (some ⟨c, 0, none⟩), bI.ek k] w fun e w' => e = .returned (.tuple #[bI.ev zv, .bool false]) ∧ w = w' := by
 have HK := aA hk
 clear hk
 go_in
 go_wp2_with fail
 refine (vU w h k HK.out true).mono ?_
 rintro e w1 ⟨rfl, rfl⟩
 go_wp2_with fail
 go_ret2
 exact ⟨rfl, rfl⟩
def Cx (w : World) (c m : Nat) (most : Int) (l l' : List (Nd Int Sl)) (v : Sl) (e : Ending) (w' : World) : Prop :=
 e = .returned (.tuple #[bI.ev v, .bool true]) ∧ Rep bI w' c m most l' ∧ aB (foot c m l) w w'
theorem NG (w : World) {c m : Nat} {most : Int} {l1 l2 : List (Nd Int Sl)} {x : Nd Int Sl} (h : Rep bI w c m most (l1 ++ x :: l2)) (k : Int) (hk : x.it.k = k) :
  Calls Tryz.prog 91 #[.pointer (some ⟨c, 0, none⟩), bI.ek k] w (Cx w c m most (l1 ++ x :: l2) (l1 ++ l2 ++ [x]) x.it.v) := by
 have HK := aA hk
 clear hk
 go_in
 go_wp2_with fail
 refine (Gv w h k HK.out).mono ?_
 rintro e w1 ⟨rfl, hR, hU⟩
 obtain ⟨-, x1, -, -, -, -, fx⟩ := pX bI hR.node
 have HR := aA hR
 have HU := aA hU
 clear hR hU
 simp only [] at x1
 go_wp2_with fail
 go_ret2
 exact ⟨rfl, HR.out, HU.out.mono (fun q hq _ => by simp at hq ⊢; grind)⟩
end Go.Proofs.YtgpefiacbipfpaaGreatDoor.Bc.C
namespace Go.Proofs.YtgpefiacbipfpaaGreatDoor
open Go.RowKit
open Bc (Nd It Rep foot Cr)
abbrev fE := Bc.C.Sl
abbrev lB (s : Bc.C.Sl) : Value := .slice s.a s.n s.c
abbrev Cy := Bc.C.bI
theorem tH {α : Type} {f : α → List Value} {e t : TypeId} {k base B : Nat} {W : World} {v : Value} {l : List α} {c : Array Value} {fr : Nat × Nat} (h : aK f e k W base v l) (hb : W.heap[B]? = some (.cells c t fr)) (ht : t ≠ e) : v.ownBlock ≠ some B := by
 intro hv
 rcases h.2 with ⟨rfl, -⟩ | ⟨g, cap, cur, rfl, -, hg, -⟩
 ·cases hv
 simp only [Value.ownBlock, fY] at hv
 subst hv
 rw [hg] at hb
 simp only [fY, Ee] at hb
 exact ht hb.2.1.symm
theorem qW {α : Type} {f : α → List Value} {e : TypeId} {k base B : Nat} {W : World} {v : Value} {l : List α} {es : Array MapEntry} {ck : Nat} (h : aK f e k W base v l) (hb : W.heap[B]? = some (.map es ck)) : v.ownBlock ≠ some B := by
 intro hv
 rcases h.2 with ⟨rfl, -⟩ | ⟨g, cap, cur, rfl, -, hg, -⟩
 ·cases hv
 simp only [Value.ownBlock, fY] at hv
 subst hv
 rw [hg] at hb
 cases hb
theorem Cz {w : World} {c m : Nat} {most : Int} {l : List (Nd Int fE)} (h : Rep Cy w c m most l) {base : Nat} {v : Value} {b : Bs} (ho : aK c8 5 1 w base v b) : ∀ j ∈ foot c m l, v.ownBlock ≠ some j := by
 intro j hj
 simp only [foot, aJ, cV] at hj
 rcases hj with rfl | rfl | ⟨n, hn, rfl⟩
 ·exact tH ho h.lay.cache (by decide)
 ·obtain ⟨es, ck, h1, -⟩ := h.map
  exact qW ho h1
 obtain ⟨p, q, h1⟩ := Cr Cy h.lay.chain hn
 exact tH ho h1 (by decide)
structure kH (w : World) (c m : Nat) (l : List (Nd Int fE)) (V : Nat → Bs) (FC : List Nat) : Prop where
 rep : Rep Cy w c m 16 l
 few : l.length ≤ 16
 val : ∀ x ∈ l, ∃ kk : Nat, x.it.k = kk ∧ x.it.p = 0 ∧ aK c8 5 1 w 0 (lB x.it.v) (V kk)
 foot : ∀ k ∈ foot c m l, k ∈ FC
 vin : ∀ x ∈ l, ∀ g, (lB x.it.v).ownBlock = some g → g ∈ FC
theorem kH.upd {w w' : World} {c m : Nat} {l : List (Nd Int fE)} {V : Nat → Bs} {FC : List Nat} (h : kH w c m l V FC) {F : List Nat} (u : aB F w w') (hF : ∀ k ∈ FC, k ∉ F) : kH w' c m l V FC :=
 ⟨h.rep.keep u fun k hk => hF k (h.foot k hk), h.few, fun x hx => by
  obtain ⟨kk, h1, h2, h3⟩ := h.val x hx
  exact ⟨kk, h1, h2, h3.upd u fun j hj e => hF j (h.vin x hx j e) hj⟩, h.foot, h.vin⟩
theorem kH.congr {w : World} {c m : Nat} {l : List (Nd Int fE)} {V V' : Nat → Bs} {FC : List Nat} (h : kH w c m l V FC) (e : ∀ k, V' k = V k) : kH w c m l V' FC :=
 ⟨h.rep, h.few, fun x hx => by obtain ⟨kk, h1, h2, h3⟩ := h.val x hx; exact ⟨kk, h1, h2, by rw [e]; exact h3⟩, h.foot, h.vin⟩
theorem Gx {l : List (Nd Int fE)} (x : Int) : (∀ n ∈ l, n.it.k ≠ x) ∨ ∃ l1 y l2, l = l1 ++ y :: l2 ∧ y.it.k = x := by
 by_cases h : ∃ y ∈ l, y.it.k = x
 ·obtain ⟨y, hy, hk⟩ := h
  obtain ⟨l1, l2, rfl⟩ := List.append_of_mem hy
  exact .inr ⟨l1, y, l2, rfl, hk⟩
 exact .inl fun n hn e => h ⟨n, hn, e⟩
def NH (w : World) (c m : Nat) (_l : List (Nd Int fE)) (V : Nat → Bs) (FC : List Nat) (x : Nat) (e : Ending) (w' : World) : Prop :=
 (∃ (v : fE) (l' : List (Nd Int fE)), e = .returned (.tuple #[lB v, .bool true]) ∧ aK c8 5 1 w' 0 (lB v) (V x) ∧ kH w' c m l' V FC ∧ aB FC w w') ∨ (e = .returned (.tuple #[.slice none 0 0, .bool false]) ∧ w' = w)
theorem NI (w : World) {c m : Nat} {l : List (Nd Int fE)} {V : Nat → Bs} {FC : List Nat} (h : kH w c m l V FC) (x : Nat) : Calls Tryz.prog 91 #[.pointer (some ⟨c, 0, none⟩), .int .i64 x] w (NH w c m l V FC x) := by
 rcases Gx (l := l) (x : Int) with hx | ⟨l1, y, l2, rfl, hk⟩
 ·exact (Bc.C.NF w h.rep (x : Int) hx).mono fun e w' ⟨he, hw⟩ => .inr ⟨he, hw.symm⟩
 refine (Bc.C.NG w h.rep (x : Int) hk).mono ?_
 rintro e w' ⟨he, hR, hU⟩
 have hrow : ∀ n ∈ l1 ++ y :: l2, ∃ kk : Nat, n.it.k = kk ∧ n.it.p = 0 ∧ aK c8 5 1 w' 0 (lB n.it.v) (V kk) := fun n hn => by
  obtain ⟨kk, h1, h2, h3⟩ := h.val n hn
  exact ⟨kk, h1, h2, h3.upd hU fun j hj => Cz h.rep h3 j hj⟩
 have hmem : ∀ n, n ∈ l1 ++ l2 ++ [y] → n ∈ l1 ++ y :: l2 := fun n hn => by simp at hn ⊢; grind
 refine .inl ⟨y.it.v, _, he, ?_, ⟨hR, by have := h.few; simp at this ⊢; omega, fun n hn => hrow n (hmem n hn), fun k hk => h.foot k ?_, fun n hn => h.vin n (hmem n hn)⟩, hU.mono fun k hk _ => h.foot k hk⟩
 ·obtain ⟨kk, h1, -, h3⟩ := hrow y (by simp)
  have : kk = x := by rw [hk] at h1; omega
  rw [← this]; exact h3
 simp only [foot, aJ, cV] at hk ⊢
 rcases hk with rfl | rfl | ⟨n, hn, rfl⟩
 ·simp
 ·simp
 exact .inr (.inr ⟨n, hmem n hn, rfl⟩)
def pE (V : Nat → Bs) (x : Nat) (d : Bs) : Nat → Bs := fun k => if k = x then d else V k
def NJ (w : World) (c m : Nat) (V : Nat → Bs) (FC : List Nat) (x : Nat) (v : fE) (d : Bs) (e : Ending) (w' : World) : Prop :=
 ∃ (k' : Int) (v' : fE) (b1 b2 : Bool) (l' : List (Nd Int fE)) (FC' : List Nat), e = .returned (.tuple #[.int .i64 k', lB v', .bool b1, .bool b2, .int .i64 0]) ∧ kH w' c m l' (pE V x d) FC' ∧ aB FC w w' ∧ ∀ i ∈ FC', i ∈ FC ∨ (w.heap.size ≤ i ∧ i < w'.heap.size) ∨ (lB v).ownBlock = some i
theorem Gy (w : World) {c m : Nat} {l : List (Nd Int fE)} {V : Nat → Bs} {FC : List Nat} (h : kH w c m l V FC) (x : Nat) (v : fE) {d : Bs} (hv : aK c8 5 1 w 0 (lB v) d) :
  Calls Tryz.prog 93 #[.pointer (some ⟨c, 0, none⟩), .int .i64 x, lB v, .bool false] w (NJ w c m V FC x v d) := by
 have hkeep : ∀ {w' : World}, aB (foot c m l) w w' → ∀ n ∈ l, ∃ kk : Nat, n.it.k = kk ∧ n.it.p = 0 ∧ aK c8 5 1 w' 0 (lB n.it.v) (V kk) := fun hU n hn => by
  obtain ⟨kk, h1, h2, h3⟩ := h.val n hn
  exact ⟨kk, h1, h2, h3.upd hU fun j hj => Cz h.rep h3 j hj⟩
 have hnew : ∀ {w' : World}, aB (foot c m l) w w' → aK c8 5 1 w' 0 (lB v) d := fun hU => hv.upd hU fun j hj => Cz h.rep hv j hj
 have hoth : ∀ {w' : World}, aB (foot c m l) w w' → ∀ n ∈ l, n.it.k ≠ x → ∃ kk : Nat, n.it.k = kk ∧ n.it.p = 0 ∧ aK c8 5 1 w' 0 (lB n.it.v) (pE V x d kk) := fun hU n hn hne => by
  obtain ⟨kk, h1, h2, h3⟩ := hkeep hU n hn
  exact ⟨kk, h1, h2, by unfold pE; rw [aE (fun e => hne (by rw [h1, e]))]; exact h3⟩
 have hfu : ∀ {w' : World}, aB (foot c m l) w w' → aB FC w w' := fun hU => hU.mono fun k hk _ => h.foot k hk
 rcases Gx (l := l) (x : Int) with hx | ⟨l1, y, l2, rfl, hk⟩
 ·by_cases hl : l.length = 16
  ·obtain ⟨y, l2, rfl⟩ : ∃ y l2, l = y :: l2 := by
    cases l with
    | nil => simp at hl
    | cons y l2 => exact ⟨y, l2, rfl⟩
   obtain ⟨_, _, hp0, _⟩ := h.val y (by simp)
   refine (Bc.C.NE (l1 := []) w h.rep (x : Int) hx v false (by rw [List.nil_append, hl]; rfl) (by simp) hp0).mono ?_
   rintro e w' ⟨a, he, hR, hU, ha⟩
   rw [List.nil_append] at hR
   refine ⟨_, _, _, _, _, a :: ((lB v).ownBlock.toList ++ FC), he, ⟨hR, by simp at hl ⊢; omega, fun n hn => ?_, fun k hk => ?_, fun n hn g hg => ?_⟩, hfu hU, fun i hi => ?_⟩
   ·rcases bK.1 hn with hn | hn
    ·exact hoth hU n (by simp [hn]) (hx n (by simp [hn]))
    simp only [aM] at hn; subst hn
    exact ⟨x, rfl, rfl, by unfold pE; rw [aF rfl]; exact hnew hU⟩
   ·simp only [foot, aJ, cV, bK, cA, cG] at hk ⊢
    rcases hk with rfl | rfl | ⟨n, hn | rfl, rfl⟩
    ·exact .inr (.inr (h.foot _ (by simp)))
    ·exact .inr (.inr (h.foot _ (by simp)))
    ·exact .inr (.inr (h.foot _ (by simp; exact .inr (.inr (.inr ⟨n, hn, rfl⟩)))))
    exact .inl rfl
   ·rcases bK.1 hn with hn | hn
    ·have := h.vin n (by simp [hn]) g hg
     simp [this]
    simp only [aM] at hn; subst hn
    simp [mR] at hg ⊢
    exact .inr (.inl hg)
   simp only [aJ, bK, mR] at hi
   rcases hi with rfl | hi | hi
   ·exact .inr (.inl ⟨ha, hR.lt (by simp)⟩)
   ·exact .inr (.inr hi)
   exact .inl hi
  refine (Bc.C.ND w h.rep (x : Int) hx v false (by omega)).mono ?_
  rintro e w' ⟨a, he, hR, hU, ha⟩
  refine ⟨_, _, _, _, _, a :: ((lB v).ownBlock.toList ++ FC), he, ⟨hR, by have := h.few; simp; omega, fun n hn => ?_, fun k hk => ?_, fun n hn g hg => ?_⟩, hfu hU, fun i hi => ?_⟩
  ·rcases bK.1 hn with hn | hn
   ·exact hoth hU n hn (hx n hn)
   simp only [aM] at hn; subst hn
   exact ⟨x, rfl, rfl, by unfold pE; rw [aF rfl]; exact hnew hU⟩
  ·simp only [foot, aJ, cV, bK, cA, cG] at hk ⊢
   rcases hk with rfl | rfl | ⟨n, hn | rfl, rfl⟩
   ·exact .inr (.inr (h.foot _ (by simp)))
   ·exact .inr (.inr (h.foot _ (by simp)))
   ·exact .inr (.inr (h.foot _ (by simp; exact .inr (.inr ⟨n, hn, rfl⟩))))
   exact .inl rfl
  ·rcases bK.1 hn with hn | hn
   ·have := h.vin n hn g hg
    simp [this]
   simp only [aM] at hn; subst hn
   simp [mR] at hg ⊢
   exact .inr (.inl hg)
  simp only [aJ, bK, mR] at hi
  rcases hi with rfl | hi | hi
  ·exact .inr (.inl ⟨ha, hR.lt (by simp)⟩)
  ·exact .inr (.inr hi)
  exact .inl hi
 refine (Bc.C.NC w h.rep (x : Int) hk v false).mono ?_
 rintro e w' ⟨he, hR, hU⟩
 obtain ⟨_, _, hp0, _⟩ := h.val y (by simp)
 have hkeys := h.rep.keys
 have hne : ∀ n ∈ l1 ++ l2, n.it.k ≠ x := fun n hn e => by
  rw [eZ, dR] at hkeys
  have h2 := kO.1 hkeys
  rcases bK.1 hn with hn | hn
  ·exact h2.2.2 n.it.k (cV.2 ⟨n, hn, rfl⟩) y.it.k (by simp) (by rw [e, hk])
  exact (kC.1 h2.2.1).1 (cV.2 ⟨n, hn, by rw [e, hk]⟩)
 refine ⟨_, _, _, _, _, (lB v).ownBlock.toList ++ FC, he, ⟨hR, by have := h.few; simp at this ⊢; omega, fun n hn => ?_, fun k hk2 => ?_, fun n hn g hg => ?_⟩, hfu hU, fun i hi => ?_⟩
 ·rcases bK.1 hn with hn | hn
  ·exact hoth hU n (by simp at hn ⊢; grind) (hne n hn)
  simp only [aM] at hn; subst hn
  exact ⟨x, hk, hp0, by unfold pE; rw [aF rfl]; exact hnew hU⟩
 ·have : k ∈ foot c m (l1 ++ y :: l2) := by
   simp only [foot, aJ, cV, bK, cA, cG] at hk2 ⊢
   rcases hk2 with rfl | rfl | ⟨n, hn | rfl, rfl⟩
   ·simp
   ·simp
   ·exact .inr (.inr ⟨n, by grind, rfl⟩)
   exact .inr (.inr ⟨y, by simp, rfl⟩)
  simp [h.foot k this]
 ·rcases bK.1 hn with hn | hn
  ·have := h.vin n (by simp at hn ⊢; grind) g hg
   simp [this]
  simp only [aM] at hn; subst hn
  simp [mR] at hg ⊢
  exact .inl hg
 simp only [bK, mR] at hi
 rcases hi with hi | hi
 ·exact .inr (.inr hi)
 exact .inl hi
end Go.Proofs.YtgpefiacbipfpaaGreatDoor
