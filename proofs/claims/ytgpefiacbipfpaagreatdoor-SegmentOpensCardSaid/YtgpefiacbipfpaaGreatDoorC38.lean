/- Segment: a file system that rests while another one works. -/
import Derived.Test.YtgpefiacbipfpaaGreatDoorC37
set_option maxRecDepth 100000
set_option maxHeartbeats 4000000
namespace Go.Proofs.YtgpefiacbipfpaaGreatDoor
open Go.RowKit Go.Maps
section
variable {w0 w w' : World} {v p room c : Nat} {m ml : Nat → Option Bs} {G P : List Nat}
end
section
variable {w W W' : World} {v1 p1 v2 p2 room c1 c2 b1 b2 lg1 lg2 : Nat} {ds1 ds2 : List Bs} {f1 s1 f2 s2 : Value} {L1 L2 : List aO} {K : List Nat}
end
theorem Jl {L M : List aO} (h : L.map aO.fr = M.map aO.fr) {k : Nat} (hm : ∀ x ∈ M, x.d.length ≤ k) : ∀ x ∈ L, x.d.length ≤ k := fun x hx => by
 have : x.fr ∈ M.map aO.fr := by rw [← h]; exact cV.2 ⟨x, hx, rfl⟩
 obtain ⟨y, hy, e⟩ := cV.1 this
 have := hm y hy
 rw [show x.d = y.d from bM (·.2) e.symm]
 exact this
section
variable {w0 w wr w5 w6 w7 w8 : World} {dv ev gv v6 v7 v8 : Value} {GL : List aO}
end
theorem oH.headC {w : World} {a : Option Addr} {n c : Nat} {L : List aO} (h : oH w (.slice a n c) L) {m : Nat} (hm : m ≤ n) : oH w (.slice a m c) (L.take m) := by
 obtain ⟨a', c', hv, h1, h2, hcell⟩ := h.row.sl
 have hnl := h.row.nl
 simp only [fG] at hv
 obtain ⟨rfl, rfl, rfl⟩ := hv
 have hl : (L.take m).length = m := by rw [bX]; omega
 refine ⟨⟨⟨a, c, by rw [hl], by rw [hl]; omega, h2, fun i hi => ?_⟩, fun n c e => ?_⟩, fun x hx => h.dat x (rM hx)⟩
 ·rw [hl] at hi
  obtain ⟨b, off, e, hc⟩ := hcell i (by omega)
  refine ⟨b, off, e, ?_⟩
  rw [List.getElem_take]
  exact hc
 injection e with e1 e2 e3
 subst e1 e3
 exact hnl _ _ rfl
theorem Dt {w : World} {b : Nat} {o o' : Obj} (h : w.heap[b]? = some o) : (w.alloc o').heap[b]? = some o := sB ((aB.refl [] w).alloc o') h
theorem Du {w : World} {b : Nat} {o : Obj} (h : w.heap[b]? = some o) : w.drew.heap[b]? = some o := h
theorem RG {α : Type} {f : α → List Value} {k bytes : Nat} {st e : TypeId} (T : fA f k bytes st e) {ops : Array Oper} {o : Oper} {a : Act} {w S : World} {K : Act → World → Prop} {Q : Exit → Act → World → Prop} {E : Prop}
  (hgd : o.guard = none) (s x : Operand) (ho : o.op = Op.call { callee := Callee.builtin Builtin.append, args := #[s, x], argTypes := #[st, st] }) {B : Nat} (hs : a.eval s = .slice (some ⟨B, 0, none⟩) 0 0) (hB : w.heap[B]? = some (.cells #[] e (0, 0))) (hSB : S.heap.size ≤ B) (hu : aB [] S w)
  {A : Option Addr} {c : Nat} {r : List α} (hx : a.eval x = .slice A r.length c) (hr : hZ f w A r) (hsl : ∀ x ∈ r, ∀ u ∈ f x, u.oneCell' = true) (hb : r.length * bytes ≤ 140737488355328) (h63 : r.length ≤ 140737488355328)
  (hK : ∀ v' w', aK f e k w' S.heap.size v' r → aB [] S w' → (∀ (b : Nat) (ob : Obj), w.heap[b]? = some ob → ob ≠ .cells #[] e (0, 0) → w'.heap[b]? = some ob) → (v'.ownBlock = some B ∨ ∀ g, v'.ownBlock = some g → w.heap.size ≤ g) → aB [B] w w' → K (a.put o.dst v') w') :
  if Region.wanted o (yielded ops a.tmps) = true then Oper.wp Tryz.prog o a w K Q else E := by
 refine lA T hgd s x ho (base := S.heap.size) (l := []) hs (aK.empty T hB hSB) hx hr hsl (by simpa using hb) (by simpa using h63) hu.size fun v' w' ho' hg hn => hK v' w' ho' (hu.grown hg fun k hk => by cases hk; exact hSB) (fun b ob h ne => ?_) hn (aB.ofGrown hg)
 refine ((aB.ofGrown hg).block b (aH h) fun q => ?_).trans h
 have q' : b = B := by simpa [Value.ownBlock] using q
 rw [q', hB] at h
 cases h
 exact ne rfl
section
variable {w12 w13 w14 X X1 X2 : World} {lo b B : Nat} {v12 v13 : Value} {F R : List aO}
end
end Go.Proofs.YtgpefiacbipfpaaGreatDoor
namespace Go.Proofs.YtgpefiacbipfpaaGreatDoor
open Go.RowKit
theorem RH (w : World) {v : Value} {l : Bs} (h : Rd w v l) (hl : l.length < 5) : Calls Tryz.prog 124 #[v] w fun e w' => nZ w.heap.size w' e (0, [], 0, 10) ∧ aB [] w w' := by
 obtain ⟨a, c, rfl, h1, h2, h3⟩ := h.slice
 have hlt : (l.length : Int) < 5 := by omega
 clear h
 go_in
 go_wp2_with fail
 exact lR Tryz.results124 rfl (aD (aX _ _) 0) (aD (aX _ _) 1) rfl ⟨⟨_, rfl, Rd.nil _, mZ _⟩, (aB.refl [] w).alloc _⟩
theorem RI (w : World) {b off n c : Nat} {l : Bs} (h : Rd w (.slice (some ⟨b, off, none⟩) n c) l) (hl : 5 ≤ l.length) (V : World) (u : aB [] w V) :
  Calls Tryz.prog 159 #[.slice (some ⟨b, off + 5, none⟩) (n - 5) (c - 5)] V fun e w' => e = .returned (.tuple #[.int .u64 (cX (l.drop 5)).1, .int .i64 (cX (l.drop 5)).2.1, .int .i64 (cX (l.drop 5)).2.2]) ∧ aB [] V w' :=
 Cq V ((h.tail 5 hl).keep u)
theorem Dw (w : World) {b off n c u k e : Nat} (hn : 5 < n) (hc : n ≤ c) (hc2 : c ≤ 9223372036854775807) (hu : u < 18446744073709551616) (hk : k ≤ 10) (he : e ≤ 20)
  (HU : ∀ V, aB [] w V → Calls Tryz.prog 159 #[.slice (some ⟨b, off + 5, none⟩) (n - 5) (c - 5)] V fun r w' => r = .returned (.tuple #[.int .u64 u, .int .i64 k, .int .i64 e]) ∧ aB [] V w') (E : Nat)
  (hE : (e ≠ 0 ∧ E = e) ∨ (e = 0 ∧ 2000 < u ∧ E = 12) ∨ (e = 0 ∧ u ≤ 2000 ∧ n < 5 + k + u ∧ E = 10)) :
  Calls Tryz.prog 124 #[.slice (some ⟨b, off, none⟩) n c] w fun r w' => nZ w.heap.size w' r (0, [], 0, E) ∧ aB [] w w' := by
 have HU := aA HU
 have hlt : ¬ (n : Int) < 5 := by omega
 have hne : ¬ c = 5 := by omega
 rcases hE with ⟨h1, rfl⟩ | ⟨rfl, h2, rfl⟩ | ⟨rfl, h2, h3, rfl⟩
 ·have h1' : ¬ (E : Int) = 0 := by omega
  go_in
  go_wp2_with fail
  refine (HU.out _ ((aB.refl [] w).alloc _)).mono ?_
  rintro r w1 ⟨rfl, hu1⟩
  have hb1 := sB hu1 (aX w (.cells #[.int .u8 0, .slice none 0 0] 25 (0, 0)))
  have HB := aA (aC hb1 (((aB.refl [] w).alloc _).trans hu1))
  have z0 := aD hb1 0
  have z1 := aD hb1 1
  have f0 := aZ hb1 0
  have f1 := aZ hb1 1
  clear hb1 hu1
  go_wp2_with fail
  have hb3 := pV HB.out.1 (.int .u8 0) (.slice none 0 0)
  exact lR Tryz.results124 rfl (aD hb3 0) (aD hb3 1) rfl ⟨⟨_, rfl, Rd.nil _, mZ _⟩, (HB.out.2.setCellNew (aQ _) _ _).setCellNew (aQ _) _ _⟩
 ·have h1' : (2000 : Int) < (u : Int) := by omega
  go_in
  go_wp2_with fail
  refine (HU.out _ ((aB.refl [] w).alloc _)).mono ?_
  rintro r w1 ⟨rfl, hu1⟩
  have hb1 := sB hu1 (aX w (.cells #[.int .u8 0, .slice none 0 0] 25 (0, 0)))
  have HB := aA (aC hb1 (((aB.refl [] w).alloc _).trans hu1))
  have z0 := aD hb1 0
  have z1 := aD hb1 1
  have f0 := aZ hb1 0
  have f1 := aZ hb1 1
  clear hb1 hu1
  go_wp2_with fail
  have hb3 := pV HB.out.1 (.int .u8 0) (.slice none 0 0)
  exact lR Tryz.results124 rfl (aD hb3 0) (aD hb3 1) rfl ⟨⟨_, rfl, Rd.nil _, mZ _⟩, (HB.out.2.setCellNew (aQ _) _ _).setCellNew (aQ _) _ _⟩
 have h1' : ¬ (2000 : Int) < (u : Int) := by omega
 have h2' : (n : Int) - 5 - (k : Int) < (u : Int) := by omega
 go_in
 go_wp2_with fail
 refine (HU.out _ ((aB.refl [] w).alloc _)).mono ?_
 rintro r w1 ⟨rfl, hu1⟩
 have hb1 := sB hu1 (aX w (.cells #[.int .u8 0, .slice none 0 0] 25 (0, 0)))
 have HB := aA (aC hb1 (((aB.refl [] w).alloc _).trans hu1))
 have z0 := aD hb1 0
 have z1 := aD hb1 1
 have f0 := aZ hb1 0
 have f1 := aZ hb1 1
 clear hb1 hu1
 go_wp2_with fail
 have hb3 := pV HB.out.1 (.int .u8 0) (.slice none 0 0)
 exact lR Tryz.results124 rfl (aD hb3 0) (aD hb3 1) rfl ⟨⟨_, rfl, Rd.nil _, mZ _⟩, (HB.out.2.setCellNew (aQ _) _ _).setCellNew (aQ _) _ _⟩
theorem RJ {w1 w6 : World} {x : UInt8} {v : Value} {d : Bs} (ho : Ow w6 w1.heap.size v d) (hu : aB [] w1 w6) : aB [] w1 (w6.alloc (.cells #[.int .u8 x.toNat, v] 25 (0, 0))) ∧ w1.heap.size ≤ w6.heap.size ∧ ∃ v', (w6.alloc (.cells #[.int .u8 x.toNat, v] 25 (0, 0))).heap[w6.heap.size]? = some (.cells #[.int .u8 x.toNat, v'] 25 (0, 0)) ∧ Ow (w6.alloc (.cells #[.int .u8 x.toNat, v] 25 (0, 0))) w1.heap.size v' d :=
 ⟨hu.alloc _, hu.size, v, aX _ _, ho.upd ((aB.refl [] w6).alloc _) (by simp)⟩
theorem Jm {w1 w6 : World} {x : UInt8} {v : Value} {d : Bs} {q : Nat} (ho : Ow w6 w1.heap.size v d) (hu : aB [] w1 w6) (hq : w1.heap.size ≤ q) (hQ : w6.heap[q]? = some (.cells #[.int .u8 0, .slice none 0 0] 25 (0, 0))) : aB [] w1 ((w6.setCell ⟨q, 0, none⟩ (.int .u8 x.toNat)).setCell ⟨q, 1, none⟩ v) ∧ w1.heap.size ≤ q ∧ ∃ v', ((w6.setCell ⟨q, 0, none⟩ (.int .u8 x.toNat)).setCell ⟨q, 1, none⟩ v).heap[q]? = some (.cells #[.int .u8 x.toNat, v'] 25 (0, 0)) ∧ Ow ((w6.setCell ⟨q, 0, none⟩ (.int .u8 x.toNat)).setCell ⟨q, 1, none⟩ v) w1.heap.size v' d := by
 have hne : ∀ j ∈ [q], v.ownBlock ≠ some j := fun j hj e => by
  rw [aM.1 hj] at e
  rcases ho.2 with ⟨rfl, -⟩ | ⟨g, cap, cur, rfl, -, hh, -⟩
  ·cases e
  cases e
  rw [hQ] at hh
  injection hh with h1
  injection h1 with _ h2 _
  exact absurd h2 (by decide)
 exact ⟨(hu.setCellNew hq _ _).setCellNew hq _ _, hq, v, pV hQ _ _, ho.upd (((aB.refl [q] w6).setCell (by simp) _ _).setCell (by simp) _ _) fun j hj e => hne j hj e⟩
theorem Jn (w : World) {b off n c u k s1 s2 : Nat} {x : UInt8} {d : Bs} (hc : n ≤ c) (hc2 : c ≤ 9223372036854775807) (hu : u ≤ 2000) (hk : k ≤ 10) (hk0 : 1 ≤ k) (hf : 5 + k + u ≤ n) (hdl : d.length = u)
  (hx : w.cell? ⟨b, off + 4, none⟩ = some (.int .u8 x.toNat))
  (HU : ∀ V, aB [] w V → Calls Tryz.prog 159 #[.slice (some ⟨b, off + 5, none⟩) (n - 5) (c - 5)] V fun r w' => r = .returned (.tuple #[.int .u64 u, .int .i64 k, .int .i64 0]) ∧ aB [] V w')
  (H3 : ∀ V, aB [] w V → Calls Tryz.prog 160 #[.slice (some ⟨b, off, none⟩) n c] V fun r w' => r = .returned (.tuple #[.int .u32 s1, .int .i64 0]) ∧ aB [] V w')
  (HS : ∀ V, aB [] w V → Calls Tryz.prog 36 #[.slice (some ⟨b, off + 4, none⟩) (5 + k + u - 4) (c - 4)] V fun r w' => r = .returned (.int .u32 s2) ∧ aB [] V w')
  (A : Addr) (hsl : ∀ W, (Instr.slice 23 (.slice (some ⟨b, off, none⟩) n c) (some (.int .i64 (5 + (k : Int)))) (some (.int .i64 (5 + (k : Int) + (u : Int)))) none).run Tryz.prog W = .ok (.slice (some A) u (c - (5 + k))) W)
  (HD : ∀ V, aB [] w V → hZ c8 V (some A) d) :
  Calls Tryz.prog 124 #[.slice (some ⟨b, off, none⟩) n c] w fun r w' => nZ w.heap.size w' r (if s1 = s2 then (x, d, 5 + k + u, 0) else (0, [], 0, 11)) ∧ aB [] w w' := by
 replace HU := aA HU
 replace H3 := aA H3
 replace HS := aA HS
 have HL := aA hdl
 have hlt : ¬ (n : Int) < 5 := by omega
 have hne5 : ¬ c = 5 := by omega
 have hne4 : ¬ c = 4 := by omega
 have h1' : ¬ (2000 : Int) < (u : Int) := by omega
 have h2' : ¬ (n : Int) - (5 + (k : Int)) < (u : Int) := by omega
 have hn4 : (4 : Int) < (n : Int) := by omega
 have hwr : IntKind.i64.wrap (5 + (k : Int)) = 5 + (k : Int) := fF _ (by omega)
 have hwr2 : IntKind.i64.wrap (5 + (k : Int) + (u : Int)) = 5 + (k : Int) + (u : Int) := fF _ (by omega)
 clear hdl
 go_in
 go_wp2_with fail
 refine (HU.out _ ((aB.refl [] w).alloc _)).mono ?_
 rintro r w1 ⟨rfl, hu1⟩
 have hB1 := sB hu1 (aX w (.cells #[.int .u8 0, .slice none 0 0] 25 (0, 0)))
 have hU1 : aB [] w w1 := ((aB.refl [] w).alloc _).trans hu1
 have HB1 := aA (aC hB1 hU1)
 have HSR : Hid (∀ X, aB [] w1 X → hZ c8 X (some A) d) := aA fun X u => HD X (hU1.trans u)
 have hS0 : w1.drew.cell? ⟨b, off + 4, none⟩ = some (.int .u8 x.toNat) := cN hU1.drew hx
 have HX : Hid (∀ X, aB [] w1 X → X.cell? ⟨b, off + 4, none⟩ = some (.int .u8 x.toNat)) := aA fun X u => cN (hU1.trans u) hx
 clear hB1 hU1 hu1 HD hx
 go_upto_region 11 with (fail)
 obtain ⟨fr, hfr⟩ : ∃ fr : Nat, fr = 5 + k := ⟨_, rfl⟩
 obtain ⟨fe, hfe⟩ : ∃ fe : Nat, fe = 5 + k + u := ⟨_, rfl⟩
 have e1 : (5 : Int) + (k : Int) = (fr : Int) := by omega
 have e2 : (fr : Int) + (u : Int) = (fe : Int) := by omega
 simp only [e1, e2] at hsl hwr hwr2 ⊢
 rw [← hfr] at hsl
 rw [← hfe] at HS
 have HFR := aA (aC hfr hfe)
 have hfe2 : fe ≤ n := by omega
 have hwu : IntKind.i64.wrap (u : Int) = (u : Int) := fF _ (by omega)
 have hwr3 : IntKind.i64.wrap ((fr : Int) + (u : Int)) = (fe : Int) := by rw [e2]; exact hwr2
 clear e1 e2 hfr hfe
 go_cut [9] (fun s9 wx => ∃ q : Nat, s9 = .pointer (some ⟨q, 0, none⟩) ∧ Hid (aB [] w1 wx ∧ w1.heap.size ≤ q ∧ ∃ v, wx.heap[q]? = some (.cells #[.int .u8 x.toNat, v] 25 (0, 0)) ∧ Ow wx w1.heap.size v d))
 case first =>
  go_region_held3 (fun X => X.cell? ⟨b, off + 4, none⟩ = some (.int .u8 x.toNat))
   (first | (with_reducible exact hS0) | (refine HX.out _ ?_; (repeat (first | (with_reducible exact aB.refl _ _) | (with_reducible exact hu6) | (with_reducible refine aB.alloc ?_ _) | (with_reducible refine aB.drew ?_))); done) | (refine HX.out _ ?_; refine aB.setCellNew (aB.setCellNew ?_ ?_ _ _) ?_ _ _; (focus (repeat (first | (with_reducible exact aB.refl _ _) | (with_reducible exact hu6) | (with_reducible refine aB.alloc ?_ _) | (with_reducible refine aB.drew ?_)))); (first | exact aQ _ | exact tQ _ | exact hu6.size); (first | exact aQ _ | exact tQ _ | exact hu6.size)))
   (first
    | (refine RG T8 (by rfl) _ _ (by rfl) (S := w1) (by rfl) ?_ ?_ ?_ (by rw [HL.out]; rfl) (HSR.out _ ?_) (lQ _) ?_ ?_ ?_
             ; (focus (repeat (first | (refine nC _ _ _ ?_; (first | (with_reducible rfl) | (focus (simp; done)))) | (with_reducible refine Du ?_) | (with_reducible refine Dt ?_))))
             ; (first | exact aQ _ | (focus (simp; done)))
             ; (focus (repeat (first | (with_reducible exact aB.refl _ _) | (with_reducible exact hu6) | (with_reducible refine aB.alloc ?_ _) | (with_reducible refine aB.drew ?_))))
             ; (focus (repeat (first | (with_reducible exact aB.refl _ _) | (with_reducible exact hu6) | (with_reducible refine aB.alloc ?_ _) | (with_reducible refine aB.drew ?_))))
             ; (rw [HL.out]; omega)
             ; (rw [HL.out]; omega)
             ; intro v6 w6 ho6 hu6 hk6 hn6 hb6
             ; obtain ⟨a6, c6, m6, hm6, rfl⟩ := ho6.sliceM
             ; (first | (refine (fun (hQ : w6.heap[w1.heap.size]? = some (.cells #[.int .u8 0, .slice none 0 0] 25 (0, 0))) => ?_) (hk6 _ _ ?_ ?_); rotate_left; (focus ((repeat (first | (refine nC _ _ _ ?_; (first | (with_reducible rfl) | (focus (simp; done)))) | (with_reducible refine Du ?_) | (with_reducible refine Dt ?_))); done)); (focus (simp; done)); have z0 := aD hQ 0; have z1 := aD hQ 1; have f0 := aZ hQ 0; have f1 := aZ hQ 1) | skip)
             ; (first | (refine (fun (hQ : w6.heap[w1.heap.size + 1]? = some (.cells #[.int .u8 0, .slice none 0 0] 25 (0, 0))) => ?_) (hk6 _ _ ?_ ?_); rotate_left; (focus ((repeat (first | (refine nC _ _ _ ?_; (first | (with_reducible rfl) | (focus (simp; done)))) | (with_reducible refine Du ?_) | (with_reducible refine Dt ?_))); done)); (focus (simp; done)); have z0 := aD hQ 0; have z1 := aD hQ 1; have f0 := aZ hQ 0; have f1 := aZ hQ 1) | skip)
             ; clear hm6))
  ·go_wp2_with fail
   go_meet
   case rel => exact ⟨_, rfl, aA (RJ ho6 hu6)⟩
  ·go_wp2_with fail
   go_meet
   case rel => exact ⟨_, rfl, aA (Jm ho6 hu6 (tQ _) hQ)⟩
  go_wp2_with fail
  go_meet
  case rel => exact ⟨_, rfl, aA (Jm ho6 hu6 (aQ _) hQ)⟩
 case rest =>
  obtain ⟨q, rfl, HQ⟩ := hcut
  obtain ⟨w2, hw2⟩ : ∃ x, x = wc := ⟨_, rfl⟩
  subst hw2
  obtain ⟨v2, hb2, ho2⟩ := HQ.out.2.2
  obtain ⟨a2, c2, m2, -, rfl⟩ := ho2.sliceM
  have HB2 := aA (aC hb2 ho2)
  have HU2 := aA (HB1.out.2.trans HQ.out.1)
  have i4 : (4 : Int) ≤ (fe : Int) := by have := HFR.out.2; omega
  clear hb2 ho2
  go_wp2_with fail
  refine (H3.out _ HU2.out).mono ?_
  rintro r w3 ⟨rfl, hu3⟩
  have HU3 := aA (aC (HU2.out.trans hu3) hu3)
  clear hu3
  go_wp2_with fail
  refine (HS.out _ HU3.out.1).mono ?_
  rintro r w4 ⟨rfl, hu4⟩
  have hub : aB [] w2 w4 := HU3.out.2.trans hu4
  have hq4 := sB hub HB2.out.1
  have hb4 := sB (HQ.out.1.trans hub) HB1.out.1
  have HB4 := aA (aC hb4 (aC (HU3.out.1.trans hu4) (HB2.out.2.upd hub (by simp))))
  have z0 := aD hb4 0
  have z1 := aD hb4 1
  have f0 := aZ hb4 0
  have f1 := aZ hb4 1
  have y0 := aD hq4 0
  have y1 := aD hq4 1
  clear hub hq4 hb4 hu4
  by_cases hss : s1 = s2
  ·have hss' : (s1 : Int) = (s2 : Int) := by omega
   go_wp2_with fail
   have hb3 := pV HB4.out.1 (.int .u8 x.toNat) (.slice a2 m2 c2)
   have hlt2 := aH HB1.out.1
   refine lR Tryz.results124 rfl (aD hb3 0) (aD hb3 1) rfl ?_
   simp only [aF hss, ← HFR.out.2]
   refine ⟨⟨_, rfl, ?_, fun g hg => ?_⟩, (HB4.out.2.1.setCellNew (aQ _) _ _).setCellNew (aQ _) _ _⟩
   ·refine Ow.rd (base := w1.heap.size) (HB4.out.2.2.upd (((aB.refl [w.heap.size] w4).setCell (by simp) _ _).setCell (by simp) _ _) fun j hj e => ?_)
    have := (HB4.out.2.2.block j e).1
    simp at hj
    omega
   have := (HB4.out.2.2.block g hg).1
   omega
  have hss' : ¬ (s1 : Int) = (s2 : Int) := by omega
  go_wp2_with fail
  have hb3 := pV HB4.out.1 (.int .u8 0) (.slice none 0 0)
  refine lR Tryz.results124 rfl (aD hb3 0) (aD hb3 1) rfl ?_
  simp only [aE hss]
  exact ⟨⟨_, rfl, Rd.nil _, mZ _⟩, (HB4.out.2.1.setCellNew (aQ _) _ _).setCellNew (aQ _) _ _⟩
end Go.Proofs.YtgpefiacbipfpaaGreatDoor
