/- The record's Load. -/
import Derived.Lib.SlBytesConst
import Derived.Test.YtgpefiacbipfpaaGreatDoorC08
set_option maxRecDepth 100000
set_option maxHeartbeats 4000000
namespace Go.Proofs.YtgpefiacbipfpaaGreatDoor
open Go.RowKit Go.Maps
structure tB (f : Nat → Bs) (i c : Nat) (d : Bs) : Prop where
 two : i < 2
 is : gH (f i) = some (c, d)
 old : ∀ c' d', gH (f (1 - i)) = some (c', d') → c' ≤ c
def FP (f : Nat → Bs) : Prop := gH (f 0) = none ∧ gH (f 1) = none
def zZ (f : Nat → Bs) : Prop := ∀ i c d, i < 2 → gH (f i) = some (c, d) → c < 4611686018427387904
theorem aB.drewN {F : List Nat} {w w' : World} (h : aB F w w') (n : Nat) : aB F w (w'.drewN n) := ⟨h.os, h.output, h.size, h.block⟩
theorem FQ {w : World} {base : Nat} {f : Nat → Bs} (hf : zZ f) {b0 b1 : Bool} {x0 x1 : Int} {v0 v1 : Value} {nw : Int} (h0 : oA w base [.bool b0, .int .i64 x0, v0] b0 x0 (gH (f 0))) (h1 : oA w base [.bool b1, .int .i64 x1, v1] b1 x1 (gH (f 1)))
  (hn : nw = if tA b1 (if b0 then 0 else -1) x1 x0 then 1 else if b0 then 0 else -1) :
  (nw = -1 ∧ FP f) ∨ (nw = 0 ∧ ∃ c d, tB f 0 c d ∧ x0 = c ∧ Rd w v0 d) ∨ (nw = 1 ∧ ∃ c d, tB f 1 c d ∧ x1 = c ∧ Rd w v1 d) := by
 obtain ⟨⟨a0, m0, c0, e0, r0, -⟩, s0⟩ := h0
 obtain ⟨⟨a1, m1, c1, e1, r1, -⟩, s1⟩ := h1
 simp only [List.cons.injEq, and_true, true_and] at e0 e1
 subst e0
 subst e1
 have w64 : ∀ c : Nat, c < 4611686018427387904 → IntKind.i64.wrap (c : Int) = c := fun c hc => fF _ (by omega)
 cases h0 : gH (f 0) with
 | none =>
  rw [h0] at s0 r0
  cases h1 : gH (f 1) with
  | none =>
   rw [h1] at s1
   simp only [JZ] at s0 s1
   subst s0 s1
   exact .inl ⟨by rw [hn]; rfl, h0, h1⟩
  | some y =>
   obtain ⟨c, d⟩ := y
   rw [h1] at s1 r1
   simp only [JZ, Ka] at s0 s1
   subst s0 s1
   have := r1 c d rfl
   refine .inr (.inr ⟨by rw [hn]; rfl, c, d, ⟨by omega, h1, fun c' d' q => ?_⟩, ?_, this.2⟩)
   ·rw [show 1 - 1 = 0 from rfl, h0] at q; cases q
   rw [this.1]; exact w64 c (hf 1 c d (by omega) h1)
 | some y =>
  obtain ⟨c, d⟩ := y
  rw [h0] at s0 r0
  have g0 := r0 c d rfl
  have e0 : x0 = c := by rw [g0.1]; exact w64 c (hf 0 c d (by omega) h0)
  cases h1 : gH (f 1) with
  | none =>
   rw [h1] at s1
   simp only [JZ, Ka] at s0 s1
   subst s0 s1
   refine .inr (.inl ⟨by rw [hn]; rfl, c, d, ⟨by omega, h0, fun c' d' q => ?_⟩, e0, g0.2⟩)
   rw [show 1 - 0 = 1 from rfl, h1] at q; cases q
  | some z =>
   obtain ⟨c2, d2⟩ := z
   rw [h1] at s1 r1
   have g1 := r1 c2 d2 rfl
   have e1 : x1 = c2 := by rw [g1.1]; exact w64 c2 (hf 1 c2 d2 (by omega) h1)
   simp only [Ka] at s0 s1
   subst s0 s1
   by_cases hlt : x0 < x1
   ·refine .inr (.inr ⟨by rw [hn]; simp [tA, hlt], c2, d2, ⟨by omega, h1, fun c' d' q => ?_⟩, e1, g1.2⟩)
    rw [show 1 - 1 = 0 from rfl, h0] at q; cases q; omega
   refine .inr (.inl ⟨by rw [hn]; simp [tA, hlt], c, d, ⟨by omega, h0, fun c' d' q => ?_⟩, e0, g0.2⟩)
   rw [show 1 - 0 = 1 from rfl, h1] at q; cases q; omega
def Mn (w : World) (p : Nat) (D : aI) (F : List Nat) (r : Ending) (w' : World) : Prop :=
 ∃ (e : Nat) (D' : aI) (v : Value) (x : Int), r = .returned (.tuple #[v, .int .i64 x, .int .i64 e]) ∧ bN w' p D' F ∧ aB [p] w w' ∧
  ((e = 2 ∧ bV [] D 2 D' ∧ v = .slice none 0 0) ∨ (e = 30 ∧ bV [] D 0 D' ∧ FP (fun i => (D.blk i).view) ∧ v = .slice none 0 0) ∨ (e = 0 ∧ bV [] D 0 D' ∧ ∃ i c d, tB (fun i => (D.blk i).view) i c d ∧ x = c ∧ Rd w' v d))
theorem Mo (w : World) {p : Nat} {D : aI} {F : List Nat} (h : bN w p D F) (hwr : D.wr ≤ 137438953300) (hf : zZ fun i => (D.blk i).view) :
  Calls Tryz.prog 128 #[.pointer (some ⟨p, 0, none⟩), .int .i64 0] w (Mn w p D F) := by
 have HW := aA (Cd w h)
 have HB := aA (FO w h hwr)
 have HFl := aA h.lt
 have HF := aA hf
 clear h hf
 go_in
 go_wp2_with fail
 refine HW.out.mono ?_
 rintro r w0 ⟨rfl, rfl⟩
 clear HW
 go_wp2_with fail
 refine HB.out.mono ?_
 rintro r w1 ⟨e, D', b0, x0, v0, b1, x1, v1, nw, rfl, hE, hD', hU, hv0, hv1, hs⟩
 have H1 := aA (aC hE (aC hD' hU))
 have HK : Hid (∀ X : Obj, aB [p] w0 (w1.alloc X) ∧ bN (w1.alloc X) p D' F) := aA fun X => ⟨hU.alloc X, hD'.upd ((aB.refl [] w1).alloc X) (by simp)⟩
 have HQ : Hid (∀ (X : Obj) (n : Nat), aB [p] w0 ((w1.alloc X).drewN n) ∧ bN ((w1.alloc X).drewN n) p D' F ∧ aB [] w1 ((w1.alloc X).drewN n)) := aA fun X n => ⟨(hU.alloc X).drewN n, hD'.upd (((aB.refl [] w1).alloc X).drewN n) (by simp), ((aB.refl [] w1).alloc X).drewN n⟩
 obtain ⟨a0, m0, c0, rfl⟩ := hv0
 obtain ⟨a1, m1, c1, rfl⟩ := hv1
 by_cases he : e = 0
 ·subst he
  obtain ⟨t0, t1, t2⟩ := hs rfl
  have HP := FQ HF.out t0 t1 t2
  clear hE hD' hU hs t0 t1 t2 HB
  rcases HP with ⟨rfl, hp⟩ | ⟨rfl, c, d, hp, rfl, hr⟩ | ⟨rfl, c, d, hp, rfl, hr⟩
  ·have HP := aA hp
   clear hp
   go_wp2_with fail
   go_ret3
   exact ⟨30, D', _, _, rfl, (HK.out _).2, (HK.out _).1, .inr (.inl ⟨rfl, H1.out.1, HP.out, rfl⟩)⟩
  ·have HP := aA (aC hp hr)
   clear hp hr
   go_wp2_with fail
   go_quiet (fail)
   go_wp2_with fail
   go_ret3
   exact ⟨0, D', _, _, rfl, (HQ.out _ _).2.1, (HQ.out _ _).1, .inr (.inr ⟨rfl, H1.out.1, 0, c, d, HP.out.1, rfl, HP.out.2.keep (HQ.out _ _).2.2⟩)⟩
  have HP := aA (aC hp hr)
  clear hp hr
  go_wp2_with fail
  go_quiet (fail)
  go_wp2_with fail
  go_ret3
  exact ⟨0, D', _, _, rfl, (HQ.out _ _).2.1, (HQ.out _ _).1, .inr (.inr ⟨rfl, H1.out.1, 1, c, d, HP.out.1, rfl, HP.out.2.keep (HQ.out _ _).2.2⟩)⟩
 have he2 := (H1.out.1.dn he).1
 subst he2
 clear hE hD' hU hs HB
 go_wp2_with fail
 go_ret3
 exact ⟨2, D', _, _, rfl, (HK.out _).2, (HK.out _).1, .inl ⟨rfl, H1.out.1, rfl⟩⟩
theorem tB.one {f : Nat → Bs} {i c : Nat} {d : Bs} (h : tB f i c d) (hs : ∀ c' d', gH (f (1 - i)) = some (c', d') → c' < c) {i' c' : Nat} {d' : Bs} (g : tB f i' c' d') : i' = i ∧ c' = c ∧ d' = d := by
 by_cases e : i' = i
 ·subst e
  have := g.is
  rw [h.is] at this
  cases this
  exact ⟨rfl, rfl, rfl⟩
 have h1 := h.two
 have h2 := g.two
 have e1 : i' = 1 - i := by omega
 have e2 : 1 - i' = i := by omega
 have a1 := g.is
 rw [e1] at a1
 have a2 := hs _ _ a1
 have a3 := g.old c d (by rw [e2]; exact h.is)
 omega
theorem Mp (w : World) {p : Nat} {D : aI} {F : List Nat} (h : bN w p D F) (hwr : D.wr ≤ 137438953300) (hf : zZ fun i => (D.blk i).view) {i c : Nat} {d0 : Bs} (hi : tB (fun i => (D.blk i).view) i c d0)
  (hst : ∀ c' d', gH (D.blk (1 - i)).view = some (c', d') → c' < c) {v : Value} {d : Bs} (hd : Rd w v d) (hdl : d.length ≤ 400) (hdF : ∀ b, v.ownBlock = some b → b ∉ F) :
  Calls Tryz.prog 151 #[.pointer (some ⟨p, 0, none⟩), .int .i64 0, v] w (dE w p D F [.write (1 - i) (eN (c + 1) d), .flush]) := by
 have HW := aA (Cd w h)
 have HB := aA (FO w h hwr)
 have HD := aA h
 have HF := aA hf
 have HI := aA hi
 have HS := aA hst
 have HV := aA hd
 have HVF := aA hdF
 have hbn := h.bounds
 have hc : c < 4611686018427387904 := hf i c d0 hi.two hi.is
 obtain ⟨a, cp, m, hm, hmc, hc63, rfl⟩ := hd.sliceM
 have hm4 : m ≤ 400 := by omega
 clear h hf hi hst hd hdF hm
 go_in
 go_wp2_with fail
 refine HW.out.mono ?_
 rintro r w0 ⟨rfl, rfl⟩
 clear HW
 go_wp2_with fail
 refine HB.out.mono ?_
 rintro r w1 ⟨e, D', b0, x0, v0, b1, x1, v1, nw, rfl, hE, hD', hU, hv0, hv1, hs⟩
 have H1 := aA (aC hE (aC hD' hU))
 obtain ⟨a0, m0, c0, rfl⟩ := hv0
 obtain ⟨a1, m1, c1, rfl⟩ := hv1
 have hUF : aB F w0 w1 := hU.mono fun k hk _ => by obtain rfl := aM.1 hk; exact HD.out.p_mem
 have HUF := aA hUF
 by_cases he : e = 0
 ·subst he
  obtain ⟨t0, t1, t2⟩ := hs rfl
  have HP := FQ HF.out t0 t1 t2
  have hw' := hE.wr
  have hn' := hE.n
  have HL : ∀ (j : Nat) (X : Obj), j < 2 → Calls Tryz.prog 162 #[.pointer (some ⟨p, 0, none⟩), .int .i64 j, .int .i64 ((c + 1 : Nat) : Int), .slice a m cp] (w1.alloc X) (dE (w1.alloc X) p D' F [.write j (eN (c + 1) d), .flush]) := fun j X hj =>
   FI (w1.alloc X) (hD'.upd ((aB.refl [] w1).alloc X) (by simp)) j (by omega) (by simp at hw'; omega) (c + 1) (by omega) ((HV.out.upd hUF HVF.out).keep ((aB.refl [] w1).alloc X)) hdl
  have e1 : ((c + 1 : Nat) : Int) = (c : Int) + 1 := by omega
  rewrite [e1] at HL
  have HL := aA HL
  clear hE hD' hU hs t0 t1 t2 HB e1 hUF
  rcases HP with ⟨rfl, hp⟩ | ⟨rfl, c', d', hp, rfl, hr⟩ | ⟨rfl, c', d', hp, rfl, hr⟩
  ·exfalso
   have h1 := HI.out.is
   have h2 := HI.out.two
   have h3 : i = 0 ∨ i = 1 := by omega
   rcases h3 with rfl | rfl
   ·rw [hp.1] at h1; cases h1
   rw [hp.2] at h1; cases h1
  ·obtain ⟨rfl, rfl, rfl⟩ := HI.out.one HS.out hp
   clear hp hr
   go_wp2_with fail
   refine (HL.out 1 _ (by omega)).mono ?_
   rintro r w2 h2
   have H2 := aA (dE.seq H1.out.1 HUF.out (fun k hk => .inl hk) (dE.from ((aB.refl [] w1).alloc _) h2))
   obtain ⟨e2, D2, F2, rfl, -⟩ := h2
   go_wp2_with fail
   go_ret
   exact H2.out
  obtain ⟨rfl, rfl, rfl⟩ := HI.out.one HS.out hp
  clear hp hr
  go_wp2_with fail
  refine (HL.out 0 _ (by omega)).mono ?_
  rintro r w2 h2
  have H2 := aA (dE.seq H1.out.1 HUF.out (fun k hk => .inl hk) (dE.from ((aB.refl [] w1).alloc _) h2))
  obtain ⟨e2, D2, F2, rfl, -⟩ := h2
  go_wp2_with fail
  go_ret
  exact H2.out
 have he' : ¬ (e : Int) = 0 := by omega
 clear hE hD' hU hs HB hUF
 go_wp2_with fail
 go_ret
 have := dE.stop (w := w0) (w1 := w1.alloc (.cells #[.bool b0, .int .i64 x0, .slice a0 m0 c0, .bool b1, .int .i64 x1, .slice a1 m1 c1] 222)) [.write (1 - i) (eN (c + 1) d), .flush] he H1.out.1 (H1.out.2.1.upd ((aB.refl [] w1).alloc _) (by simp)) (HUF.out.alloc _) (fun k hk => .inl hk)
 exact this
theorem tC {w : World} {B : Nat} {l : Bs} {ty : TypeId} {fz : Nat × Nat} (h : w.heap[B]? = some (.cells (aP c8 l).toArray ty fz)) (hl : l.length ≤ 1000000) : Rd w (.slice (some ⟨B, 0, none⟩) l.length l.length) l := by
 refine ⟨⟨some ⟨B, 0, none⟩, _, rfl, aQ _, by unfold maxLen; omega, fun i hi => ⟨B, 0, rfl, fun j u hu => ?_⟩⟩, fun n c e => by cases e⟩
 obtain rfl : j = 0 := by
  cases j with
  | zero => rfl
  | succ j => simp [c8] at hu
 have hu' : u = .int .u8 l[i].toNat := by simpa [c8] using hu.symm
 subst hu'
 have : w.cell? ⟨B, i, none⟩ = some (.int .u8 l[i].toNat) := by
  rw [aD h, uF]
  simp [hi]
 simpa using this
theorem FR (w : World) (k : Nat) (hk : k < 18446744073709551616) : Calls Tryz.prog 127 #[.int .u64 k] w fun e w' => ∃ v', e = .returned v' ∧ Ow w' w.heap.size v' (dS k) ∧ aB [] w w' := by
 have HP : ∀ (W : World) (B : Nat) (ty : TypeId) (fz : Nat × Nat), W.heap[B]? = some (.cells #[.int .u8 99, .int .u8 97, .int .u8 114, .int .u8 116, .int .u8 117, .int .u8 108, .int .u8 97, .int .u8 114, .int .u8 121] ty fz) → Calls Tryz.prog 95 #[.slice (some ⟨B, 0, none⟩) 9 9, .int .u64 k] W fun e w' => ∃ v', e = .returned v' ∧ Ow w' W.heap.size v' (dS k) ∧ aB [] W w' :=
  fun W B ty fz h => nX W (tC (l := jW) (B := B) (ty := ty) (fz := fz) (w := W) h (by decide)) k hk (by decide)
 have HP := aA HP
 have hcv := Go.Lib.run_convert_bytes_const w 23 5 #[.int .u8 99, .int .u8 97, .int .u8 114, .int .u8 116, .int .u8 117, .int .u8 108, .int .u8 97, .int .u8 114, .int .u8 121] 9 9 T8.und Tryz.underlying5
 go_in
 go_wp2_with fail
 refine (HP.out _ _ _ _ (aX _ _)).mono ?_
 rintro e w1 ⟨v1, rfl, ho, hU⟩
 have H1 := aA (aC (ho.base (by simp) : Ow w1 w.heap.size v1 (dS k)) (((aB.refl [] w).alloc _).trans hU))
 clear ho hU
 go_wp2_with fail
 go_ret
 exact ⟨v1, rfl, H1.out.1, H1.out.2⟩
def oB (n : Nat) : List cE := (List.range n).map fun i => .write i cH
def vQ (n : Nat) : List cE := oB n ++ ([.flush] ++ ([.write 1 cH, .flush] ++ [.write 0 (eN 0 (dS 0)), .flush]))
theorem FS (n : Nat) : oB (n + 1) = oB n ++ [.write n cH] := by simp [oB, DI]
theorem Aa (n : Nat) : (oB n).length = n := by simp [oB]
theorem Mq {n i : Nat} (h : i < n) : ∃ q, oB n = oB i ++ ([.write i cH] ++ q) := by
 refine ⟨(oB n).drop (i + 1), ?_⟩
 have h1 : oB (i + 1) = (oB n).take (i + 1) := by
  unfold oB
  rw [← DP, List.take_range, Bd (by omega)]
 rw [← eJ, ← FS, h1, kW]
theorem Mr (w : World) {p : Nat} {D : aI} {F : List Nat} (h : bN w p D F) (hwr : D.wr ≤ 137438952000) (hdn : D.down = false) :
  Calls Tryz.prog 79 #[.pointer (some ⟨p, 0, none⟩)] w (dE w p D F (vQ D.n)) := by
 have HD := aA h
 have hbn := h.bounds
 have HFl := aA h.lt
 have HBk := aA fun (W : World) (u : aB [] w W) => BS W (h.upd u (by simp))
 clear h
 go_in
 go_wp2_with (first
  | (refine zY rfl _ _ rfl 512 (by omega) (l := cH) rfl rfl rfl rfl ?_)
  | fail)
 have HR1 := aA (Ow.made (w := w) (base := w.heap.size) (n := 512) (l := cH) (aQ _) (by omega) rfl)
 have HU1 : Hid (aB [] w (w.alloc (.cells (aP c8 cH).toArray 5))) := aA ((aB.refl [] w).alloc _)
 generalize (w.alloc (.cells (aP c8 cH).toArray 5)) = w1 at *
 refine (HBk.out w1 HU1.out).mono ?_
 rintro r w2 ⟨rfl, rfl⟩
 go_wp2_with fail
 go_loopg [12] D.n (fun k v wr => ∃ (i : Nat) (D1 : aI) (F1 : List Nat), v = .int .i64 i ∧ i ≤ D.n ∧ k = D.n - i ∧ Hid (bV (oB i) D 0 D1 ∧ bN wr p D1 F1 ∧ aB F w2 wr ∧ ∀ k ∈ F1, k ∈ F ∨ w2.heap.size ≤ k))
 case atStart => exact ⟨0, D, F, rfl, by omega, rfl, aA ⟨bV.refl hdn, HD.out.upd HU1.out (by simp), aB.refl _ _, fun k hk => .inl hk⟩⟩
 case round =>
  obtain ⟨i, D1, F1, rfl, hi, rfl, H1⟩ := hrel
  by_cases hil : i < D.n
  ·have hlt : (i : Int) < (D.n : Int) := by omega
   have hw' := H1.out.1.wr
   have hn' := H1.out.1.n
   rw [Aa] at hw'
   have HW := aA (vO wr H1.out.2.1 i (by omega) (by omega) ((Ow.rd HR1.out).upd H1.out.2.2.1 (fun g hg q => by have := HFl.out g q; have := (HR1.out.block g hg).1; omega)) rR (fun q => by
    rcases H1.out.2.2.2 _ q with q | q
    ·have := HFl.out _ q; omega
    have := (HR1.out.block w.heap.size rfl).2; omega))
   go_wp2_with fail
   refine HW.out.mono ?_
   rintro r w3 h3
   have h3 := dE.seq H1.out.1 H1.out.2.2.1 H1.out.2.2.2 h3
   obtain ⟨e, D2, F2, rfl, hE2, hD2, hU2, hF2⟩ := h3
   have H3 := aA (aC hE2 (aC hD2 (aC hU2 hF2)))
   clear hE2 hD2 hU2 hF2 HW
   by_cases he : e = 0
   ·subst he
    go_wp2_with fail
    go_roundg (D.n - (i + 1))
    case rel => exact ⟨i + 1, D2, F2, by go_num, by omega, rfl, aA ⟨by rw [FS]; exact H3.out.1, H3.out.2.1, H3.out.2.2.1, H3.out.2.2.2⟩⟩
    case measure => omega
   have he' : ¬ (e : Int) = 0 := by omega
   go_wp2_with fail
   go_ret
   obtain ⟨q, hq⟩ := Mq hil
   have := dE.from HU1.out (dE.stop (q ++ ([.flush] ++ ([.write 1 cH, .flush] ++ [.write 0 (eN 0 (dS 0)), .flush]))) he H3.out.1 H3.out.2.1 H3.out.2.2.1 H3.out.2.2.2)
   unfold vQ
   rw [hq]
   simp only [eJ] at this ⊢; exact this
  have hlt : ¬ (i : Int) < (D.n : Int) := by omega
  obtain rfl : i = D.n := by omega
  have hw' := H1.out.1.wr
  rw [Aa] at hw'
  have HFh := aA (vP wr H1.out.2.1 (by omega))
  go_wp2_with fail
  refine HFh.out.mono ?_
  rintro r w3 h3
  have h3 := dE.seq H1.out.1 H1.out.2.2.1 H1.out.2.2.2 h3
  obtain ⟨e, D2, F2, rfl, hE2, hD2, hU2, hF2⟩ := h3
  have H3 := aA (aC hE2 (aC hD2 (aC hU2 hF2)))
  have hw3 := hE2.wr
  clear hE2 hD2 hU2 hF2 HFh
  by_cases he : e = 0
  ·subst he
   go_wp2_with fail
   refine (FR w3 0 (by omega)).mono ?_
   rintro r w4 ⟨v4, rfl, ho4, hU4⟩
   have hs4 := H3.out.2.1.lt
   obtain ⟨a4, c4, m4, hm4, rfl⟩ := ho4.sliceM
   have HS := aA (Me w4 (H3.out.2.1.upd hU4 (by simp)) (by simp [Aa] at hw3; omega) (Ow.rd ho4) (by have := qJ (k := 0) (by omega); omega) (fun b hb q => by have := hs4 b q; have := (ho4.block b hb).1; omega))
   have HU4 := aA hU4
   clear hm4 ho4 hU4 hs4
   go_wp2_with fail
   refine HS.out.mono ?_
   rintro r w5 h5
   have H5 := aA (dE.from HU1.out (dE.seq H3.out.1 H3.out.2.2.1 H3.out.2.2.2 (dE.from HU4.out h5)))
   obtain ⟨e5, D5, F5, rfl, -⟩ := h5
   go_wp2_with fail
   go_ret
   have := H5.out
   unfold vQ
   simp only [eJ] at this ⊢; exact this
  have he' : ¬ (e : Int) = 0 := by omega
  go_wp2_with fail
  go_ret
  have := dE.from HU1.out (dE.stop ([.write 1 cH, .flush] ++ [.write 0 (eN 0 (dS 0)), .flush]) he H3.out.1 H3.out.2.1 H3.out.2.2.1 H3.out.2.2.2)
  unfold vQ
  simp only [eJ] at this ⊢; exact this
abbrev Ms (p n k : Nat) (dead : Bool) : Obj := .cells #[.pointer (some ⟨p, 0, none⟩), .int .i64 n, .int .u64 k, .bool dead] 173 (0, 0)
def bZ (w : World) (j p n k : Nat) (dead : Bool) : Prop := w.heap[j]? = some (Ms p n k dead)
theorem bZ.upd {w w' : World} {j p n k : Nat} {dead : Bool} (h : bZ w j p n k dead) {G : List Nat} (u : aB G w w') (hG : j ∉ G) : bZ w' j p n k dead := (u.block j (aH h) hG).trans h
theorem bZ.dead {w : World} {j p n k : Nat} {dead : Bool} (h : bZ w j p n k dead) (b : Bool) : bZ (w.setCell ⟨j, 3, none⟩ (.bool b)) j p n k b := by
 show (w.setCell ⟨j, 3, none⟩ (.bool b)).heap[j]? = _
 rw [bJ, aF rfl, h]; rfl
theorem Mt (w : World) {j p n k : Nat} {dead : Bool} (h : bZ w j p n k dead) : Calls Tryz.prog 83 #[.pointer (some ⟨j, 0, none⟩)] w fun e w' => e = .returned (.int .i64 n) ∧ w' = w := by
 have c1 := aD h 1
 simp only [bA, bB, bS] at c1
 clear h
 go_in
 go_wp2_with fail
 go_ret
 exact ⟨rfl, rfl⟩
def jD (gone : Bool) (x : Int) (n : Nat) (bad : Bool) : Nat := if gone then 2 else if x < 0 ∨ (n : Int) ≤ x then 42 else if bad then 21 else 0
def Ab (w : World) (j p n k : Nat) (gone : Bool) (E : Nat) (r : Ending) (w' : World) : Prop := r = .returned (.int .i64 E) ∧ bZ w' j p n k gone ∧ aB [j] w w'
theorem Ac (w : World) {j p n k : Nat} {dead : Bool} (h : bZ w j p n k dead) {D : aI} {F : List Nat} (hd : bN w p D F) (_hn : n ≤ 512) (x : Int) (a : Option Addr) (m c : Nat) (wr : Bool) :
  Calls Tryz.prog 100 #[.pointer (some ⟨j, 0, none⟩), .int .i64 x, .slice a m c, .bool wr] w (Ab w j p n k (dead || D.down) (jD (dead || D.down) x n (wr && decide (m ≠ 512)))) := by
 have c0 := aD h 0
 have c1 := aD h 1
 have c3 := aD h 3
 have f3 := aZ h 3
 simp only [bA, bB, bS] at c0 c1 c3
 have HB := aA h
 have HD := aA (LP w hd)
 clear h hd
 generalize D.down = dn at *
 cases dead with
 | true =>
  go_in
  go_wp2_with fail
  go_ret
  exact ⟨rfl, HB.out.dead true, (aB.refl _ _).setCell (by simp) _ _⟩
 | false =>
  go_in
  go_wp2_with fail
  refine HD.out.mono ?_
  rintro r w1 ⟨rfl, rfl⟩
  cases dn with
  | true =>
   go_wp2_with fail
   go_ret
   exact ⟨rfl, HB.out.dead true, (aB.refl _ _).setCell (by simp) _ _⟩
  | false =>
   by_cases h1 : x < 0
   ·go_wp2_with fail
    go_ret
    exact ⟨by simp [jD, h1], HB.out, aB.refl _ _⟩
   by_cases h2 : (n : Int) ≤ x
   ·go_wp2_with fail
    go_ret
    exact ⟨by simp [jD, h2], HB.out, aB.refl _ _⟩
   have h3 : ¬ (x < 0 ∨ (n : Int) ≤ x) := by omega
   cases wr with
   | false =>
    go_wp2_with fail
    go_ret
    exact ⟨by simp [jD, h3], HB.out, aB.refl _ _⟩
   | true =>
    by_cases h4 : m = 512
    ·subst h4
     go_wp2_with fail
     go_ret
     exact ⟨by simp [jD, h3], HB.out, aB.refl _ _⟩
    have h4' : ¬ (m : Int) = 512 := by omega
    go_wp2_with fail
    go_ret
    exact ⟨by simp [jD, h3, h4], HB.out, aB.refl _ _⟩
theorem Ci (w : World) {j p n k : Nat} {dead : Bool} (h : bZ w j p n k dead) (e : Nat) :
  Calls Tryz.prog 102 #[.pointer (some ⟨j, 0, none⟩), .int .i64 e] w (Ab w j p n k (dead || decide (e = 2)) e) := by
 have c3 := aD h 3
 have f3 := aZ h 3
 simp only [bA, bB, bS] at c3
 have HB := aA h
 clear h
 cases dead with
 | true =>
  go_in
  go_wp2_with fail
  go_ret
  exact ⟨rfl, HB.out.dead true, (aB.refl _ _).setCell (by simp) _ _⟩
 | false =>
  by_cases he : e = 2
  ·subst he
   go_in
   go_wp2_with fail
   go_ret
   exact ⟨rfl, HB.out.dead true, (aB.refl _ _).setCell (by simp) _ _⟩
  have he' : ¬ (e : Int) = 2 := by omega
  have hb2 : ((e : Int) == 2) = false := beq_eq_false_iff_ne.2 he'
  go_in
  go_wp2_with fail
  go_ret
  have hd : (false || decide (e = 2)) = false := by simp [he]
  rw [hd]
  try rw [hb2]
  exact ⟨rfl, HB.out.dead false, (aB.refl _ _).setCell (by simp) _ _⟩
end Go.Proofs.YtgpefiacbipfpaaGreatDoor
