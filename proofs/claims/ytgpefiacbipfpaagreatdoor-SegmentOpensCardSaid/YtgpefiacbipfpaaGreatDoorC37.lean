/- Segment: SameFrames, SameInts, Segments. -/
import Derived.Lib.SlBytesConst
import Derived.Test.YtgpefiacbipfpaaGreatDoorC36
set_option maxRecDepth 100000
set_option maxHeartbeats 4000000
namespace Go.Proofs.YtgpefiacbipfpaaGreatDoor
open Go.RowKit Go.Maps
structure oH (w : World) (v : Value) (L : List aO) : Prop where
 row : eA tD 2 w v L
 dat : ∀ x ∈ L, Rd w x.dv x.d
theorem oH.keep {w w' : World} {v : Value} {L : List aO} (h : oH w v L) (u : aB [] w w') : oH w' v L := ⟨h.row.keep iH u, fun x hx => (h.dat x hx).keep u⟩
theorem dP.rdfs {w : World} {base : Nat} {v : Value} {L : List aO} (h : dP w base v L) : oH w v L := ⟨aK.rd iH h.own, h.dat⟩
theorem oH.at {w : World} {a : Option Addr} {n c : Nat} {L : List aO} (h : oH w (.slice a n c) L) {i : Nat} {x : aO} (hx : L[i]? = some x) : ∃ b off, a = some ⟨b, off, none⟩ ∧ w.cell? ⟨b, off + i * 2, none⟩ = some (.int .u8 x.k.toNat) ∧ w.cell? ⟨b, off + i * 2 + 1, none⟩ = some x.dv ∧ Rd w x.dv x.d := by
 obtain ⟨a', c', hv, -, -, hcell⟩ := h.row.sl
 simp only [fG] at hv
 obtain ⟨rfl, -, -⟩ := hv
 obtain ⟨hi, rfl⟩ := eX.1 hx
 obtain ⟨b, off, e, hc⟩ := hcell i hi
 exact ⟨b, off, e, by have := hc 0 _ rfl; rwa [kU] at this, hc 1 _ rfl, h.dat _ (fX hi)⟩
theorem eA.intAt {w : World} {a : Option Addr} {n c : Nat} {l : List Nat} (h : eA cI 1 w (.slice a n c) l) {i x : Nat} (hx : l[i]? = some x) : ∃ b off, a = some ⟨b, off, none⟩ ∧ w.cell? ⟨b, off + i, none⟩ = some (.int .i64 x) := by
 obtain ⟨a', c', hv, -, -, hcell⟩ := h.sl
 simp only [fG] at hv
 obtain ⟨rfl, -, -⟩ := hv
 obtain ⟨hi, rfl⟩ := eX.1 hx
 obtain ⟨b, off, e, hc⟩ := hcell i hi
 exact ⟨b, off, e, by have := hc 0 _ rfl; rwa [kU, jI] at this⟩
theorem Jh {α : Type} {l m : List α} {i : Nat} {x y : α} (hl : l[i]? = some x) (hm : m[i]? = some y) (h : l.take i = m.take i) (e : x = y) : l.take (i + 1) = m.take (i + 1) := by
 rw [iK, iK, hl, hm, h, e]
theorem Rx (w : World) {va vb : Value} {l m : List Nat} (ha : eA cI 1 w va l) (hb : eA cI 1 w vb m) :
  Calls Tryz.prog 19 #[va, vb] w fun e w' => e = .returned (.bool (decide (l = m))) ∧ aB [] w w' := by
 obtain ⟨pa, ca, rfl, q1, q2, -⟩ := ha.slice
 obtain ⟨pb, cb, rfl, q3, q4, -⟩ := hb.slice
 obtain ⟨n, hn⟩ : ∃ n, n = l.length := ⟨_, rfl⟩
 obtain ⟨k, hk⟩ : ∃ k, k = m.length := ⟨_, rfl⟩
 rw [← hn] at q1 ha
 rw [← hk] at q3 hb
 have HH := aA (aC ha hb)
 have HN := aA (aC hn hk)
 rw [← hn, ← hk]
 clear ha hb hn hk
 by_cases hnk : n = k
 ·subst hnk
  have hz : ((n : Int) == (n : Int)) = true := by simp
  go_in
  go_wp2_with fail
  go_loopg [5] n (fun gh v5 wr => ∃ i : Nat, v5 = .int .i64 i ∧ i ≤ n ∧ gh = n - i ∧ Hid (aB [] w wr ∧ l.take i = m.take i))
  case atStart => exact ⟨0, rfl, by omega, rfl, aA ⟨aB.refl [] w, by simp⟩⟩
  case round =>
   obtain ⟨i, rfl, hi, rfl, HT⟩ := hrel
   by_cases hin : i < n
   ·have hin' : (i : Int) < (n : Int) := by omega
    obtain ⟨W, hW⟩ : ∃ W, W = wr := ⟨_, rfl⟩
    subst hW
    obtain ⟨x, hx⟩ : ∃ x, l[i]? = some x := ⟨_, bL (by rw [← HN.out.1]; exact hin)⟩
    obtain ⟨y, hy⟩ : ∃ y, m[i]? = some y := ⟨_, bL (by rw [← HN.out.2]; exact hin)⟩
    obtain ⟨b1, o1, rfl, d1⟩ := HH.out.1.intAt hx
    obtain ⟨b2, o2, rfl, d2⟩ := HH.out.2.intAt hy
    have e1 := cN HT.out.1 d1
    have e2 := cN HT.out.1 d2
    have HXY := aA (aC hx hy)
    clear d1 d2 hx hy
    by_cases he : x = y
    ·subst he
     have hz2 : ((x : Int) == (x : Int)) = true := by simp
     have HS : Hid (l.take (i + 1) = m.take (i + 1)) := aA (Jh HXY.out.1 HXY.out.2 HT.out.2 rfl)
     go_wp2_with fail
     go_quiet (fail)
     have HU := aA (HT.out.1.drewN nq)
     clear e1 e2
     generalize W.drewN nq = W2 at *
     go_wp2_with fail
     go_roundg (n - (i + 1))
     case measure => omega
     case rel => exact ⟨i + 1, by go_num, by omega, rfl, aA ⟨HU.out, HS.out⟩⟩
    have hz2 : ((x : Int) == (y : Int)) = false := by simp; omega
    have hne : decide (l = m) = false := by rw [decide_eq_false_iff_not]; intro e; have h1 := HXY.out.1; rw [e, HXY.out.2] at h1; exact he (mQ h1).symm
    have HNE := aA hne
    clear he hne
    go_wp2_with fail
    go_quiet (fail)
    have HU := aA (HT.out.1.drewN nq)
    clear e1 e2
    generalize W.drewN nq = W2 at *
    go_wp2_with fail
    go_ret
    exact ⟨by rw [HNE.out]; rfl, HU.out⟩
   have hin' : ¬ (i : Int) < (n : Int) := by omega
   have heq : decide (l = m) = true := by
    have h1 := HN.out.1; have h2 := HN.out.2
    have h3 := HT.out.2
    rw [dY (by omega), dY (by omega)] at h3
    simpa using h3
   have HEQ := aA heq
   clear heq
   go_wp2_with fail
   go_ret
   exact ⟨by rw [HEQ.out]; rfl, HT.out.1⟩
 have hz : ((n : Int) == (k : Int)) = false := by simp; omega
 have hne : decide (l = m) = false := by
  have h1 := HN.out.1; have h2 := HN.out.2
  rw [decide_eq_false_iff_not]; rintro rfl; omega
 have HNE := aA hne
 clear hne
 go_in
 go_wp2_with fail
 go_ret
 exact ⟨by rw [HNE.out]; rfl, aB.refl [] w⟩
theorem Ry (w : World) {va vb : Value} {l m : List aO} (ha : oH w va l) (hb : oH w vb m) (hla : ∀ x ∈ l, x.d.length ≤ 100000000) (hlb : ∀ x ∈ m, x.d.length ≤ 100000000) :
  Calls Tryz.prog 16 #[va, vb] w fun e w' => e = .returned (.bool (decide (l.map aO.fr = m.map aO.fr))) ∧ aB [] w w' := by
 obtain ⟨pa, ca, rfl, q1, q2, -⟩ := ha.row.slice
 obtain ⟨pb, cb, rfl, q3, q4, -⟩ := hb.row.slice
 obtain ⟨n, hn⟩ : ∃ n, n = l.length := ⟨_, rfl⟩
 obtain ⟨k, hk⟩ : ∃ k, k = m.length := ⟨_, rfl⟩
 rw [← hn] at q1 ha
 rw [← hk] at q3 hb
 have HH := aA (aC ha hb)
 have HN := aA (aC hn hk)
 have HL := aA (aC hla hlb)
 rw [← hn, ← hk]
 clear ha hb hn hk hla hlb
 by_cases hnk : n = k
 ·subst hnk
  have hz : ((n : Int) == (n : Int)) = true := by simp
  go_in
  go_wp2_with fail
  go_loopg [5] n (fun gh v5 wr => ∃ i : Nat, v5 = .int .i64 i ∧ i ≤ n ∧ gh = n - i ∧ Hid (aB [] w wr ∧ (l.map aO.fr).take i = (m.map aO.fr).take i))
  case atStart => exact ⟨0, rfl, by omega, rfl, aA ⟨aB.refl [] w, by simp⟩⟩
  case round =>
   obtain ⟨i, rfl, hi, rfl, HT⟩ := hrel
   by_cases hin : i < n
   ·have hin' : (i : Int) < (n : Int) := by omega
    obtain ⟨W, hW⟩ : ∃ W, W = wr := ⟨_, rfl⟩
    subst hW
    obtain ⟨x, hx⟩ : ∃ x, l[i]? = some x := ⟨_, bL (by rw [← HN.out.1]; exact hin)⟩
    obtain ⟨y, hy⟩ : ∃ y, m[i]? = some y := ⟨_, bL (by rw [← HN.out.2]; exact hin)⟩
    obtain ⟨b1, o1, rfl, d1, d1', r1⟩ := (HH.out.1.keep HT.out.1).at hx
    obtain ⟨b2, o2, rfl, d2, d2', r2⟩ := (HH.out.2.keep HT.out.1).at hy
    obtain ⟨xa, xc, hxv, -⟩ := r1.slice
    obtain ⟨ya, yc, hyv, -⟩ := r2.slice
    rw [hxv] at d1' r1
    rw [hyv] at d2' r2
    have s1 := fun j => Rd.str (r1.quiet j)
    have s2 := fun j => Rd.str (r2.quiet j)
    have hb := xZ x.d y.d
    have HXY : Hid ((l.map aO.fr)[i]? = some x.fr ∧ (m.map aO.fr)[i]? = some y.fr) := aA ⟨by rw [lL, hx]; rfl, by rw [lL, hy]; rfl⟩
    have hl1 := HL.out.1 x (fC hx)
    have hl2 := HL.out.2 y (fC hy)
    clear hx hy r1 r2 hxv hyv
    by_cases hk : x.k = y.k
    ·by_cases he : x.d = y.d
     ·have HS : Hid ((l.map aO.fr).take (i + 1) = (m.map aO.fr).take (i + 1)) := aA (Jh HXY.out.1 HXY.out.2 HT.out.2 (by unfold aO.fr; rw [hk, he]))
      rw [decide_eq_true he] at hb
      rw [hk] at d1
      have hz2 : ((y.k.toNat : Int) == (y.k.toNat : Int)) = true := by simp
      generalize y.k.toNat = kn at *
      generalize bC x.d = t1 at *
      generalize bC y.d = t2 at *
      generalize x.d.length = n1 at *
      generalize y.d.length = n2 at *
      clear he hk
      go_wp2_with fail
      go_quiet (fail)
      have HU := aA (HT.out.1.drewN nq)
      clear d1 d2 d1' d2' s1 s2
      generalize W.drewN nq = W2 at *
      go_wp2_with fail
      go_roundg (n - (i + 1))
      case measure => omega
      case rel => exact ⟨i + 1, by go_num, by omega, rfl, aA ⟨HU.out, HS.out⟩⟩
     have hne : decide (l.map aO.fr = m.map aO.fr) = false := by rw [decide_eq_false_iff_not]; intro e; have h1 := HXY.out.1; rw [e, HXY.out.2] at h1; exact he (bM (·.2) (mQ h1)).symm
     have HNE := aA hne
     rw [decide_eq_false he] at hb
     rw [hk] at d1
     have hz2 : ((y.k.toNat : Int) == (y.k.toNat : Int)) = true := by simp
     generalize y.k.toNat = kn at *
     generalize bC x.d = t1 at *
     generalize bC y.d = t2 at *
     generalize x.d.length = n1 at *
     generalize y.d.length = n2 at *
     clear he hk hne
     go_wp2_with fail
     go_quiet (fail)
     have HU := aA (HT.out.1.drewN nq)
     clear d1 d2 d1' d2' s1 s2
     generalize W.drewN nq = W2 at *
     go_wp2_with fail
     go_ret
     exact ⟨by rw [HNE.out]; rfl, HU.out⟩
    have hne : decide (l.map aO.fr = m.map aO.fr) = false := by rw [decide_eq_false_iff_not]; intro e; have h1 := HXY.out.1; rw [e, HXY.out.2] at h1; exact hk (bM (·.1) (mQ h1)).symm
    have HNE := aA hne
    have hz2 : ((x.k.toNat : Int) == (y.k.toNat : Int)) = false := by
     simp only [beq_eq_false_iff_ne, ne_eq]
     intro e
     exact hk (UInt8.toNat_inj.1 (by omega))
    have hz3 : ((x.k.toNat : Int) != (y.k.toNat : Int)) = true := by rw [bne, hz2]; rfl
    generalize x.k.toNat = k1 at *
    generalize y.k.toNat = k2 at *
    generalize bC x.d = t1 at *
    generalize bC y.d = t2 at *
    generalize x.d.length = n1 at *
    generalize y.d.length = n2 at *
    clear hk hne
    go_wp2_with fail
    go_quiet (fail)
    have HU := aA (HT.out.1.drewN nq)
    clear d1 d2 d1' d2' s1 s2
    generalize W.drewN nq = W2 at *
    go_wp2_with fail
    go_ret
    exact ⟨by rw [HNE.out]; rfl, HU.out⟩
   have hin' : ¬ (i : Int) < (n : Int) := by omega
   have heq : decide (l.map aO.fr = m.map aO.fr) = true := by
    have h1 := HN.out.1; have h2 := HN.out.2
    have h3 := HT.out.2
    rw [dY (by rw [dF]; omega), dY (by rw [dF]; omega)] at h3
    simpa using h3
   have HEQ := aA heq
   clear heq
   go_wp2_with fail
   go_ret
   exact ⟨by rw [HEQ.out]; rfl, HT.out.1⟩
 have hz : ((n : Int) == (k : Int)) = false := by simp; omega
 have hne : decide (l.map aO.fr = m.map aO.fr) = false := by
  have h1 := HN.out.1; have h2 := HN.out.2
  rw [decide_eq_false_iff_not]; intro e
  have := bM List.length e
  simp at this; omega
 have HNE := aA hne
 clear hne
 go_in
 go_wp2_with fail
 go_ret
 exact ⟨by rw [HNE.out]; rfl, aB.refl [] w⟩
theorem Ji (w : World) {base lg v : Nat} {fv sv : Value} {L : List aO} {sz : List Nat} (h : gC w base lg v fv sv L sz) (hsz : sz.length ≤ 100000) :
  Calls Tryz.prog 20 #[.pointer (some ⟨lg, 0, none⟩)] w fun e w' => ∃ v', e = .returned v' ∧ nE w' w.heap.size v' sz ∧ aB [] w w' := by
 have hcl := aA (Ge w (aK.rd TI h.sz) (by omega))
 obtain ⟨sa, sc, sm, hsm, rfl⟩ := h.sz.sliceM
 have b2 := aD h.box 2
 simp only [bA, bB, bS] at b2
 clear h hsm
 go_in
 go_wp2_with fail
 refine hcl.out.mono ?_
 rintro e w1 ⟨v5, rfl, ho5, hu5⟩
 obtain ⟨a5, c5, m5, hm5, rfl⟩ := ho5.sliceM
 have H5 := aA (aC ho5 hu5)
 clear ho5 hu5 hm5
 go_wp2_with fail
 go_ret
 exact ⟨_, rfl, H5.out⟩
theorem Jj : gP [] (cO []) := by
 have : cO [] = fun _ => none := funext fun i => by simp [cO]
 rw [this]; exact Ra
theorem Jk (w0 : World) {w : World} (u : aB [] w0 w) (n : Nat) (h1 : 64 ≤ n) (h2 : n ≤ 512) : Calls Tryz.prog 8 #[.int .i64 n] w fun r w' => ∃ p v, r = .returned (.tuple #[.pointer (some ⟨p, 0, none⟩), .pointer (some ⟨v, 0, none⟩)]) ∧ cU w0 w' v p (n - 36) (cO []) (cO []) 0 [] ∧ aB [] w w' :=
 (QE w0 u n h1 h2).mono fun r w' ⟨p, v, hr, hl, hu⟩ => ⟨p, v, hr, ⟨[], [], hl, Jj, Jj, fun _ h => h⟩, hu⟩
theorem Rz {α : Type} {f : α → List Value} {k bytes : Nat} {st e : TypeId} (T : fA f k bytes st e) {w : World} {B : Nat} {l : List α} {ty : TypeId} (hB : w.heap[B]? = some (.cells (aP f l).toArray ty (0, 0))) (hl : l.length ≤ 1000000) : eA f k w (.slice (some ⟨B, 0, none⟩) l.length l.length) l := by
 refine ⟨⟨some ⟨B, 0, none⟩, l.length, rfl, aQ _, by unfold maxLen; omega, fun i hi => ⟨B, 0, rfl, fun j u hu => ?_⟩⟩, fun n c e => by cases e⟩
 have hj : j < k := by
  rcases kP j k with h | h
  ·exact h
  rw [gG (by rw [T.len]; exact h)] at hu; cases hu
 rw [aD hB, bA, iJ, zI T l i hi j hj]
 exact hu
theorem tK.keep {w0 w w' : World} {v p room c base lg : Nat} {ds : List Bs} {fv sv : Value} {L : List aO} {G : List Nat} (h : tK w0 w v p room ds c base lg fv sv L G) (u : aB [] w w') : tK w0 w' v p room ds c base lg fv sv L G := ⟨h.sg.keep u, h.log.keep u, h.foot, h.low⟩
theorem Do {w : World} {B : Nat} {b : UInt8} {n : Int} {e : TypeId} {fr : Nat × Nat} (hB : w.heap[B]? = some (.cells #[.int .u8 n] e fr)) (hn : n = b.toNat) : Rd w (.slice (some ⟨B, 0, none⟩) 1 1) [b] := by
 refine ⟨⟨some ⟨B, 0, none⟩, 1, rfl, aQ _, by unfold maxLen; omega, fun i hi => ⟨B, 0, rfl, fun j u hu => ?_⟩⟩, fun n c e => by cases e⟩
 obtain rfl : i = 0 := by simpa using hi
 rw [aD hB]
 cases j with
 | zero => rw [← hu, hn]; rfl
 | succ j => cases hu
def Dp : List eE := [(1, [97]), (2, [98])]
theorem Dq : gU [] Dp = [cC 1 [97] ++ cC 2 [98]] ∧ (cC 1 [97] ++ cC 2 [98]).length = 14 := by
 have h1 : (cC 1 [97]).length = 7 := by rw [Bp, qH (by decide)]; rfl
 have h2 : (cC 2 [98]).length = 7 := by rw [Bp, qH (by decide)]; rfl
 refine ⟨?_, by rw [bD, h1, h2]⟩
 show mL (mL [] (cC 1 [97])) (cC 2 [98]) = _
 rw [Gc]
 have := Af [] (cC 1 [97]) (cC 2 [98])
 rw [List.nil_append] at this
 rw [this, h1, h2, aE (by decide)]; rfl
theorem RA (w : World) : Calls Tryz.prog 7 #[] w fun e w' => e = .returned (.bool true) ∧ aB [] w w' := by
 have HL := aA (Jk w (aB.refl [] w) 64 (by omega) (by omega))
 go_in
 go_wp2_with fail
 refine HL.out.mono ?_
 rintro e w1 ⟨p, v, rfl, hs1, hu1⟩
 have H1 := aA (aC hs1 hu1)
 have HO := aA (Dk (k := 16) hs1 (by omega) (by omega) (by simp) (by simp) (by omega) (fun _ => by simp))
 clear hs1 hu1
 go_wp2_with fail
 refine HO.out.mono ?_
 rintro e w2 ⟨lg, fv, sv, L, G, rfl, hl2, hf2, -, hst2⟩
 have hlg0 := hl2.log.box
 obtain ⟨L0, hL0⟩ : ∃ L0, L0 = L := ⟨_, rfl⟩
 have hLn : L = [] := by
  have := bM List.length hf2
  simpa [dB] using this
 subst hLn
 have H2 := aA hl2
 clear hl2 hf2 hst2 hlg0 hL0
 have hcv1 := fun W : World => Go.Lib.run_convert_bytes_const W 23 5 #[.int .u8 97] 1 1 T8.und Tryz.underlying5
 have hcv2 := Go.Lib.run_convert_bytes_const (w2.alloc (.cells #[.int .u8 97] 5 (1, 2))) 23 5 #[.int .u8 98] 1 1 T8.und Tryz.underlying5
 rw [gW] at hcv2
 go_wp2_with fail
 clear hcv1 hcv2
 have hu3 : aB [] w2 (((w2.alloc (.cells #[.int .u8 97] 5 (1, 2))).alloc (.cells #[.int .u8 98] 5 (1, 2))).alloc (.cells #[.int .u8 1, .slice (some ⟨w2.heap.size, 0, none⟩) 1 1, .int .u8 2, .slice (some ⟨w2.heap.size + 1, 0, none⟩) 1 1] 25 (0, 0))) := (((aB.refl [] w2).alloc _).alloc _).alloc _
 have ht3 := aX ((w2.alloc (.cells #[.int .u8 97] 5 (1, 2))).alloc (.cells #[.int .u8 98] 5 (1, 2))) (.cells #[.int .u8 1, .slice (some ⟨w2.heap.size, 0, none⟩) 1 1, .int .u8 2, .slice (some ⟨w2.heap.size + 1, 0, none⟩) 1 1] 25 (0, 0))
 have ht2 := jG (.cells #[.int .u8 1, .slice (some ⟨w2.heap.size, 0, none⟩) 1 1, .int .u8 2, .slice (some ⟨w2.heap.size + 1, 0, none⟩) 1 1] 25 (0, 0)) (aX (w2.alloc (.cells #[.int .u8 97] 5 (1, 2))) (.cells #[.int .u8 98] 5 (1, 2)))
 have Dr := jG (.cells #[.int .u8 1, .slice (some ⟨w2.heap.size, 0, none⟩) 1 1, .int .u8 2, .slice (some ⟨w2.heap.size + 1, 0, none⟩) 1 1] 25 (0, 0)) (jG (.cells #[.int .u8 98] 5 (1, 2)) (aX w2 (.cells #[.int .u8 97] 5 (1, 2))))
 rw [gW] at ht2
 rw [gW, gW] at ht3
 generalize ((w2.alloc (.cells #[.int .u8 97] 5 (1, 2))).alloc (.cells #[.int .u8 98] 5 (1, 2))).alloc (.cells #[.int .u8 1, .slice (some ⟨w2.heap.size, 0, none⟩) 1 1, .int .u8 2, .slice (some ⟨w2.heap.size + 1, 0, none⟩) 1 1] 25 (0, 0)) = w3 at *
 obtain ⟨A, hA⟩ : ∃ A : List aO, A = [⟨1, .slice (some ⟨w2.heap.size, 0, none⟩) 1 1, [97]⟩, ⟨2, .slice (some ⟨w2.heap.size + 1, 0, none⟩) 1 1, [98]⟩] := ⟨_, rfl⟩
 have hAm : A.map aO.fr = Dp := by rw [hA]; rfl
 have hAl : A.length = 2 := by rw [hA]; rfl
 have hAd : ∀ x ∈ A, x.d.length = 1 ∧ Rd w3 x.dv x.d := by
  rw [hA]
  intro x hx
  rcases aJ.1 hx with e | hx
  ·rw [e]; exact ⟨rfl, Do Dr rfl⟩
  rw [aM.1 hx]; exact ⟨rfl, Do ht2 rfl⟩
 have hrow : eA tD 2 w3 (.slice (some ⟨w2.heap.size + 1 + 1, 0, none⟩) 2 2) A := by
  have := Rz iH (l := A) (ty := 25) (by rw [hA]; exact ht3) (by omega)
  rwa [hAl] at this
 have hap := Rq (K := []) (H2.out.keep hu3) (bG (by
  have := H2.out.log.lt lg (dQ.2 (.inl rfl)); omega) hu3.size) (by omega) hrow (fun x hx => (hAd x hx).2) (by omega) (by simp) (by simp [dB]) (by simp [dB]) (fun _ => by rw [hAm]; rw [show (dB []).1 = [] from rfl, Dq.1]; decide) (by simp)
 have HAP := aA hap
 have HAm := aA (aC hAm (aC hAl fun x hx => (hAd x hx).1))
 clear hap hAd hrow Dr ht2 ht3 hu3 hA hAm hAl H2 HO
 refine HAP.out.mono ?_
 rintro e w4 (⟨-, rfl, fv', sv', L', G', hl4, hL', -, -, -⟩ | ⟨⟨x, hx, hlong⟩, -, -⟩)
 ·rw [HAm.out.1, show (dB []).1 = [] from rfl, Dq.1] at hl4
  have H4 := aA hl4
  have HSg := aA (Ji w4 hl4.log (by simp))
  have hlen4 : ([] ++ L').length = 2 := by
   have := bM List.length hL'
   simpa [HAm.out.2.1] using this
  have hd4 : ∀ x ∈ [] ++ L', x.d.length ≤ 100000 := fun x hx => by
   have : x.fr ∈ L'.map aO.fr := cV.2 ⟨x, by simpa using hx, rfl⟩
   rw [hL', HAm.out.1] at this
   have : x.d = [97] ∨ x.d = [98] := by
    simp only [Dp, aJ, cA, cG, aO.fr, Prod.mk.injEq] at this
    exact this.imp (·.2) (·.2)
   rcases this with e | e <;> rw [e] <;> decide
  have HLen := aA fun (X : World) (u : aB [] w4 X) => Jf X (hl4.log.keep u) (by rw [hlen4]; decide) hd4
  rw [hlen4] at HLen
  clear hl4 hL' hlen4 hd4
  go_wp2_with fail
  refine HSg.out.mono ?_
  rintro e w5 ⟨v5, rfl, ho5, hu5⟩
  rw [show [cC 1 [97] ++ cC 2 [98]].map List.length = [14] by rw [dR, Dq.2]; rfl] at ho5
  obtain ⟨c5, g5, hv5, hc5⟩ : ∃ c5 g5, v5 = .slice (some ⟨g5, 0, none⟩) 1 c5 ∧ ∀ X, aB [] w5 X → X.cell? ⟨g5, 0, none⟩ = some (.int .i64 14) := by
   obtain ⟨a5, c5, rfl⟩ := ho5.slice
   obtain ⟨-, -, -, hat⟩ := ho5.at TI
   obtain ⟨g5, rfl, -, -, hca⟩ := hat 0 (by simp)
   exact ⟨c5, g5, rfl, fun X u => cN u (hca 0 _ rfl)⟩
  subst hv5
  have H5 := aA (aC hc5 hu5)
  clear ho5 hc5 hu5
  go_wp2_with fail
  refine (HLen.out _ H5.out.2).mono ?_
  rintro e w6 ⟨rfl, hu6⟩
  have c6 := H5.out.1 _ hu6
  have HU6 := aA (((H4.out.keep H5.out.2).keep hu6).sg.upd)
  clear hu6
  go_wp2_with fail
  go_ret
  exact ⟨rfl, HU6.out⟩
 have := HAm.out.2.2 x hx
 omega
end Go.Proofs.YtgpefiacbipfpaaGreatDoor
namespace Go.Proofs.YtgpefiacbipfpaaGreatDoor
open Go.RowKit
theorem RB {n : Nat} (h : n < 10) : eK n = (⟨#[115, 101, 103, 46]⟩ : ByteArray) ++ (bC [UInt8.ofNat (48 + n)] ++ (⟨#[]⟩ : ByteArray)) := by
 apply DY
 rw [DZ, DZ]
 simp [eK, bW, bC, h]
theorem RC (c : UInt8) : (bC [c] ++ (⟨#[]⟩ : ByteArray)).size = 1 ∧ (bC [c]).size = 1 ∧ bC [c] ++ (⟨#[]⟩ : ByteArray) ≠ ⟨#[]⟩ := by
 have h : bC [c] ++ (⟨#[]⟩ : ByteArray) = bC [c] := by
  apply DY
  rw [DZ]
  simp [bC]
 have h1 : (bC [c]).size = 1 := rfl
 refine ⟨by rw [h]; exact h1, h1, fun e => ?_⟩
 rw [h] at e
 have := bM ByteArray.size e
 rw [h1] at this
 cases this
theorem Ds (w : World) (n : Nat) (hn : n < 10) : Calls Tryz.prog 12 #[.int .i64 n] w fun e w' => e = .returned (.string (eK n)) ∧ aB [] w w' := by
 have HN := aA (RB hn)
 obtain ⟨c, hc⟩ : ∃ c, c = UInt8.ofNat (48 + n) := ⟨_, rfl⟩
 have hct : (c.toNat : Int) = 48 + (n : Int) := by rw [hc, qD]; omega
 rw [← hc] at HN
 have HB : Hid (∀ (W : World) (B : Nat), W.heap[B]? = some (.cells #[.int .u8 (48 + (n : Int))] 5 (0, 0)) → (convert 23 9 (.slice (some ⟨B, 0, none⟩) 1 1)).run Tryz.prog W = .ok (.string (bC [c])) W) := aA fun W B hB => Rd.str (Do hB hct.symm)
 obtain ⟨S, hS⟩ : ∃ S, S = bC [c] ++ (⟨#[]⟩ : ByteArray) := ⟨_, rfl⟩
 obtain ⟨s1, s2, s3⟩ := RC c
 rw [← hS] at HN s1 s3
 have HS := aA hS
 have s4 : S.toList.isEmpty = false := by
  unfold ByteArray.toList
  rw [ByteArray.toList.loop, aF (by omega), ByteArray.toList.loop, aE (by omega)]
  rfl
 have hn9 : (n : Int) ≤ 9 := by omega
 have hmod : (n : Int).tmod 10 = (n : Int) := by rw [Kj (by omega)]; omega
 have hdiv : (n : Int).tdiv 10 = 0 := by rw [Int.tdiv_eq_ediv_of_nonneg (by omega)]; omega
 have hmod2 : (n : Int) % 10 = (n : Int) := by omega
 have hdiv2 : (n : Int) / 10 = 0 := by omega
 have hcv := HB.out (w.alloc (.cells #[.int .u8 (48 + (n : Int))] 5 (0, 0))) w.heap.size (aX _ _)
 clear hc hct hS
 go_in
 go_wp2_with fail
 go_loopg [0, 3] 2 (fun gh s0 s3 wr => (gh = 2 ∧ s0 = .int .i64 n ∧ s3 = .string ⟨#[]⟩ ∧ wr = w) ∨ (gh = 1 ∧ s0 = .int .i64 0 ∧ s3 = .string S ∧ Hid (aB [] w wr)))
 case atStart => exact .inl ⟨rfl, rfl, rfl, rfl⟩
 case round =>
  rcases hrel with ⟨rfl, rfl, rfl, rfl⟩ | ⟨rfl, rfl, rfl, HU⟩
  ·have HU := aA ((aB.refl [] wr).alloc (.cells #[.int .u8 (48 + (n : Int))] 5 (0, 0)))
   rcases Bb n with h0 | h0
   ·have h0' : ¬ (0 : Int) < (n : Int) := by omega
    subst h0
    replace hcv : (convert 23 9 (.slice (some ⟨wr.heap.size, 0, none⟩) 1 1)).run Tryz.prog (wr.alloc (.cells #[.int .u8 48] 5 (0, 0))) = .ok (.string (bC [c])) (wr.alloc (.cells #[.int .u8 48] 5 (0, 0))) := hcv
    replace HU : Hid (aB [] wr (wr.alloc (.cells #[.int .u8 48] 5 (0, 0)))) := HU
    go_wp2_with fail
    go_roundg 1
    case measure => omega
    case rel => exact .inr ⟨rfl, rfl, by rw [HS.out], HU⟩
   have h0' : (0 : Int) < (n : Int) := by omega
   go_wp2_with fail
   go_roundg 1
   case measure => omega
   case rel => exact .inr ⟨rfl, rfl, by rw [HS.out], HU⟩
  go_wp2_with fail
  go_ret
  exact ⟨by rw [HN.out]; rfl, HU.out⟩
open Go.Maps
theorem RD {l l' : Nat → aL} {room k : Nat} {fs : aG} (h : jB l room k fs) (c : iM l l') : l' = l := by
 funext i
 have hp := h.pend i
 obtain ⟨h1, h2⟩ := c i
 cases hl : l i with
 | mk s pe =>
  rw [hl] at hp h2
  simp only [aL.poss] at h2 hp
  subst hp
  cases hl' : l' i with
  | mk s' pe' =>
   rw [hl'] at h1 h2
   simp only [aM] at h1 h2
   rw [h1, h2]
theorem sJ.dv {w0 w : World} {p room c : Nat} {P : aG → Prop} {sf : Bool} {G : List Nat} (h : sJ w0 w p room P sf c G) : Dv w0 w p room P c G := by
 obtain ⟨D, k, F, fs, h1, h2, h3, h4, h5, h6, h7, h8, h9, h10⟩ := h.st
 exact ⟨⟨D, F, h2, h9, h7, h5, h10, fun l' hl => ⟨k, fs, h8, h1, by rw [RD h6 hl]; exact h6⟩⟩, h.upd, h.lt, h.one⟩
theorem cU.dv {w0 w : World} {v p room c : Nat} {m ml : Nat → Option Bs} {G : List Nat} (h : cU w0 w v p room m ml c G) (h1 : 1 ≤ room) : Dv w0 w p room (fun f => gP f ml) c G := by
 obtain ⟨fs, last, h2, h3, h4, h5⟩ := h.ex
 exact (sI.of h2 h1).dv.imp fun f e => by rw [e]; exact h4
theorem RE (w0 w : World) {p room c k : Nat} {ds : List Bs} {G : List Nat} (h : Dv w0 w p room (fun f => gP f (cO ds)) c G) (hc : c ≤ 700000) (hds : ds.length ≤ 50) (hk : ∀ d ∈ ds, d.length ≤ 512 * k) (hk2 : 512 * k ≤ 32768) (hroom : (dB ds).2.1 = true → k * ds.length + k * ds.length + (k + 1) ≤ room) :
  Calls Tryz.prog 23 #[.pointer (some ⟨p, 0, none⟩), .agg #[.int .i64 0, .int .i64 39, .slice none 0 0, .slice none 0 0]] w fun e w' => ∃ (lg b v : Nat) (fv sv : Value) (L : List aO) (G' : List Nat), e = .returned (.pointer (some ⟨lg, 0, none⟩)) ∧ tK w0 w' v p room (dB ds).1 (c + 8) b lg fv sv L G' ∧ L.map aO.fr = (dB ds).2.2 ∧ (∀ i ∈ G, i ∈ G') ∧ bT G w w' := by
 have h1 := h.one
 have HM := aA fun (X : World) (u : aB [] w X) => QY w0 X (h.keep u) (by omega) 39 (by decide) (qa := none) (ql := 0) (qc := 0) (picks := []) ⟨⟨none, 0, rfl, aQ _, by unfold maxLen; omega, fun i hi => absurd hi (by simp)⟩, fun n c e => by cases e; rfl⟩ (by simp) (by simp)
 have HO := aA fun (X : World) (v : Nat) (fs : aG) (hs : gP fs (cO ds)) (hl : Lv w0 X v p room fs fs (c + 6) G) => Dk (k := k) ⟨fs, fs, hl, hs, hs, fun _ h => h⟩ (by omega) h1 hds hk hk2 hroom
 clear h hk
 go_in
 go_wp2_with fail
 have hu1 := (aB.refl [] w).alloc (.cells #[.int .i64 0, .int .i64 39, .slice none 0 0, .slice none 0 0] 54 (0, 0))
 refine (HM.out _ hu1).mono ?_
 rintro e w2 ⟨v, rfl, fs, hP, hl, hst⟩
 have H2 := aA (HO.out _ v fs hP hl)
 have HS := aA ((bT.of hu1 : bT G w _).trans hst)
 clear hu1 hP hl hst
 go_wp2_with fail
 refine H2.out.mono ?_
 rintro e w3 ⟨lg, fv, sv, L, G', rfl, hl3, hL, hG, hst3⟩
 have H3 := aA (aC hl3 (aC hL (aC hG (HS.out.trans hst3))))
 clear hl3 hL hG hst3
 go_wp2_with fail
 go_ret
 exact ⟨_, _, _, _, _, _, _, rfl, H3.out⟩
end Go.Proofs.YtgpefiacbipfpaaGreatDoor
