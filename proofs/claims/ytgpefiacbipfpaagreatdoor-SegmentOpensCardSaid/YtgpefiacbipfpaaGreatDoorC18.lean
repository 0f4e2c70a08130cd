/- A run behind others. -/
import Derived.BigQuiet
import Derived.Deep.DeepCutAuto
import Derived.WalkMore
import Derived.Test.YtgpefiacbipfpaaGreatDoorC11
import Derived.Test.YtgpefiacbipfpaaGreatDoorC16
set_option maxRecDepth 100000
set_option maxHeartbeats 4000000
namespace Go.Proofs.YtgpefiacbipfpaaGreatDoor
open Go.RowKit Go.Maps
theorem aK.setLast {w : World} {base g c n : Nat} {rs0 : List aR} {x : aR} (h : aK cR 148 2 w base (.slice (some ⟨g, 0, none⟩) n c) (rs0 ++ [x])) (y : Nat) :
  aK cR 148 2 (w.setCell ⟨g, rs0.length * 2 + 1, none⟩ (.int .i64 y)) base (.slice (some ⟨g, 0, none⟩) n c) (rs0 ++ [(x.1, y)]) := by
 obtain ⟨h1, h2⟩ := h
 have e0 : (rs0 ++ [(x.1, y)]).length = (rs0 ++ [x]).length := by simp
 refine ⟨by rw [gJ TR], ?_⟩
 rcases h2 with ⟨h2, -⟩ | ⟨g', cap, cur, hv, hg, hh, r1, r2, r3, r4⟩
 ·cases h2
 cases hv
 refine .inr ⟨g, c, cur.setIfInBounds (rs0.length * 2 + 1) (.int .i64 y), by rw [e0], hg, ?_, by rw [e0]; exact r1, r2, by simpa using r3, ?_⟩
 ·rw [bJ, aF rfl, hh]; rfl
 rw [e0, wO, yV, r4]
 have hf : aP cR (rs0 ++ [x]) = aP cR rs0 ++ [.int .i64 x.1, .int .i64 x.2] := by rw [pU]; simp [aP, cR]
 have hf2 : aP cR (rs0 ++ [(x.1, y)]) = aP cR rs0 ++ [.int .i64 x.1, .int .i64 y] := by rw [pU]; simp [aP, cR]
 have hl : (aP cR rs0).length = rs0.length * 2 := gJ TR rs0
 rw [hf, hf2, DS _ _ (by omega), hl]
 have : rs0.length * 2 + 1 - rs0.length * 2 = 1 := by omega
 rw [this]; rfl
def Ak (w : World) (base : Nat) (v : Value) (l : List aR) (r : Ending) (w' : World) : Prop := ∃ v', r = .returned v' ∧ aK cR 148 2 w' base v' l ∧ aB v.ownBlock.toList w w' ∧ (v'.ownBlock = v.ownBlock ∨ ∀ g, v'.ownBlock = some g → w.heap.size ≤ g)
theorem GV {w w2 w3 : World} {base : Nat} {v v' : Value} {a b : Nat} {rs : List aR} (he : gR rs (a, b) = rs ++ [(a, b)]) (hu : aB [] w w2) (ho : aK cR 148 2 w3 base v' (rs ++ [(a, b)])) {ty : TypeId} (hg : (w2.alloc (.cells #[.int .i64 a, .int .i64 b] ty)).grownBy w3 v.ownBlock) (hn : v'.ownBlock = v.ownBlock ∨ ∀ g, v'.ownBlock = some g → w2.heap.size + 1 ≤ g) :
  Ak w base v (gR rs (a, b)) (.returned v') w3 := by
 rw [he]
 have hu2 : aB v.ownBlock.toList w2 w3 := by
  have := tI hg
  exact ⟨this.os, this.output, bG (by simp) this.size, fun k hk hn => by rw [this.block k (by simp; omega) hn, heap_alloc, aE (by omega)]⟩
 exact ⟨v', rfl, ho, (hu.mono (by simp)).trans hu2, hn.imp id fun q g hg => by have := q g hg; have := hu.size; omega⟩
theorem Oc (w : World) {base : Nat} {v : Value} {rs : List aR} (h : aK cR 148 2 w base v rs) (hb : base ≤ w.heap.size) (hl : rs.length ≤ 1000000) (a b : Nat) (ha : a ≤ 100000000) (hbb : b ≤ 100000000) (hrs : ∀ x ∈ rs, x.1 ≤ 100000000 ∧ x.2 ≤ 100000000) :
  Calls Tryz.prog 90 #[v, .agg #[.int .i64 a, .int .i64 b]] w (Ak w base v (gR rs (a, b))) := by
 have H := aA h
 obtain ⟨av, cv, m, hm, rfl⟩ := h.sliceM
 have HO : Hid (∀ W : World, aB [] w W → aK cR 148 2 W base (.slice av m cv) rs) := aA fun W u => h.upd u (by simp)
 rcases pO rs with rfl | ⟨rs0, x, rfl⟩
 ·have hm0 : m = 0 := hm
  clear hm h hrs hl
  subst hm0
  go_in
  go_wp2_with fail
  go_quiet (fail)
  go_upto_region 5 with (fail)
  have hX := aX w (.cells #[.int .i64 a, .int .i64 b] 148)
  have hu : aB [] w ((w.alloc (.cells #[.int .i64 a, .int .i64 b] 148)).drewN nq) := ((aB.refl [] w).alloc _).drewN nq
  have b0 : ((w.alloc (.cells #[.int .i64 a, .int .i64 b] 148)).drewN nq).cell? ⟨w.heap.size, 0, none⟩ = some (.int .i64 a) := aD hX 0
  have b1 : ((w.alloc (.cells #[.int .i64 a, .int .i64 b] 148)).drewN nq).cell? ⟨w.heap.size, 1, none⟩ = some (.int .i64 b) := aD hX 1
  clear hX
  generalize (w.alloc (.cells #[.int .i64 a, .int .i64 b] 148)).drewN nq = w2 at *
  have HU := aA hu
  have hs2 := hu.size
  clear hu
  go_wp2_with (first
   | (at_builtin; refine fS TR rfl _ _ rfl (base := base) (l := []) (r := [(a, b)]) rfl (HO.out _ (HU.out.alloc _)) rfl (iS TR (ty := 148) (aX _ _)) (nY _) ?c1 ?c2 ?c3 ?_)
   | fail)
  case c1 => simp
  case c2 => simp
  case c3 => (try simp); omega
  intro v3 w3 ho3 hg3 hn3
  have HP := aA (GV (rs := []) rfl HU.out (by simpa using ho3) hg3 (hn3.imp id fun q g hg => by have := q g hg; (try simp at this); omega))
  obtain ⟨a3, c3, m3, -, rfl⟩ := ho3.sliceM
  clear ho3 hg3 hn3
  go_wp2_with fail
  go_ret
  exact HP.out
 rw [oM] at *
 have hx := hrs x (by simp)
 obtain ⟨g, c', hv, hg1, hg2⟩ := h.headG (by simp)
 have hm' : m = rs0.length + 1 := by rw [hm]; simp
 simp only [fG] at hv
 obtain ⟨rfl, -, rfl⟩ := hv
 have hat := (aK.at TR h).2.2.2 rs0.length (by simp)
 have hfz := hat.choose_spec.2.2.1
 obtain ⟨g', hg', -, hfr, hc⟩ := hat
 cases hg'
 have hxe : (rs0 ++ [x])[rs0.length]'(by simp) = x := by simp
 rw [hxe] at hc
 have hcap := (aK.at TR h).2.1
 have HQ : Hid (rs0.length = rs0.length) := aA rfl
 have hm1 : ((m : Nat) : Int) - 1 = (rs0.length : Int) := by omega
 have hlt0 : (0 : Int) ≤ (rs0.length : Int) := by omega
 have hlt1 : (rs0.length : Int) < (m : Int) := by omega
 have HM := aA hm'
 clear hm'
 obtain ⟨xa, xb⟩ := x
 dsimp only at hx
 have k0 : ∀ W, aB [] w W → W.cell? ⟨g, rs0.length * 2, none⟩ = some (.int .i64 xa) := fun W u => eQ u (hc 0 _ rfl)
 have k1 : ∀ W, aB [] w W → W.cell? ⟨g, rs0.length * 2 + 1, none⟩ = some (.int .i64 xb) := fun W u => eQ u (hc 1 _ rfl)
 have kf : ∀ W, aB [] w W → W.frozen? ⟨g, rs0.length * 2 + 1, none⟩ = false := fun W u => by
  rw [← hfr (rs0.length * 2 + 1)]
  unfold World.frozen?
  rw [u.block g hg2 (by simp)]
 have HL : Hid (rs0.length ≤ 1000000) := aA (by simp at hl; omega)
 have hql : rs0.length ≤ 1000000 := HL.out
 have hw0 : aB [] w (w.alloc (.cells #[.int .i64 a, .int .i64 b] 148)) := (aB.refl [] w).alloc _
 have d0 := k0 _ hw0
 have d1 := k1 _ hw0
 have hng : g ≠ w.heap.size := by omega
 have K1 := aA k1
 have KF := aA kf
 have hput : gR (rs0 ++ [(xa, xb)]) (a, b) = if xa + xb = a then rs0 ++ [(xa, xb + b)] else rs0 ++ [(xa, xb)] ++ [(a, b)] := tZ _ _ _
 have HPut := aA hput
 have hlen2 : (rs0 ++ [(xa, xb)]).length = rs0.length + 1 := by simp
 have HLen2 := aA hlen2
 clear hxe hc hm
 generalize hq : rs0.length = q at *
 have hq1' : (m : Int) ≤ (cv : Int) := by omega
 have hwx : IntKind.i64.wrap ((xa : Int) + xb) = (xa : Int) + xb := fF _ (by omega)
 have hwy : IntKind.i64.wrap ((xb : Int) + b) = (xb : Int) + b := fF _ (by omega)
 clear hfr h hrs hl hput hlen2 k0 k1 kf hw0
 have HQ2 := aA hq
 clear hq HQ
 by_cases hmg : xa + xb = a
 ·have hmg' : (xa : Int) + (xb : Int) = (a : Int) := by omega
  have hmg2 : ((xa : Int) + (xb : Int) == (a : Int)) = true := by simpa using hmg'
  go_in
  go_wp2_with fail
  go_quiet (fail)
  go_upto_region 3 with (fail)
  have hX := aX w (.cells #[.int .i64 a, .int .i64 b] 148)
  have hu : aB [] w ((w.alloc (.cells #[.int .i64 a, .int .i64 b] 148)).drewN nq) := ((aB.refl [] w).alloc _).drewN nq
  have b1 : ((w.alloc (.cells #[.int .i64 a, .int .i64 b] 148)).drewN nq).drew.cell? ⟨w.heap.size, 1, none⟩ = some (.int .i64 b) := aD hX 1
  clear hX
  generalize (w.alloc (.cells #[.int .i64 a, .int .i64 b] 148)).drewN nq = w2 at *
  have HU := aA hu
  have e1 := K1.out _ hu.drew
  have e2 := KF.out _ hu.drew
  clear hu d0 d1
  go_region
  all_goals
   go_wp2_with fail
   go_ret
   have HO2 := (HO.out _ HU.out.drew).setLast (xb + b)
   rw [HQ2.out] at HO2
   have e3 : ((xb + b : Nat) : Int) = (xb : Int) + b := by omega
   rw [e3] at HO2
   refine ⟨_, rfl, by rw [HPut.out, aF hmg]; exact HO2, (HU.out.drew.mono (by simp)).setCell (by simp [Value.ownBlock]) _ _, .inl rfl⟩
 have hmg' : ¬ (xa : Int) + (xb : Int) = (a : Int) := by omega
 have hmg2 : ((xa : Int) + (xb : Int) == (a : Int)) = false := by simpa using hmg'
 go_in
 go_wp2_with fail
 go_quiet (fail)
 go_upto_region 5 with (fail)
 have hX := aX w (.cells #[.int .i64 a, .int .i64 b] 148)
 have hu : aB [] w ((w.alloc (.cells #[.int .i64 a, .int .i64 b] 148)).drewN nq) := ((aB.refl [] w).alloc _).drewN nq
 have b0 : ((w.alloc (.cells #[.int .i64 a, .int .i64 b] 148)).drewN nq).cell? ⟨w.heap.size, 0, none⟩ = some (.int .i64 a) := aD hX 0
 have b1 : ((w.alloc (.cells #[.int .i64 a, .int .i64 b] 148)).drewN nq).cell? ⟨w.heap.size, 1, none⟩ = some (.int .i64 b) := aD hX 1
 clear hX
 generalize (w.alloc (.cells #[.int .i64 a, .int .i64 b] 148)).drewN nq = w2 at *
 have HU := aA hu
 have hs2 := hu.size
 clear hu
 go_wp2_with (first
  | (at_builtin; refine fS TR rfl _ _ rfl (base := base) (l := rs0 ++ [(xa, xb)]) (r := [(a, b)]) rfl (HO.out _ (HU.out.alloc _)) rfl (iS TR (ty := 148) (aX _ _)) (nY _) ?c1 ?c2 ?c3 ?_)
  | fail)
 case c1 => (simp only [bD, eG, lJ, HQ2.out]; omega)
 case c2 => (simp only [bD, eG, lJ, HQ2.out]; omega)
 case c3 => (try simp); omega
 intro v3 w3 ho3 hg3 hn3
 have HP := aA (GV (rs := rs0 ++ [(xa, xb)]) (by rw [HPut.out, aE hmg]) HU.out (by simpa using ho3) hg3 (hn3.imp id fun q g hg => by have := q g hg; (try simp at this); omega))
 obtain ⟨a3, c3, m3, -, rfl⟩ := ho3.sliceM
 clear ho3 hg3 hn3
 go_wp2_with fail
 go_ret
 exact HP.out
theorem xQ (a b : List aR) : aY (a ++ b) = aY a + aY b := by simp [aY]
theorem CH (l : List aR) (r : aR) : aY (gR l r) = aY l + r.2 := by
 rcases pO l with rfl | ⟨l, x, rfl⟩
 ·simp [zC, aY]
 rw [oM, tZ]
 split
 ·rw [xQ, xQ]; simp [aY]; omega
 rw [xQ]; simp [aY]
theorem Od (rs : List aR) : ∀ l, aY (rs.foldl gR l) = aY l + aY rs := by
 induction rs with
 | nil => intro l; simp [aY]
 | cons r rs ih => intro l; rw [uY, ih, CH]; simp [aY]; omega
theorem Oe {l : List aR} {r x : aR} (h : x ∈ gR l r) : x.1 = r.1 ∨ ∃ y ∈ l, x.1 = y.1 := by
 rcases pO l with rfl | ⟨l, y, rfl⟩
 ·rw [zC, aM] at h; exact .inl (by rw [h])
 rw [oM, tZ] at h
 rw [oM]
 split at h
 ·rcases bK.1 h with h | h
  ·exact .inr ⟨x, by simp [h], rfl⟩
  rw [aM] at h; exact .inr ⟨y, by simp, by rw [h]⟩
 rcases bK.1 h with h | h
 ·exact .inr ⟨x, h, rfl⟩
 rw [aM] at h; exact .inl (by rw [h])
theorem Ao {l : List aR} {x : aR} (h : x ∈ l) : x.2 ≤ aY l := by
 induction l with
 | nil => simp at h
 | cons y l ih =>
  rcases aJ.1 h with rfl | h
  ·simp [aY]
  have := ih h; simp [aY] at this ⊢; omega
theorem Of (l : List aR) (r : aR) : (gR l r).length ≤ l.length + 1 := by
 rcases pO l with rfl | ⟨l, x, rfl⟩
 ·simp [zC]
 rw [oM, tZ]
 split <;> simp
structure pF (l : List aR) (n : Nat) : Prop where
 one : ∀ x ∈ l, x.1 ≤ 100000
 sum : aY l ≤ 100000
 len : l.length ≤ n
theorem pF.put {l : List aR} {n : Nat} (h : pF l n) {r : aR} (h1 : r.1 ≤ 100000) (h2 : aY l + r.2 ≤ 100000) : pF (gR l r) (n + 1) :=
 ⟨fun x hx => by rcases Oe hx with e | ⟨y, hy, e⟩; omega; rw [e]; exact h.one y hy, by rw [CH]; exact h2, by have := Of l r; have := h.len; omega⟩
structure CI (rs : List aR) : Prop where
 pos : ∀ r ∈ rs, 1 ≤ r.2
 le : ∀ r ∈ rs, r.1 + r.2 ≤ 512
 len : rs.length ≤ 1000
def kI (runs rs : List aR) (i : Nat) : List aR := (rs.take i).foldl gR runs
theorem GW {runs rs : List aR} {i : Nat} {r : aR} (h : rs[i]? = some r) : kI runs rs (i + 1) = gR (kI runs rs i) r := by
 unfold kI
 rw [iK, h]
 simp
theorem GX {runs rs : List aR} {n : Nat} (h : pF runs n) (hok : CI rs) (hs : aY runs + aY rs ≤ 100000) : ∀ i, pF (kI runs rs i) (n + i) ∧ aY (kI runs rs i) ≤ aY runs + aY rs
 | 0 => ⟨by simpa [kI] using h, by simp [kI]⟩
 | i + 1 => by
  have ih := GX h hok hs i
  by_cases hi : i < rs.length
  ·have e := GW (runs := runs) (bL hi)
   have hl : aY (kI runs rs i) + rs[i].2 ≤ aY runs + aY rs := by
    unfold kI
    rw [Od]
    have : aY rs = aY (rs.take i) + aY (rs.drop i) := by rw [← xQ, kW]
    rw [pP hi] at this
    simp only [aY, dR, sM] at this ⊢
    omega
   rw [e]
   have hle := hok.le rs[i] (fX hi)
   exact ⟨ih.1.put (by omega) (by omega), by rw [CH]; exact hl⟩
  have e : kI runs rs (i + 1) = kI runs rs i := by unfold kI; rw [dY (by omega), dY (by omega)]
  rw [e]
  exact ⟨⟨ih.1.one, ih.1.sum, by have := ih.1.len; omega⟩, ih.2⟩
theorem Og {rs : List aR} {i : Nat} {r : aR} (h : rs[i]? = some r) : aY (rs.drop i) = r.2 + aY (rs.drop (i + 1)) := by
 obtain ⟨hi, rfl⟩ := eX.1 h
 rw [pP hi]
 unfold aY
 rw [dR, sM]
theorem eA.runs {w : World} {a : Option Addr} {n c : Nat} {rs : List aR} (h : eA cR 2 w (.slice a n c) rs) {i : Nat} {r : aR} (hr : rs[i]? = some r) : ∃ b off, a = some ⟨b, off, none⟩ ∧ w.cell? ⟨b, off + i * 2, none⟩ = some (.int .i64 r.1) ∧ w.cell? ⟨b, off + i * 2 + 1, none⟩ = some (.int .i64 r.2) := by
 obtain ⟨⟨a', c', hv, -, -, hat⟩, -⟩ := h
 simp only [fG] at hv
 obtain ⟨rfl, -, rfl⟩ := hv
 obtain ⟨hi, rfl⟩ := eX.1 hr
 obtain ⟨b, off, rfl, hc⟩ := hat i hi
 exact ⟨b, off, rfl, hc 0 _ rfl, hc 1 _ rfl⟩
theorem GY (w : World) {base q size : Nat} {rv : Value} {runs : List aR} (h : iG w base q size rv runs) (hbase : base ≤ w.heap.size) (hs : size ≤ 32768) (hsm : pF runs 1000) (n : Nat) (hn : size + n ≤ 32768) {v : Value} {rs : List aR} (hv : eA cR 2 w v rs) (hok : CI rs) (hlen : aY rs = gM (size + n) - gM size) (hlr : aY runs ≤ 1000) :
  Calls Tryz.prog 44 #[.pointer (some ⟨q, 0, none⟩), .int .i64 n, v] w fun r w' => r = .returned (.int .i64 0) ∧ ∃ rv', iG w' base q (size + n) rv' (rs.foldl gR runs) ∧ aB [q] w w' ∧ ∀ g, rv'.ownBlock = some g → w.heap.size ≤ g := by
 have HN := aA h
 have hql := aH h.1
 have HNd := aA (FY w h hs n (by omega))
 rw [aE (by omega), aE (by omega), ← hlen] at HNd
 have HRn := aA (Ad w h (by have := hsm.len; omega))
 have hl64 : aY rs ≤ 64 := by rw [hlen]; unfold gM; omega
 obtain ⟨av, cv, rfl, hc1, hc2, -⟩ := hv.slice
 have HV := aA hv
 have HOK := aA hok
 have HSM := aA hsm
 have hL := hok.len
 have HS : Hid (∀ i, i < rs.length → ∃ y, rs[i]? = some y) := aA fun i h => ⟨_, bL h⟩
 have HFS := aA fun i => GX hsm hok (by omega) i
 have HFin : Hid (aY (rs.drop rs.length) = 0 ∧ kI runs rs rs.length = rs.foldl gR runs) := aA ⟨by simp [aY], by simp [kI]⟩
 have HD0 : Hid (aY rs = aY (rs.drop 0)) := aA (by simp)
 have HF0 : Hid (kI runs rs 0 = runs) := aA (by simp [kI])
 generalize rs.length = L at *
 clear h hv hok hlen hsm
 go_in
 go_wp2_with fail
 refine HNd.out.mono ?_
 rintro r w1 ⟨rfl, ha1⟩
 have hu1 : aB [] w w1 := (aB.refl [] w).alike ha1
 have hN1 : iG w1 base q size rv runs := ⟨(hu1.block q hql (by simp)).trans HN.out.1, HN.out.2.upd hu1 (by simp)⟩
 have HR1 := aA (Ad w1 hN1 (by have := HSM.out.len; omega))
 have HU1 := aA hu1
 have hsz : w1.heap.size = w.heap.size := by rw [ha1.1]
 have HSZ := aA hsz
 clear ha1 hu1 hN1 HNd HRn hsz
 generalize hld : aY rs = ld at *
 go_wp2_with fail
 refine HR1.out.mono ?_
 rintro r w2 ⟨v2, rfl, ho2, hu2⟩
 have H2 := aA (aC (ho2.base (by rw [HSZ.out]; exact aQ _) : aK cR 148 2 w2 w.heap.size v2 runs) (HU1.out.trans hu2))
 obtain ⟨a2, c2, m2, -, rfl⟩ := ho2.sliceM
 clear ho2 hu2 HR1
 go_wp2_with fail
 go_loopg [7, 9, 25] L (fun gh v7 v9 v25 wr => ∃ (i : Nat) (nd : Nat) (a9 : Option Addr) (m9 c9 : Nat), v7 = .int .i64 nd ∧ v9 = .slice a9 m9 c9 ∧ v25 = .int .i64 i ∧ i ≤ L ∧ gh = L - i ∧ Hid (nd = aY (rs.drop i)) ∧ Hid (aK cR 148 2 wr w.heap.size (.slice a9 m9 c9) (kI runs rs i) ∧ aB [] w wr))
 case atStart => exact ⟨0, ld, a2, _, _, rfl, rfl, rfl, by omega, rfl, aA HD0.out, aA ⟨by rw [HF0.out]; exact H2.out.1, H2.out.2⟩⟩
 case round =>
  obtain ⟨i, nd, a9, m9, c9, rfl, rfl, rfl, hi, rfl, HND, H3⟩ := hrel
  by_cases hil : i < L
  ·have hlt : (i : Int) < (L : Int) := by omega
   obtain ⟨y, hy⟩ := HS.out i hil
   obtain ⟨b, off, rfl, k0, k1⟩ := (HV.out.upd TR H3.out.2 (by simp)).runs hy
   have hym := fC hy
   have hp := HOK.out.pos y hym
   have hle := HOK.out.le y hym
   have hdr := Og hy
   have HFa := aA (GW (runs := runs) hy)
   have hnd : y.2 ≤ nd := by rw [HND.out, hdr]; omega
   have hnd2 : nd - y.2 = aY (rs.drop (i + 1)) := by rw [HND.out, hdr]; omega
   have HND2 := aA hnd2
   have hnd64 : nd ≤ 64 := by
    rw [HND.out]
    have : aY rs = aY (rs.take i) + aY (rs.drop i) := by rw [← xQ, kW]
    omega
   obtain ⟨ya, yb⟩ := y
   dsimp only at *
   clear hdr hnd2 hy hym
   go_wp2_with fail
   have hsm1 := (HFS.out i).1
   have hs1 := H3.out.2.size
   refine (Oc (wr.alloc _) (H3.out.1.upd ((aB.refl [] wr).alloc _) (by simp)) (by simp; omega) (by have := hsm1.len; omega) ya yb (by omega) (by omega) (fun x hx => ⟨by have := hsm1.one x hx; omega, by have := Ao hx; have := hsm1.sum; omega⟩)).mono ?_
   rintro r w5 ⟨v5, rfl, ho5, hu5, hn5⟩
   rw [← HFa.out] at ho5
   have H5 : Hid (aK cR 148 2 w5 w.heap.size v5 (kI runs rs (i + 1)) ∧ aB [] w w5) := aA ⟨ho5, (H3.out.2.alloc _).next hu5 (fun g hg hlt => by
    exfalso
    have e : (Value.slice a9 m9 c9).ownBlock = some g := by simpa using hg
    have := (H3.out.1.block g e).1; omega)⟩
   obtain ⟨a5, c5, m5, -, rfl⟩ := ho5.sliceM
   have e1 : ((nd : Int) - (yb : Int)) = ((nd - yb : Nat) : Int) := by omega
   clear ho5 hu5 hn5 hsm1 k0 k1
   rw [e1]
   go_wp2_with fail
   go_roundg (L - (i + 1))
   case rel => exact ⟨i + 1, nd - yb, a5, _, _, by first | rfl | go_num, rfl, by go_num, by omega, rfl, HND2, H5⟩
   case measure => omega
  have hlt : ¬ (i : Int) < (L : Int) := by omega
  obtain rfl : i = L := by omega
  have hnd0 : nd = 0 := by rw [HND.out, HFin.out.1]
  subst hnd0
  have hB := HN.out.1
  have hB3 := (H3.out.2.block q hql (by simp)).trans hB
  have c0 : wr.cell? ⟨q, 0, none⟩ = some (.int .i64 size) := aD hB3 0
  have c1 : wr.cell? ⟨q, 1, none⟩ = some rv := aD hB3 1
  have f0 := aZ hB3 0
  have f1 := aZ hB3 1
  have HB3 := aA hB3
  have hs3 := H3.out.2.size
  have hw1 : IntKind.i64.wrap ((size : Int) + n) = (size : Int) + n := fF _ (by omega)
  clear hB hB3
  go_wp2_with fail
  go_ret
  have hu : aB [q] wr ((wr.setCell ⟨q, 0, none⟩ (.int .i64 ((size : Int) + n))).setCell ⟨q, 1, none⟩ (.slice a9 m9 c9)) := ((aB.refl _ _).setCell (by simp) _ _).setCell (by simp) _ _
  have hB5 : ((wr.setCell ⟨q, 0, none⟩ (.int .i64 ((size : Int) + n))).setCell ⟨q, 1, none⟩ (.slice a9 m9 c9)).heap[q]? = some (.cells #[.int .i64 ((size : Int) + n), .slice a9 m9 c9] 143 (0, 0)) := by
   rw [bJ, aF rfl, bJ, aF rfl, HB3.out]; rfl
  have hown := H3.out.1
  rw [HFin.out.2] at hown
  refine ⟨rfl, _, ⟨?_, ?_⟩, (H3.out.2.mono (by simp)).trans hu, fun g hg => (H3.out.1.block g hg).1⟩
  ·rw [hB5]
   show some (Obj.cells #[.int .i64 ((size : Int) + n), _] _ _) = some (Obj.cells #[.int .i64 ((size + n : Nat) : Int), _] _ _)
   rw [tS]
  exact (hown.upd hu (fun j hj e => by have := (H3.out.1.block j e).1; simp at hj; omega)).base hbase
theorem Oh {rs : List aR} {i k b : Nat} {r : aR} (h : rs[i]? = some r) (hb : (bY (rs.drop i))[k]? = some b) : (k < r.2 ∧ b = r.1 + k) ∨ (r.2 ≤ k ∧ (bY (rs.drop (i + 1)))[k - r.2]? = some b) := by
 obtain ⟨hi, rfl⟩ := eX.1 h
 rw [pP hi, rW] at hb
 by_cases hk : k < rs[i].2
 ·left
  rw [kQ (by rw [yM]; exact hk), List.getElem?_range' hk] at hb
  cases hb
  exact ⟨hk, by omega⟩
 right
 rw [oN (by rw [yM]; omega), yM] at hb
 exact ⟨by omega, hb⟩
theorem GZ (w : World) {base q size : Nat} {rv : Value} {runs : List aR} (h : iG w base q size rv runs) (hs : size ≤ 32768) (hsm : pF runs 100000) (n : Nat) (hn : n < size) {b : Nat} (hb : (bY runs)[n / 512]? = some b) :
  Calls Tryz.prog 45 #[.pointer (some ⟨q, 0, none⟩), .int .i64 n] w fun r w' => r = .returned (.tuple #[.int .i64 b, .int .i64 (n % 512 : Nat), .int .i64 0]) ∧ aB [] w w' := by
 have c0 : w.cell? ⟨q, 0, none⟩ = some (.int .i64 size) := aD h.1 0
 have c1 : w.cell? ⟨q, 1, none⟩ = some rv := aD h.1 1
 have hrd := aK.rd TR h.2
 obtain ⟨av, cv, rfl, hc1, hc2, -⟩ := hrd.slice
 have HV := aA hrd
 have HSM := aA hsm
 have hL := hsm.len
 have HS : Hid (∀ i, i < runs.length → ∃ y, runs[i]? = some y) := aA fun i h => ⟨_, bL h⟩
 have HB0 : Hid ((bY (runs.drop 0))[n / 512]? = some b) := aA (by simpa using hb)
 have HEnd : Hid (bY (runs.drop runs.length) = []) := aA (by simp [bY])
 have hn1 : (n : Int) < (size : Int) := by omega
 have hd1 : decide ((n : Int) < 0) = false := decide_eq_false (by omega)
 have hd2 : decide (size ≤ n) = false := decide_eq_false (by omega)
 have hd3 : decide ((size : Int) ≤ (n : Int)) = false := decide_eq_false (by omega)
 generalize runs.length = L at *
 clear h hrd hsm hb
 go_in
 go_wp2_with fail
 go_step3
 go_wp2_with fail
 go_step3
 go_wp2_with fail
 go_loopg [7, 32] L (fun gh v7 v32 wr => ∃ (i kk : Nat), v7 = .int .i64 kk ∧ v32 = .int .i64 i ∧ i ≤ L ∧ gh = L - i ∧ kk ≤ 64 ∧ Hid ((bY (runs.drop i))[kk]? = some b ∧ aB [] w wr))
 case atStart => exact ⟨0, n / 512, by go_num, rfl, by omega, rfl, by omega, aA ⟨HB0.out, aB.refl _ _⟩⟩
 case round =>
  obtain ⟨i, kk, rfl, rfl, hi, rfl, hk64, H1⟩ := hrel
  by_cases hil : i < L
  ·have hlt : (i : Int) < (L : Int) := by omega
   obtain ⟨y, hy⟩ := HS.out i hil
   obtain ⟨b0, off, rfl, k0, k1⟩ := (HV.out.upd TR H1.out.2 (by simp)).runs hy
   have hya := HSM.out.one y (fC hy)
   have hyb := Ao (fC hy)
   have hsum := HSM.out.sum
   rcases Oh hy H1.out.1 with ⟨hlt2, hbb⟩ | ⟨hge, hbb⟩
   ·have hlt2' : (kk : Int) < (y.2 : Int) := by omega
    have hbe : (b : Int) = (y.1 : Int) + (kk : Int) := by omega
    have HBE := aA hbe
    have hw1 : IntKind.i64.wrap ((y.1 : Int) + kk) = (y.1 : Int) + kk := fF _ (by omega)
    obtain ⟨ya, yb⟩ := y
    dsimp only at *
    clear hbe hy
    go_wp2_with fail
    rw [Exit.noGoto_ret]
    go_ret3
    refine ⟨?_, H1.out.2.alloc _⟩
    show Ending.returned (.tuple #[.int .i64 ((ya : Int) + kk), .int .i64 ((n : Int) % 512), .int .i64 0]) = _
    rw [HBE.out, show ((n % 512 : Nat) : Int) = (n : Int) % 512 by omega]
   have hlt2' : ¬ (kk : Int) < (y.2 : Int) := by omega
   obtain ⟨ya, yb⟩ := y
   dsimp only at *
   have HBB := aA hbb
   have e1 : (kk : Int) - (yb : Int) = ((kk - yb : Nat) : Int) := by omega
   have E1 := aA e1
   clear hbb hy e1
   go_wp2_with fail
   go_roundg (L - (i + 1))
   case rel => exact ⟨i + 1, kk - yb, by first | (rw [E1.out]) | go_num, by go_num, by omega, rfl, by omega, aA ⟨HBB.out, H1.out.2.alloc _⟩⟩
   case measure => omega
  exfalso
  obtain rfl : i = L := by omega
  have := H1.out.1
  rw [HEnd.out] at this
  simp at this
def oC (size : Nat) (runs : List aR) (i : Nat) : Bs := aN size ++ (aN runs.length ++ (runs.take i).flatMap gS)
theorem Ha (size : Nat) {runs : List aR} {i : Nat} {r : aR} (h : runs[i]? = some r) : oC size runs (i + 1) = (oC size runs i ++ aN r.1) ++ aN r.2 := by
 unfold oC
 rw [iK, h]
 simp [gS]
theorem Oi {size : Nat} (hs : size ≤ 32768) {runs : List aR} (hsm : pF runs 1000) (i : Nat) : (oC size runs i).length ≤ 20 + 20 * i := by
 induction i with
 | zero =>
  have h1 := gX (n := size) (by omega)
  have h2 := gX (n := runs.length) (by have := hsm.len; omega)
  simp [oC]; omega
 | succ i ih =>
  by_cases hi : i < runs.length
  ·rw [Ha size (bL hi)]
   have h1 := gX (n := runs[i].1) (by have := hsm.one _ (fX hi); omega)
   have h2 := gX (n := runs[i].2) (by have := Ao (fX hi); have := hsm.sum; omega)
   simp only [bD]; omega
  have : oC size runs (i + 1) = oC size runs i := by unfold oC; rw [dY (by omega), dY (by omega)]
  rw [this]; omega
theorem Oj (w : World) {base q size : Nat} {rv : Value} {runs : List aR} (h : iG w base q size rv runs) (hs : size ≤ 32768) (hsm : pF runs 1000) :
  Calls Tryz.prog 99 #[.pointer (some ⟨q, 0, none⟩)] w fun e w' => ∃ v', e = .returned v' ∧ Ow w' w.heap.size v' (aN size ++ aN runs.length ++ runs.flatMap gS) ∧ aB [] w w' := by
 have hB := h.1
 have c0 : w.cell? ⟨q, 0, none⟩ = some (.int .i64 size) := aD h.1 0
 have hrd := aK.rd TR h.2
 obtain ⟨av, cv, rfl, hc1, hc2, -⟩ := hrd.slice
 have HV := aA hrd
 have HSM := aA hsm
 have hL := hsm.len
 have HB := aA hB
 have HS : Hid (∀ i, i < runs.length → ∃ y, runs[i]? = some y) := aA fun i h => ⟨_, bL h⟩
 have HNl := aA fun i => Oi hs hsm i
 have HFin : Hid (oC size runs runs.length = aN size ++ aN runs.length ++ runs.flatMap gS) := aA (by simp [oC])
 have HP1 := aA (nX w (Rd.nil w) size (by omega) (by simp))
 have HP2 : Hid (∀ (W : World) (v : Value), Rd W v ([] ++ aN size) → Calls Tryz.prog 95 #[v, .int .u64 runs.length] W fun e w' => ∃ v', e = .returned v' ∧ Ow w' W.heap.size v' (oC size runs 0) ∧ aB [] W w') :=
  aA fun W v h => (nX W h runs.length (by omega) (by have := gX (n := size) (by omega); simp; omega)).mono fun e w' ⟨v', h1, h2, h3⟩ => ⟨v', h1, by simpa [oC] using h2, h3⟩
 generalize hLn : runs.length = L at *
 clear h hrd hsm hB hLn
 go_in
 go_wp2_with fail
 refine HP1.out.mono ?_
 rintro r w1 ⟨v1, rfl, ho, hU⟩
 have hb1 := (hU.block q (aH HB.out) (by simp)).trans HB.out
 have c1 : w1.cell? ⟨q, 1, none⟩ = some (.slice av L cv) := aD hb1 1
 have HU1 := aA hU
 have HB1 := aA hb1
 have HP2' := aA (HP2.out w1 v1 (Ow.rd ho))
 obtain ⟨a1, k1, m1, -, rfl⟩ := ho.sliceM
 clear ho hU hb1 HP1 HP2
 go_wp2_with fail
 refine HP2'.out.mono ?_
 rintro r w2 ⟨v2, rfl, ho, hU⟩
 have hb2 := (hU.block q (aH HB1.out) (by simp)).trans HB1.out
 have c1' : w2.cell? ⟨q, 1, none⟩ = some (.slice av L cv) := aD hb2 1
 have HU2 := aA (HU1.out.trans hU)
 have HO2 := aA (ho.base HU1.out.size)
 obtain ⟨a2, k2, m2, -, rfl⟩ := ho.sliceM
 clear ho hU hb2 HP2'
 go_wp2_with fail
 go_loopg [3, 27] L (fun gh v3 v27 wr => ∃ (i : Nat) (a3 : Option Addr) (m3 k3 : Nat), v3 = .slice a3 m3 k3 ∧ v27 = .int .i64 i ∧ i ≤ L ∧ gh = L - i ∧ Hid (Ow wr w.heap.size (.slice a3 m3 k3) (oC size runs i) ∧ aB [] w wr))
 case atStart => exact ⟨0, a2, _, _, rfl, rfl, by omega, rfl, aA ⟨HO2.out, HU2.out⟩⟩
 case round =>
  obtain ⟨i, a3, m3, k3, rfl, rfl, hi, rfl, H3⟩ := hrel
  by_cases hil : i < L
  ·have hlt : (i : Int) < (L : Int) := by omega
   obtain ⟨y, hy⟩ := HS.out i hil
   obtain ⟨b0, off, rfl, e0, e1⟩ := (HV.out.upd TR H3.out.2 (by simp)).runs hy
   have hya := HSM.out.one y (fC hy)
   have hyb := Ao (fC hy)
   have hsum := HSM.out.sum
   have HY := aA (Ha size hy)
   have hnl := HNl.out i
   obtain ⟨ya, yb⟩ := y
   dsimp only at *
   clear hy
   go_wp2_with fail
   generalize hW1 : wr.alloc _ = W1
   have hu1 : aB [] wr W1 := by rw [← hW1]; exact (aB.refl [] wr).alloc _
   have hX : W1.heap[wr.heap.size]? = some (.cells #[.int .i64 ya, .int .i64 yb] 148) := by rw [← hW1]; exact aX _ _
   clear hW1 e0 e1
   refine (nX W1 (Ow.rd (H3.out.1.upd hu1 (by simp))) ya (by omega) (by omega)).mono ?_
   rintro r w5 ⟨v5, rfl, ho5, hU5⟩
   have d1 : w5.cell? ⟨wr.heap.size, 1, none⟩ = some (.int .i64 yb) := eQ hU5 (aD hX 1)
   have HU5 := aA ((H3.out.2.trans hu1).trans hU5)
   have hpl := gX (n := ya) (by omega)
   have HP5 := aA (nX w5 (Ow.rd ho5) yb (by omega) (by rw [bD]; omega))
   obtain ⟨a5, k5, m5, -, rfl⟩ := ho5.sliceM
   clear ho5 hU5 hX hu1
   go_wp2_with fail
   refine HP5.out.mono ?_
   rintro r w6 ⟨v6, rfl, ho6, hU6⟩
   rw [← HY.out] at ho6
   have H6 := aA (aC (ho6.base HU5.out.size) (HU5.out.trans hU6))
   obtain ⟨a6, k6, m6, -, rfl⟩ := ho6.sliceM
   clear ho6 hU6 HP5
   go_wp2_with fail
   go_roundg (L - (i + 1))
   case rel => exact ⟨i + 1, a6, _, _, rfl, by go_num, by omega, rfl, H6⟩
   case measure => omega
  have hlt : ¬ (i : Int) < (L : Int) := by omega
  obtain rfl : i = L := by omega
  go_wp2_with fail
  go_ret
  exact ⟨_, rfl, by have := H3.out.1; rw [HFin.out, eJ] at this; exact this, H3.out.2⟩
end Go.Proofs.YtgpefiacbipfpaaGreatDoor
